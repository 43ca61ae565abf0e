/- reach.From: the contracts. -/
import Derived.Test.YtloeicnadchkpaaReach
namespace Go.Sl
open Go.Proofs
attribute [local irreducible] SLc SLl SLo SLf Pu Rd

theorem GraphR.mono {W : World} {σ σ' : List Chunk} {sl : Value} {G : List Node} (h : GraphR W σ' sl G) (he : Ent σ σ') : GraphR W σ sl G :=
  ⟨h.rs.mono he, fun x hx => (h.ins x hx).mono he, h.len, h.lens, fun x hx => let ⟨a, b, c, d, f⟩ := h.ones x hx; ⟨a.mono he, b.mono he, c.mono he, d.mono he, f.mono he⟩⟩
def bools (l : List Bool) : List (List Value) := l.map fun b => [.bool b]
theorem bools_at {l : List Bool} {k : Nat} {x : Bool} (h : l[k]? = some x) : (bools l)[k]? = some [.bool x] := by simp [bools, h]
theorem bools_len {l : List Bool} : (bools l).length = l.length := by simp [bools]
theorem bools_set {l : List Bool} {k : Nat} {b : Bool} : (bools l).set k [.bool b] = bools (l.set k b) := by simp [bools, List.map_set]
theorem bools_rep {m : Nat} : List.replicate m [Value.bool false] = bools (List.replicate m false) := by simp [bools]

def markAll (l : List Bool) (ins : List Int) : List Bool := ins.foldl (fun l q => l.set q.toNat true) l
def fromStep (G : List Node) (l : List Bool) (i : Nat) : List Bool := if l[i]? = some true then markAll l ((G[i]?.map (·.ins)).getD []) else l
def fromLoop (G : List Node) : Nat → List Bool → List Bool
  | 0, l => l
  | m + 1, l => fromLoop G m (fromStep G l m)
def fromL (G : List Node) (root : Nat) : List Bool := fromLoop G (root + 1) ((List.replicate G.length false).set root true)
theorem markAll_len (ins : List Int) : ∀ (l : List Bool), (markAll l ins).length = l.length := by
  induction ins with
  | nil => intro l; rfl
  | cons q r ih => intro l; show (markAll (l.set q.toNat true) r).length = _; rw [ih]; simp
theorem fromStep_len {G : List Node} {l : List Bool} {i : Nat} : (fromStep G l i).length = l.length := by
  unfold fromStep; split
  · exact markAll_len _ _
  · rfl
theorem fromLoop_len {G : List Node} : ∀ (m : Nat) (l : List Bool), (fromLoop G m l).length = l.length
  | 0, l => rfl
  | m + 1, l => by rw [fromLoop, fromLoop_len m, fromStep_len]
theorem fromL_len {G : List Node} {root : Nat} : (fromL G root).length = G.length := by
  unfold fromL; rw [fromLoop_len]; simp
theorem mayF_spec {G : List Node} {root : Int} (h : mayF G root = true) : 0 ≤ root ∧ root < G.length ∧ ∀ (k : Nat) x, G[k]? = some x → ∀ q ∈ x.ins, 0 ≤ q ∧ q < k := by
  unfold mayF at h
  simp only [Bool.and_eq_true, decide_eq_true_eq] at h
  refine ⟨h.2.1, h.2.2, fun k x hx q hq => ?_⟩
  have h1 := mayG_iff.1 h.1 k x hx
  unfold insOk at h1
  have := List.all_eq_true.1 h1 q hq
  simpa using this

theorem From_no (W : World) (F : List Chunk) (sl : Value) (G : List Node) (root : Int) (hg : GraphR W F sl G) (hm : mayF G root = false) :
    SLf Try.prog W 29 [.agg #[sl], .int .i64 root] F (fun v σ => v = .slice none 0 0 ∧ σ = F) := by
  refine SLf.enter Try.func29 rfl (Nat.le_of_ble_eq_true rfl) ?_
  (repeat' (first | (first | refine SLl.nil ?_ | ((show SLl _ _ _ _ _ (⟨⟨_, _, _, _, _, _⟩, _, _⟩ :: _) _ _ _); first | refine SLl.ev rfl rfl rfl rfl ?_ | ((show SLl _ _ _ _ _ (⟨⟨_, .load _ _, _, _, _, _⟩, _, _⟩ :: _) _ _ _); (refine SLl.rdSeq rfl rfl (Rd.loadN rfl rfl (by ((apply ReadsN.blk0; (· (repeat (apply Sel.here)))))) (by rfl)) ?_)) | ((show SLl _ _ _ _ _ (⟨⟨_, .box _ _, _, _, _, _⟩, _, _⟩ :: _) _ _ _); refine SLl.seq rfl rfl (SLo.boxC rfl (by (exact Cel.agg)) ?_); intro b))) | (first | refine SLc.seq ?_ | refine SLc.region rfl ?_)))
  refine SLl.seq rfl rfl (SLo.call plain80 rfl (SLf.mono (May_ok W _ sl G root (hg.mono (by (repeat' (first | exact Ent.refl | apply Ent.skip))))) ?_))
  rintro v σ ⟨hv, rfl⟩
  rw [hm] at hv
  subst hv
  (repeat' (first | (first | refine SLl.nil ?_ | ((show SLl _ _ _ _ _ (⟨⟨_, _, _, _, _, _⟩, _, _⟩ :: _) _ _ _); refine SLl.ev rfl rfl rfl rfl ?_)) | (first | refine SLc.seq ?_ | refine SLc.region rfl ?_ | refine SLc.condT rfl ?_ | refine SLc.ret ?_)))
  (refine And.intro rfl (Exists.intro _ (Exists.intro _ (And.intro rfl (And.intro ?_ (And.intro ?_ rfl))))); (· (repeat' (first | exact Ent.refl | apply Ent.skip))); (try rfl))

theorem From_yes (W : World) (F : List Chunk) (sl : Value) (G : List Node) (root : Nat) (hg : GraphR W F sl G) (hm : mayF G root = true) (hb : G.length ≤ 281474976710656) :
    SLf Try.prog W 29 [.agg #[sl], .int .i64 root] F (fun v σ => v ≠ .slice none 0 0 ∧ σ = .row v 4 1 (bools (fromL G root)) :: F) := by
  obtain ⟨h0, h1, hin⟩ := mayF_spec hm
  have hrs := hg.rs
  have hl := hg.len
  have hlen : (G.map Node.cells).length = G.length := by simp
  refine SLf.enter Try.func29 rfl (Nat.le_of_ble_eq_true rfl) ?_
  (repeat' (first | (first | refine SLl.nil ?_ | ((show SLl _ _ _ _ _ (⟨⟨_, _, _, _, _, _⟩, _, _⟩ :: _) _ _ _); first | refine SLl.ev rfl rfl rfl rfl ?_ | ((show SLl _ _ _ _ _ (⟨⟨_, .load _ _, _, _, _, _⟩, _, _⟩ :: _) _ _ _); (refine SLl.rdSeq rfl rfl (Rd.loadN rfl rfl (by ((apply ReadsN.blk0; (· (repeat (apply Sel.here)))))) (by rfl)) ?_)) | ((show SLl _ _ _ _ _ (⟨⟨_, .box _ _, _, _, _, _⟩, _, _⟩ :: _) _ _ _); refine SLl.seq rfl rfl (SLo.boxC rfl (by (exact Cel.agg)) ?_); intro b))) | (first | refine SLc.seq ?_ | refine SLc.region rfl ?_)))
  refine SLl.seq rfl rfl (SLo.call plain80 rfl (SLf.mono (May_ok W _ sl G root (hg.mono (by (repeat' (first | exact Ent.refl | apply Ent.skip))))) ?_))
  rintro v σ ⟨hv, rfl⟩
  rw [hm] at hv
  subst hv
  (repeat' (first | (first | refine SLl.nil ?_ | ((show SLl _ _ _ _ _ (⟨⟨_, _, _, _, _, _⟩, _, _⟩ :: _) _ _ _); first | refine SLl.ev rfl rfl rfl rfl ?_ | ((show SLl _ _ _ _ _ (⟨⟨_, .load _ _, _, _, _, _⟩, _, _⟩ :: _) _ _ _); (refine SLl.rdSeq rfl rfl (Rd.load rfl rfl (by ((apply Reads.blk; (· (repeat (apply Sel.here))); (· rfl))))) ?_)) | ((show SLl _ _ _ _ _ (⟨⟨_, .fieldAddr _ _ _, _, _, _, _⟩, _, _⟩ :: _) _ _ _); (refine SLl.pu rfl rfl rfl (Pu.fieldAddr rfl) ?_)) | ((show SLl _ _ _ _ _ (⟨⟨_, .call ⟨.builtin .len, _, _⟩, _, _, _, _⟩, _, _⟩ :: _) _ _ _); refine SLl.rdSeq rfl rfl (Rd.len rfl (by ((apply Len.rs; exact Rs.mono (by assumption) (by (repeat' (first | exact Ent.refl | apply Ent.skip))))))) ?_))) | (first | refine SLc.seq ?_ | refine SLc.region rfl ?_ | refine SLc.condF rfl ?_ | refine SLc.skip ?_)))
  refine SLl.seq rfl rfl (SLo.makeSlice (by rfl) (by omega) rfl rfl (by omega) (by omega) ?_)
  intro out hout
  rw [bools_rep, hlen]
  have hbl := @bools_len (List.replicate G.length false)
  have hrl : (List.replicate G.length false).length = G.length := by simp
  have hat : (bools (List.replicate G.length false))[root]? = some [.bool false] := bools_at (by rw [List.getElem?_replicate, if_pos (by omega)])
  (repeat' (first | (first | refine SLl.nil ?_ | ((show SLl _ _ _ _ _ (⟨⟨_, _, _, _, _, _⟩, _, _⟩ :: _) _ _ _); first | refine SLl.ev rfl rfl rfl rfl ?_ | ((show SLl _ _ _ _ _ (⟨⟨_, .indexAddr _ _ _, _, _, _, _⟩, _, _⟩ :: _) _ _ _); (refine SLl.rdSeq rfl rfl (Rd.indexAddr rfl rfl (by ((apply Len.row; (· (repeat (apply Sel.here)))))) (by (rfl)) (by omega)) ?_)) | ((show SLl _ _ _ _ _ (⟨⟨_, .store _ _ _, _, _, _, _⟩, _, _⟩ :: _) _ _ _); ((refine SLl.seq0 rfl (SLo.store rfl rfl rfl (by (exact One.lit rfl)) (by ((apply Wr.row; (· (assumption)); (· exact Nat.le_of_ble_eq_true rfl); (· (repeat (apply Upd.here)))))) ?_)))))) | (first | refine SLc.seq ?_ | refine SLc.region rfl ?_ | refine SLc.block ?_)))
  refine SLc.loop (ι := Int × List Bool) (fun p => [(6, .int .i64 p.1), (5, out), (2, .pointer (some ⟨b, 0, none⟩))]) (fun p => .row out 4 1 (bools p.2) :: .blk b 24 [sl] :: F)
    (fun p => -1 ≤ p.1 ∧ p.1 < G.length ∧ p.2.length = G.length ∧ fromLoop G (p.1 + 1).toNat p.2 = fromL G root) (fun p => (p.1 + 1).toNat) ((root : Int), (List.replicate G.length false).set root true)
    ⟨by omega, by omega, by simp, by simp [fromL]⟩ (by (repeat' (first | exact trivial | apply And.intro | rfl))) (Ent.row bools_set .refl) ?_
  rintro ⟨i, l⟩ ⟨hi1, hi2, hll, hfr⟩
  dsimp only at hi1 hi2 hll hfr ⊢
  have hbl := @bools_len l
  by_cases hpos : 0 ≤ i
  · obtain ⟨k, rfl⟩ := Int.eq_ofNat_of_zero_le hpos
    have hk : k < l.length := by omega
    have hlk : l[k]? = some l[k] := List.getElem?_eq_getElem hk
    have hx : G[k]? = some (G[k]'(by omega)) := List.getElem?_eq_getElem (by omega)
    generalize G[k]'(by omega) = x at hx
    have hca := cells_at hx
    have hxi := hg.ins x (List.mem_of_getElem? hx)
    have hxl := hg.lens x (List.mem_of_getElem? hx)
    have hstep : fromLoop G (k + 1) l = fromLoop G k (fromStep G l k) := rfl
    have hto : ((k : Int) + 1).toNat = k + 1 := by omega
    rw [hto, hstep] at hfr
    have hto2 : ((k : Int) - 1 + 1).toNat = k := by omega
    cases hb0 : l[k] with
    | false =>
      rw [hb0] at hlk
      have hba := bools_at hlk
      have hst : fromStep G l k = l := by unfold fromStep; rw [if_neg (by rw [hlk]; simp)]
      rw [hst] at hfr
      (repeat' (first | (first | refine SLl.nil ?_ | ((show SLl _ _ _ _ _ (⟨⟨_, _, _, _, _, _⟩, _, _⟩ :: _) _ _ _); first | refine SLl.ev rfl rfl rfl rfl ?_ | ((show SLl _ _ _ _ _ (⟨⟨_, .load _ _, _, _, _, _⟩, _, _⟩ :: _) _ _ _); (refine SLl.rdSeq rfl rfl (Rd.load rfl rfl (by ((apply Reads.row; (· (repeat (apply Sel.here))); (· (assumption)); (· rfl))))) ?_)) | ((show SLl _ _ _ _ _ (⟨⟨_, .indexAddr _ _ _, _, _, _, _⟩, _, _⟩ :: _) _ _ _); (refine SLl.rdSeq rfl rfl (Rd.indexAddr rfl rfl (by ((apply Len.row; (· (repeat (apply Sel.here)))))) (by (rfl)) (by omega)) ?_)) | ((show SLl _ _ _ _ _ (⟨⟨_, .binOp _ _ _ _ _, _, _, _, _⟩, _, _⟩ :: _) _ _ _); (first | refine SLl.pu rfl rfl rfl (Pu.sub rfl rfl (IntWalk.i64_in _ (by omega))) ?_ | (refine SLl.cmp rfl rfl rfl rfl rfl rfl ?_ ?_ <;> intro hq <;> simp only [cmpP] at hq <;> try ((exfalso; omega))))))) | (first | refine SLc.seq ?_ | refine SLc.region rfl ?_ | refine SLc.condT rfl ?_ | refine SLc.block ?_ | refine SLc.skip ?_ | refine SLc.exit ?_)))
      refine And.intro rfl (Exists.intro ((k : Int) - 1, l) (And.intro ⟨by simp only; omega, by simp only; omega, hll, by simp only; rw [hto2]; exact hfr⟩ (And.intro (by simp only; omega) (And.intro (by (repeat' (first | exact trivial | apply And.intro | rfl))) .refl))))
    | true =>
      rw [hb0] at hlk
      have hba := bools_at hlk
      have hst : fromStep G l k = markAll l x.ins := by unfold fromStep; rw [if_pos hlk, hx]; rfl
      rw [hst] at hfr
      (repeat' (first | (first | refine SLl.nil ?_ | ((show SLl _ _ _ _ _ (⟨⟨_, _, _, _, _, _⟩, _, _⟩ :: _) _ _ _); first | refine SLl.ev rfl rfl rfl rfl ?_ | ((show SLl _ _ _ _ _ (⟨⟨_, .load _ _, _, _, _, _⟩, _, _⟩ :: _) _ _ _); (refine SLl.rdSeq rfl rfl (Rd.load rfl rfl (by (first | (apply Reads.blk; (· (repeat (first | apply Sel.here | apply Sel.there))); (· rfl)) | (apply Reads.row; (· (repeat (first | apply Sel.here | apply Sel.there))); (· (assumption)); (· rfl)) | (apply Reads.rs; (· exact Rs.mono (by assumption) (by (repeat' (first | exact Ent.refl | apply Ent.skip)))); (· (assumption)); (· rfl))))) ?_)) | ((show SLl _ _ _ _ _ (⟨⟨_, .fieldAddr _ _ _, _, _, _, _⟩, _, _⟩ :: _) _ _ _); (first | refine SLl.pu rfl rfl rfl (Pu.fieldAddr rfl) ?_ | refine SLl.rdSeq rfl rfl (Rd.fieldAddrEl rfl (by ((apply Len.rs; exact Rs.mono (by assumption) (by (repeat' (first | exact Ent.refl | apply Ent.skip)))))) (by omega)) ?_)) | ((show SLl _ _ _ _ _ (⟨⟨_, .indexAddr _ _ _, _, _, _, _⟩, _, _⟩ :: _) _ _ _); (refine SLl.rdSeq rfl rfl (Rd.indexAddr rfl rfl (by (first | (apply Len.row; (· (repeat (first | apply Sel.here | apply Sel.there)))) | (apply Len.rs; exact Rs.mono (by assumption) (by (repeat' (first | exact Ent.refl | apply Ent.skip)))))) (by (rfl)) (by omega)) ?_)) | ((show SLl _ _ _ _ _ (⟨⟨_, .call ⟨.builtin .len, _, _⟩, _, _, _, _⟩, _, _⟩ :: _) _ _ _); refine SLl.rdSeq rfl rfl (Rd.len rfl (by ((apply Len.rs; exact Rs.mono (by assumption) (by (repeat' (first | exact Ent.refl | apply Ent.skip))))))) ?_) | ((show SLl _ _ _ _ _ (⟨⟨_, .binOp _ _ _ _ _, _, _, _, _⟩, _, _⟩ :: _) _ _ _); ((refine SLl.cmp rfl rfl rfl rfl rfl rfl ?_ ?_ <;> intro hq <;> simp only [cmpP] at hq <;> try ((exfalso; omega))))))) | (first | refine SLc.seq ?_ | refine SLc.region rfl ?_ | refine SLc.condT rfl ?_ | refine SLc.condF rfl ?_ | refine SLc.block ?_ | refine SLc.skip ?_)))
      have hil := @ints_len x.ins
      refine SLc.loop (ι := Nat × List Bool) (fun p => [(37, .int .i64 p.1), (36, .int .i64 (ints x.ins).length), (35, x.inv), (6, .int .i64 k), (5, out), (2, .pointer (some ⟨b, 0, none⟩))]) (fun p => .row out 4 1 (bools p.2) :: .blk b 24 [sl] :: F)
        (fun p => p.1 ≤ x.ins.length ∧ p.2.length = G.length ∧ markAll p.2 (x.ins.drop p.1) = markAll l x.ins) (fun p => x.ins.length - p.1) (0, l)
        ⟨Nat.zero_le _, hll, rfl⟩ (by (repeat' (first | exact trivial | apply And.intro | rfl))) .refl ?_
      rintro ⟨j, l'⟩ ⟨hj, hll', hma⟩
      dsimp only at hj hll' hma ⊢
      have hbl' := @bools_len l'
      by_cases hlj : j < x.ins.length
      · have hxj : x.ins[j]? = some x.ins[j] := List.getElem?_eq_getElem hlj
        have hdr : x.ins.drop j = x.ins[j] :: x.ins.drop (j + 1) := List.drop_eq_getElem_cons hlj
        have hq0 := hin k x hx x.ins[j] (List.getElem_mem hlj)
        generalize x.ins[j] = q at hxj hdr hq0
        obtain ⟨qn, rfl⟩ := Int.eq_ofNat_of_zero_le hq0.1
        have hcj := ints_at hxj
        have hqn : qn < l'.length := by omega
        have hbq : (bools l')[qn]? = some [.bool l'[qn]] := bools_at (List.getElem?_eq_getElem hqn)
        rw [hdr] at hma
        (repeat' (first | (first | refine SLl.nil ?_ | ((show SLl _ _ _ _ _ (⟨⟨_, _, _, _, _, _⟩, _, _⟩ :: _) _ _ _); first | refine SLl.ev rfl rfl rfl rfl ?_ | ((show SLl _ _ _ _ _ (⟨⟨_, .load _ _, _, _, _, _⟩, _, _⟩ :: _) _ _ _); (refine SLl.rdSeq rfl rfl (Rd.load rfl rfl (by ((apply Reads.rs; (· exact Rs.mono (by assumption) (by (repeat' (first | exact Ent.refl | apply Ent.skip)))); (· (assumption)); (· rfl))))) ?_)) | ((show SLl _ _ _ _ _ (⟨⟨_, .indexAddr _ _ _, _, _, _, _⟩, _, _⟩ :: _) _ _ _); (refine SLl.rdSeq rfl rfl (Rd.indexAddr rfl rfl (by (first | (apply Len.row; (· (repeat (first | apply Sel.here | apply Sel.there)))) | (apply Len.rs; exact Rs.mono (by assumption) (by (repeat' (first | exact Ent.refl | apply Ent.skip)))))) (by (rfl)) (by omega)) ?_)) | ((show SLl _ _ _ _ _ (⟨⟨_, .binOp _ _ _ _ _, _, _, _, _⟩, _, _⟩ :: _) _ _ _); (first | refine SLl.pu rfl rfl rfl (Pu.add rfl rfl (IntWalk.i64_in _ (by omega))) ?_ | (refine SLl.cmp rfl rfl rfl rfl rfl rfl ?_ ?_ <;> intro hq <;> simp only [cmpP] at hq <;> try ((exfalso; omega))))) | ((show SLl _ _ _ _ _ (⟨⟨_, .store _ _ _, _, _, _, _⟩, _, _⟩ :: _) _ _ _); ((refine SLl.seq0 rfl (SLo.store rfl rfl rfl (by (exact One.lit rfl)) (by ((apply Wr.row; (· (assumption)); (· exact Nat.le_of_ble_eq_true rfl); (· (repeat (apply Upd.here)))))) ?_)))))) | (first | refine SLc.seq ?_ | refine SLc.region rfl ?_ | refine SLc.condT rfl ?_ | refine SLc.block ?_ | refine SLc.skip ?_)))
        refine And.intro rfl (Exists.intro (j + 1, l'.set qn true) (And.intro ⟨by dsimp only; omega, by simp [hll'], hma⟩ (And.intro (by dsimp only; omega) (And.intro (by (repeat' (first | exact trivial | apply And.intro | rfl))) (Ent.row bools_set .refl)))))
      · have hj' : x.ins.drop j = [] := List.drop_eq_nil_of_le (by omega)
        rw [hj'] at hma
        have hma' : l' = markAll l x.ins := hma
        rw [← hma'] at hfr
        (repeat' (first | (first | refine SLl.nil ?_ | ((show SLl _ _ _ _ _ (⟨⟨_, _, _, _, _, _⟩, _, _⟩ :: _) _ _ _); first | refine SLl.ev rfl rfl rfl rfl ?_ | ((show SLl _ _ _ _ _ (⟨⟨_, .binOp _ _ _ _ _, _, _, _, _⟩, _, _⟩ :: _) _ _ _); (first | refine SLl.pu rfl rfl rfl (Pu.sub rfl rfl (IntWalk.i64_in _ (by omega))) ?_ | (refine SLl.cmp rfl rfl rfl rfl rfl rfl ?_ ?_ <;> intro hq <;> simp only [cmpP] at hq <;> try ((exfalso; omega))))))) | (first | refine SLc.seq ?_ | refine SLc.region rfl ?_ | refine SLc.condF rfl ?_ | refine SLc.exit ?_)))
        refine And.intro rfl (Exists.intro ((k : Int) - 1, l') (And.intro ⟨by dsimp only; omega, by dsimp only; omega, hll', by dsimp only; rw [hto2]; exact hfr⟩ (And.intro (by dsimp only; omega) (And.intro (by (repeat' (first | exact trivial | apply And.intro | rfl))) .refl))))
  · have hi0 : (i + 1).toNat = 0 := by omega
    rw [hi0] at hfr
    have hfr' : l = fromL G root := hfr
    subst hfr'
    (repeat' (first | (first | refine SLl.nil ?_ | ((show SLl _ _ _ _ _ (⟨⟨_, _, _, _, _, _⟩, _, _⟩ :: _) _ _ _); first | refine SLl.ev rfl rfl rfl rfl ?_ | ((show SLl _ _ _ _ _ (⟨⟨_, .binOp _ _ _ _ _, _, _, _, _⟩, _, _⟩ :: _) _ _ _); ((refine SLl.cmp rfl rfl rfl rfl rfl rfl ?_ ?_ <;> intro hq <;> simp only [cmpP] at hq <;> try ((exfalso; omega))))))) | (first | refine SLc.seq ?_ | refine SLc.region rfl ?_ | refine SLc.condF rfl ?_ | refine SLc.exit ?_ | refine SLc.ret ?_)))
    refine And.intro rfl (Exists.intro _ (Exists.intro _ (And.intro rfl (And.intro ?_ (And.intro hout rfl)))))
    (repeat' (first | exact Ent.refl | (refine Ent.cons (by (repeat (apply Sel.here))) ?_) | apply Ent.skip))
end Go.Sl
