/- reach.Users: the contracts. -/
import Derived.Test.YtloeicnadchkpaaReach2
namespace Go.Sl
open Go.Proofs
attribute [local irreducible] SLc SLl SLo SLf Pu Rd

abbrev Uses := List (Int × Int)
def usesV (u : Uses) : List (List Value) := u.map fun p => [.int .i64 p.1, .int .i64 p.2]
theorem usesV_len {u : Uses} : (usesV u).length = u.length := by simp [usesV]
/-- Users of every node: each a slice value with what it holds. -/
abbrev UPairs := List (Value × Uses)
def urow (p : Value × Uses) : Chunk := .row p.1 39 2 (usesV p.2)
def uvals (ps : UPairs) : List (List Value) := ps.map fun p => [p.1]
theorem uvals_len {ps : UPairs} : (uvals ps).length = ps.length := by simp [uvals]
theorem uvals_at {ps : UPairs} {k : Nat} {p : Value × Uses} (h : ps[k]? = some p) : (uvals ps)[k]? = some [p.1] := by simp [uvals, h]
theorem uvals_set {ps : UPairs} {k : Nat} {p : Value × Uses} : (uvals ps).set k [p.1] = uvals (ps.set k p) := by simp [uvals, List.map_set]

def addUse (us : List Uses) (k : Nat) (x : Int × Int) : List Uses := us.set k ((us[k]?).getD [] ++ [x])
def addAll (i : Nat) : Nat → List Int → List Uses → List Uses
  | _, [], us => us
  | s, q :: r, us => addAll i (s + 1) r (addUse us q.toNat ((i : Int), (s : Int)))
def usersStep (G : List Node) (r : List Bool) (us : List Uses) (i : Nat) : List Uses := if r[i]? = some true then addAll i 0 ((G[i]?.map (·.ins)).getD []) us else us
def usersLoop (G : List Node) (r : List Bool) : Nat → List Uses → List Uses
  | 0, us => us
  | m + 1, us => usersLoop G r m (usersStep G r us m)
def usersL (G : List Node) (root : Nat) : List Uses := usersLoop G (fromL G root) (root + 1) (List.replicate G.length [])
def insSum (G : List Node) : Nat := (G.map fun x => x.ins.length).sum
theorem insSum_take {G : List Node} {k : Nat} {x : Node} (h : G[k]? = some x) : insSum (G.take (k + 1)) = insSum (G.take k) + x.ins.length := by
  obtain ⟨hk, rfl⟩ := List.getElem?_eq_some_iff.1 h
  unfold insSum
  rw [List.take_succ_eq_append_getElem hk, List.map_append, List.sum_append]
  simp only [List.map_cons, List.map_nil, List.sum_cons, List.sum_nil]
  omega
theorem insSum_le {G : List Node} (k : Nat) : insSum (G.take k) ≤ insSum G := by
  have h : insSum G = insSum (G.take k) + insSum (G.drop k) := by
    unfold insSum
    rw [← List.sum_append, ← List.map_append, List.take_append_drop]
  omega

theorem Users_no (W : World) (F : List Chunk) (sl : Value) (G : List Node) (root : Int) (hg : GraphR W F sl G) (hm : mayF G root = false) :
    SLf Try.prog W 30 [.agg #[sl], .int .i64 root] F (fun v σ => v = .slice none 0 0 ∧ σ = F) := by
  refine SLf.enter Try.func30 rfl (Nat.le_of_ble_eq_true rfl) ?_
  (repeat' (first | (first | refine SLl.nil ?_ | ((show SLl _ _ _ _ _ (⟨⟨_, _, _, _, _, _⟩, _, _⟩ :: _) _ _ _); first | refine SLl.ev rfl rfl rfl rfl ?_ | ((show SLl _ _ _ _ _ (⟨⟨_, .load _ _, _, _, _, _⟩, _, _⟩ :: _) _ _ _); (refine SLl.rdSeq rfl rfl (Rd.loadN rfl rfl (by ((apply ReadsN.blk0; (· (repeat (apply Sel.here)))))) (by rfl)) ?_)) | ((show SLl _ _ _ _ _ (⟨⟨_, .box _ _, _, _, _, _⟩, _, _⟩ :: _) _ _ _); refine SLl.seq rfl rfl (SLo.boxC rfl (by (exact Cel.agg)) ?_); intro b))) | (first | refine SLc.seq ?_ | refine SLc.region rfl ?_)))
  refine SLl.seq rfl rfl (SLo.call plain29 rfl (SLf.mono (From_no W _ sl G root (hg.mono (by (repeat' (first | exact Ent.refl | apply Ent.skip)))) hm) ?_))
  rintro v σ ⟨rfl, rfl⟩
  (repeat' (first | (first | refine SLl.nil ?_ | ((show SLl _ _ _ _ _ (⟨⟨_, _, _, _, _, _⟩, _, _⟩ :: _) _ _ _); first | refine SLl.ev rfl rfl rfl rfl ?_ | ((show SLl _ _ _ _ _ (⟨⟨_, .binOp _ _ _ _ _, _, _, _, _⟩, _, _⟩ :: _) _ _ _); (refine SLl.pu rfl rfl rfl (Pu.eqNilT rfl rfl) ?_)))) | (first | refine SLc.seq ?_ | refine SLc.region rfl ?_ | refine SLc.condT rfl ?_ | refine SLc.ret ?_)))
  (refine And.intro rfl (Exists.intro _ (Exists.intro _ (And.intro rfl (And.intro ?_ (And.intro ?_ rfl))))); (· (repeat' (first | exact Ent.refl | apply Ent.skip))); (try rfl))

set_option maxHeartbeats 2000000 in
theorem Users_yes (W : World) (F : List Chunk) (sl : Value) (G : List Node) (root : Nat) (hg : GraphR W F sl G) (hm : mayF G root = true) (hb : G.length ≤ 1000000) (hs : insSum G ≤ 1000000) :
    SLf Try.prog W 30 [.agg #[sl], .int .i64 root] F (fun v σ => v ≠ .slice none 0 0 ∧ ∃ ps : UPairs, ps.map (·.2) = usersL G root ∧ σ = .row v 36 1 (uvals ps) :: (ps.map urow ++ F)) := by
  obtain ⟨h0, h1, hin⟩ := mayF_spec hm
  have hrs := hg.rs
  have hl := hg.len
  have hlen : (G.map Node.cells).length = G.length := by simp
  refine SLf.enter Try.func30 rfl (Nat.le_of_ble_eq_true rfl) ?_
  (repeat' (first | (first | refine SLl.nil ?_ | ((show SLl _ _ _ _ _ (⟨⟨_, _, _, _, _, _⟩, _, _⟩ :: _) _ _ _); first | refine SLl.ev rfl rfl rfl rfl ?_ | ((show SLl _ _ _ _ _ (⟨⟨_, .load _ _, _, _, _, _⟩, _, _⟩ :: _) _ _ _); (refine SLl.rdSeq rfl rfl (Rd.loadN rfl rfl (by ((apply ReadsN.blk0; (· (repeat (apply Sel.here)))))) (by rfl)) ?_)) | ((show SLl _ _ _ _ _ (⟨⟨_, .box _ _, _, _, _, _⟩, _, _⟩ :: _) _ _ _); refine SLl.seq rfl rfl (SLo.boxC rfl (by (exact Cel.agg)) ?_); intro b))) | (first | refine SLc.seq ?_ | refine SLc.region rfl ?_)))
  refine SLl.seq rfl rfl (SLo.call plain29 rfl (SLf.mono (From_yes W _ sl G root (hg.mono (by (repeat' (first | exact Ent.refl | apply Ent.skip)))) hm (by omega)) ?_))
  rintro rv σ ⟨hrv, rfl⟩
  have hfl := @fromL_len G root
  generalize hR : fromL G root = R at hfl
  have hRl := @bools_len R
  (repeat' (first | (first | refine SLl.nil ?_ | ((show SLl _ _ _ _ _ (⟨⟨_, _, _, _, _, _⟩, _, _⟩ :: _) _ _ _); first | refine SLl.ev rfl rfl rfl rfl ?_ | ((show SLl _ _ _ _ _ (⟨⟨_, .load _ _, _, _, _, _⟩, _, _⟩ :: _) _ _ _); (refine SLl.rdSeq rfl rfl (Rd.load rfl rfl (by ((apply Reads.blk; (· (repeat (first | apply Sel.here | apply Sel.there))); (· rfl))))) ?_)) | ((show SLl _ _ _ _ _ (⟨⟨_, .fieldAddr _ _ _, _, _, _, _⟩, _, _⟩ :: _) _ _ _); (refine SLl.pu rfl rfl rfl (Pu.fieldAddr rfl) ?_)) | ((show SLl _ _ _ _ _ (⟨⟨_, .call ⟨.builtin .len, _, _⟩, _, _, _, _⟩, _, _⟩ :: _) _ _ _); refine SLl.rdSeq rfl rfl (Rd.len rfl (by ((apply Len.rs; exact Rs.mono (by assumption) (by (repeat' (first | exact Ent.refl | apply Ent.skip))))))) ?_) | ((show SLl _ _ _ _ _ (⟨⟨_, .binOp _ _ _ _ _, _, _, _, _⟩, _, _⟩ :: _) _ _ _); (refine SLl.rdSeq rfl rfl (Rd.eqNilF rfl rfl (by ((apply Len.row; (· (repeat (apply Sel.here)))))) (by assumption)) ?_)))) | (first | refine SLc.seq ?_ | refine SLc.region rfl ?_ | refine SLc.condF rfl ?_ | refine SLc.skip ?_)))
  refine SLl.seq rfl rfl (SLo.makeSlice (by rfl) (by omega) rfl rfl (by omega) (by omega) ?_)
  intro out hout
  (repeat' (first | (first | refine SLl.nil ?_ | ((show SLl _ _ _ _ _ (⟨⟨_, _, _, _, _, _⟩, _, _⟩ :: _) _ _ _); refine SLl.ev rfl rfl rfl rfl ?_)) | (first | refine SLc.seq ?_ | refine SLc.region rfl ?_ | refine SLc.block ?_)))
  refine SLc.loop (ι := Int × UPairs) (fun p => [(7, .int .i64 p.1), (6, out), (5, rv), (2, .pointer (some ⟨b, 0, none⟩))]) (fun p => .row out 36 1 (uvals p.2) :: .row rv 4 1 (bools R) :: .blk b 24 [sl] :: (p.2.map urow ++ F))
    (fun p => -1 ≤ p.1 ∧ p.1 < G.length ∧ p.2.length = G.length ∧ usersLoop G R (p.1 + 1).toNat (p.2.map (·.2)) = usersL G root ∧ ∀ x ∈ p.2, x.2.length + insSum (G.take (p.1 + 1).toNat) ≤ insSum G) (fun p => (p.1 + 1).toNat)
    ((root : Int), List.replicate G.length (.slice none 0 0, [])) ⟨by omega, by omega, by simp, by dsimp only; rw [show ((root : Int) + 1).toNat = root + 1 by omega]; unfold usersL; rw [hR]; simp, ?_⟩ (by (repeat' (first | exact trivial | apply And.intro | rfl))) ?_ ?_
  · intro x hx
    have := insSum_le (G := G) ((root : Int) + 1).toNat
    rw [(List.mem_replicate.1 hx).2]
    simpa using this
  · dsimp only
    refine Ent.row (by simp [uvals]) (.cons .here (.cons .here ?_))
    have := Ent.nils (ty := 39) (size := 2) G.length (σ := F)
    simpa [urow, usesV] using this
  rintro ⟨i, ps⟩ ⟨hi1, hi2, hll, hfr, hbd⟩
  dsimp only at hi1 hi2 hll hfr hbd ⊢
  have hbl := @uvals_len ps
  by_cases hpos : 0 ≤ i
  · obtain ⟨k, rfl⟩ := Int.eq_ofNat_of_zero_le hpos
    have hk : k < R.length := by omega
    have hlk : R[k]? = some R[k] := List.getElem?_eq_getElem hk
    have hx : G[k]? = some (G[k]'(by omega)) := List.getElem?_eq_getElem (by omega)
    generalize G[k]'(by omega) = x at hx
    have hca := cells_at hx
    have hxi := hg.ins x (List.mem_of_getElem? hx)
    have hxl := hg.lens x (List.mem_of_getElem? hx)
    have hstep : usersLoop G R (k + 1) (ps.map (·.2)) = usersLoop G R k (usersStep G R (ps.map (·.2)) k) := rfl
    have hto : ((k : Int) + 1).toNat = k + 1 := by omega
    rw [hto, hstep] at hfr
    rw [hto] at hbd
    have hto2 : ((k : Int) - 1 + 1).toNat = k := by omega
    have hsum := insSum_take hx
    cases hb0 : R[k] with
    | false =>
      rw [hb0] at hlk
      have hba := bools_at hlk
      have hst : usersStep G R (ps.map (·.2)) k = ps.map (·.2) := by unfold usersStep; rw [if_neg (by rw [hlk]; simp)]
      rw [hst] at hfr
      (repeat' (first | (first | refine SLl.nil ?_ | ((show SLl _ _ _ _ _ (⟨⟨_, _, _, _, _, _⟩, _, _⟩ :: _) _ _ _); first | refine SLl.ev rfl rfl rfl rfl ?_ | ((show SLl _ _ _ _ _ (⟨⟨_, .load _ _, _, _, _, _⟩, _, _⟩ :: _) _ _ _); (refine SLl.rdSeq rfl rfl (Rd.load rfl rfl (by ((apply Reads.row; (· (repeat (first | apply Sel.here | apply Sel.there))); (· (assumption)); (· rfl))))) ?_)) | ((show SLl _ _ _ _ _ (⟨⟨_, .indexAddr _ _ _, _, _, _, _⟩, _, _⟩ :: _) _ _ _); (refine SLl.rdSeq rfl rfl (Rd.indexAddr rfl rfl (by ((apply Len.row; (· (repeat (first | apply Sel.here | apply Sel.there)))))) (by (rfl)) (by omega)) ?_)) | ((show SLl _ _ _ _ _ (⟨⟨_, .binOp _ _ _ _ _, _, _, _, _⟩, _, _⟩ :: _) _ _ _); (first | refine SLl.pu rfl rfl rfl (Pu.sub rfl rfl (IntWalk.i64_in _ (by omega))) ?_ | (refine SLl.cmp rfl rfl rfl rfl rfl rfl ?_ ?_ <;> intro hq <;> simp only [cmpP] at hq <;> try ((exfalso; omega))))))) | (first | refine SLc.seq ?_ | refine SLc.region rfl ?_ | refine SLc.condT rfl ?_ | refine SLc.block ?_ | refine SLc.skip ?_ | refine SLc.exit ?_)))
      refine And.intro rfl (Exists.intro ((k : Int) - 1, ps) (And.intro ⟨by dsimp only; omega, by dsimp only; omega, hll, by dsimp only; rw [hto2]; exact hfr, ?_⟩ (And.intro (by dsimp only; omega) (And.intro (by (repeat' (first | exact trivial | apply And.intro | rfl))) .refl))))
      dsimp only
      rw [hto2]
      intro y hy
      have := hbd y hy
      omega
    | true =>
      rw [hb0] at hlk
      have hba := bools_at hlk
      have hst : usersStep G R (ps.map (·.2)) k = addAll k 0 x.ins (ps.map (·.2)) := by unfold usersStep; rw [if_pos hlk, hx]; rfl
      rw [hst] at hfr
      (repeat' (first | (first | refine SLl.nil ?_ | ((show SLl _ _ _ _ _ (⟨⟨_, _, _, _, _, _⟩, _, _⟩ :: _) _ _ _); first | refine SLl.ev rfl rfl rfl rfl ?_ | ((show SLl _ _ _ _ _ (⟨⟨_, .load _ _, _, _, _, _⟩, _, _⟩ :: _) _ _ _); (refine SLl.rdSeq rfl rfl (Rd.load rfl rfl (by (first | (apply Reads.blk; (· (repeat (first | apply Sel.here | apply Sel.there))); (· rfl)) | (apply Reads.row; (· (repeat (first | apply Sel.here | apply Sel.there))); (· (assumption)); (· rfl)) | (apply Reads.rs; (· exact Rs.mono (by assumption) (by (repeat' (first | exact Ent.appR | apply Ent.skip)))); (· (assumption)); (· rfl))))) ?_)) | ((show SLl _ _ _ _ _ (⟨⟨_, .fieldAddr _ _ _, _, _, _, _⟩, _, _⟩ :: _) _ _ _); (first | refine SLl.pu rfl rfl rfl (Pu.fieldAddr rfl) ?_ | refine SLl.rdSeq rfl rfl (Rd.fieldAddrEl rfl (by ((apply Len.rs; exact Rs.mono (by assumption) (by (repeat' (first | exact Ent.appR | apply Ent.skip)))))) (by omega)) ?_)) | ((show SLl _ _ _ _ _ (⟨⟨_, .indexAddr _ _ _, _, _, _, _⟩, _, _⟩ :: _) _ _ _); (refine SLl.rdSeq rfl rfl (Rd.indexAddr rfl rfl (by (first | (apply Len.row; (· (repeat (first | apply Sel.here | apply Sel.there)))) | (apply Len.rs; exact Rs.mono (by assumption) (by (repeat' (first | exact Ent.appR | apply Ent.skip)))))) (by (rfl)) (by omega)) ?_)) | ((show SLl _ _ _ _ _ (⟨⟨_, .call ⟨.builtin .len, _, _⟩, _, _, _, _⟩, _, _⟩ :: _) _ _ _); refine SLl.rdSeq rfl rfl (Rd.len rfl (by ((apply Len.rs; exact Rs.mono (by assumption) (by (repeat' (first | exact Ent.appR | apply Ent.skip))))))) ?_) | ((show SLl _ _ _ _ _ (⟨⟨_, .binOp _ _ _ _ _, _, _, _, _⟩, _, _⟩ :: _) _ _ _); ((refine SLl.cmp rfl rfl rfl rfl rfl rfl ?_ ?_ <;> intro hq <;> simp only [cmpP] at hq <;> try ((exfalso; omega))))))) | (first | refine SLc.seq ?_ | refine SLc.region rfl ?_ | refine SLc.condT rfl ?_ | refine SLc.condF rfl ?_ | refine SLc.block ?_ | refine SLc.skip ?_)))
      have hil := @ints_len x.ins
      refine SLc.loop (ι := Nat × UPairs) (fun p => [(36, .int .i64 p.1), (35, .int .i64 (ints x.ins).length), (34, x.inv), (7, .int .i64 k), (6, out), (5, rv), (2, .pointer (some ⟨b, 0, none⟩))]) (fun p => .row out 36 1 (uvals p.2) :: .row rv 4 1 (bools R) :: .blk b 24 [sl] :: (p.2.map urow ++ F))
        (fun p => p.1 ≤ x.ins.length ∧ p.2.length = G.length ∧ addAll k p.1 (x.ins.drop p.1) (p.2.map (·.2)) = addAll k 0 x.ins (ps.map (·.2)) ∧ ∀ y ∈ p.2, y.2.length + insSum (G.take k) + (x.ins.length - p.1) ≤ insSum G) (fun p => x.ins.length - p.1) (0, ps)
        ⟨Nat.zero_le _, hll, rfl, fun y hy => by have := hbd y hy; dsimp only; omega⟩ (by (repeat' (first | exact trivial | apply And.intro | rfl))) .refl ?_
      rintro ⟨j, ps'⟩ ⟨hj, hll', hma, hbd'⟩
      dsimp only at hj hll' hma hbd' ⊢
      have hbl' := @uvals_len ps'
      by_cases hlj : j < x.ins.length
      · have hxj : x.ins[j]? = some x.ins[j] := List.getElem?_eq_getElem hlj
        have hdr : x.ins.drop j = x.ins[j] :: x.ins.drop (j + 1) := List.drop_eq_getElem_cons hlj
        have hq0 := hin k x hx x.ins[j] (List.getElem_mem hlj)
        generalize x.ins[j] = q at hxj hdr hq0
        obtain ⟨qn, rfl⟩ := Int.eq_ofNat_of_zero_le hq0.1
        have hcj := ints_at hxj
        have hqn : qn < ps'.length := by omega
        have hp : ps'[qn]? = some ps'[qn] := List.getElem?_eq_getElem hqn
        have hpb := hbd' ps'[qn] (List.getElem_mem hqn)
        generalize ps'[qn] = p at hp hpb
        have hbq := uvals_at hp
        rw [hdr] at hma
        (repeat' (first | (first | refine SLl.nil ?_ | ((show SLl _ _ _ _ _ (⟨⟨_, _, _, _, _, _⟩, _, _⟩ :: _) _ _ _); first | refine SLl.ev rfl rfl rfl rfl ?_ | ((show SLl _ _ _ _ _ (⟨⟨_, .load _ _, _, _, _, _⟩, _, _⟩ :: _) _ _ _); (refine SLl.rdSeq rfl rfl (Rd.load rfl rfl (by (first | (apply Reads.row; (· (repeat (first | apply Sel.here | apply Sel.there))); (· (assumption)); (· rfl)) | (apply Reads.rs; (· exact Rs.mono (by assumption) (by (repeat' (first | exact Ent.appR | apply Ent.skip)))); (· (assumption)); (· rfl))))) ?_)) | ((show SLl _ _ _ _ _ (⟨⟨_, .indexAddr _ _ _, _, _, _, _⟩, _, _⟩ :: _) _ _ _); (refine SLl.rdSeq rfl rfl (Rd.indexAddr rfl rfl (by (first | (apply Len.row; (· (repeat (first | apply Sel.here | apply Sel.there)))) | (apply Len.rs; exact Rs.mono (by assumption) (by (repeat' (first | exact Ent.appR | apply Ent.skip)))))) (by (rfl)) (by omega)) ?_)) | ((show SLl _ _ _ _ _ (⟨⟨_, .binOp _ _ _ _ _, _, _, _, _⟩, _, _⟩ :: _) _ _ _); ((refine SLl.cmp rfl rfl rfl rfl rfl rfl ?_ ?_ <;> intro hq <;> simp only [cmpP] at hq <;> try ((exfalso; omega))))) | ((show SLl _ _ _ _ _ (⟨⟨_, .build _ _, _, _, _, _⟩, _, _⟩ :: _) _ _ _); refine SLl.rdSeq rfl rfl (Rd.build rfl (by (repeat (first | exact CellsW.nil | (apply CellsW.cons; (· (exact Cel.one (by (exact One.lit rfl)))))))) (by rfl)) ?_))) | (first | refine SLc.seq ?_ | refine SLc.region rfl ?_ | refine SLc.condT rfl ?_ | refine SLc.block ?_ | refine SLc.skip ?_)))
        refine SLl.seq rfl rfl (SLo.buildSlice1 (cs := [.int .i64 k, .int .i64 j]) rfl rfl rfl rfl rfl ?_)
        intro nv hnv
        have hul := @usesV_len p.2
        refine SLl.seq rfl rfl (SLo.append (es := usesV p.2) (ys := [[.int .i64 k, .int .i64 j]]) (by rfl) (by omega) rfl rfl (.there (.there (.there (.there (Sel.app (Sel.many (f := urow) hp)))))) (Src.row .here (by simp)) (One.lits (by simp [Value.oneCell'])) (by simp only [List.length_singleton]; omega) (by simp only [List.length_singleton]; omega) ?_)
        intro v' hv'
        (repeat' (first | (first | refine SLl.nil ?_ | ((show SLl _ _ _ _ _ (⟨⟨_, _, _, _, _, _⟩, _, _⟩ :: _) _ _ _); first | refine SLl.ev rfl rfl rfl rfl ?_ | ((show SLl _ _ _ _ _ (⟨⟨_, .indexAddr _ _ _, _, _, _, _⟩, _, _⟩ :: _) _ _ _); (refine SLl.rdSeq rfl rfl (Rd.indexAddr rfl rfl (by ((apply Len.row; (· (repeat (first | apply Sel.here | apply Sel.there)))))) (by (rfl)) (by omega)) ?_)) | ((show SLl _ _ _ _ _ (⟨⟨_, .binOp _ _ _ _ _, _, _, _, _⟩, _, _⟩ :: _) _ _ _); (refine SLl.pu rfl rfl rfl (Pu.add rfl rfl (IntWalk.i64_in _ (by omega))) ?_)) | ((show SLl _ _ _ _ _ (⟨⟨_, .store _ _ _, _, _, _, _⟩, _, _⟩ :: _) _ _ _); ((refine SLl.seq0 rfl (SLo.store rfl rfl rfl (by (exact One.len (by ((apply Len.row; (· (repeat (apply Sel.here)))))))) (by ((apply Wr.row; (· (assumption)); (· exact Nat.le_of_ble_eq_true rfl); (· (repeat (first | apply Upd.here | apply Upd.there)))))) ?_)))))) | (refine SLc.region rfl ?_)))
        refine And.intro rfl (Exists.intro (j + 1, ps'.set qn (v', p.2 ++ [((k : Int), (j : Int))])) (And.intro ⟨by dsimp only; omega, by simp [hll'], ?_, ?_⟩ (And.intro (by dsimp only; omega) (And.intro (by (repeat' (first | exact trivial | apply And.intro | rfl))) ?_))))
        · dsimp only
          rw [← hma]
          simp only [addAll, List.map_set, addUse, Int.toNat_natCast]
          congr 1
          have hp2 : (ps'.map (·.2))[qn]? = some p.2 := by simp [hp]
          rw [hp2]
          rfl
        · intro y hy
          dsimp only
          rcases List.mem_or_eq_of_mem_set hy with hy | rfl
          · have := hbd' y hy
            omega
          · simp only [List.length_append, List.length_singleton]
            omega
        · dsimp only
          have hperm := perm_many (f := urow) (l := ps') (k := qn) (p' := (v', p.2 ++ [((k : Int), (j : Int))])) hqn
          refine Ent.trans (b := .row v' 39 2 (usesV (p.2 ++ [((k : Int), (j : Int))])) :: .row out 36 1 (uvals (ps'.set qn (v', p.2 ++ [((k : Int), (j : Int))]))) :: .row rv 4 1 (bools R) :: .blk b 24 [sl] :: ((ps'.eraseIdx qn).map urow ++ F)) ?_ ?_
          · refine Ent.trans (b := .row v' 39 2 (usesV p.2 ++ [[.int .i64 k, .int .i64 j]]) :: .row out 36 1 ((uvals ps').set qn [v']) :: .row rv 4 1 (bools R) :: .blk b 24 [sl] :: ((ps'.eraseIdx qn).map urow ++ F)) (.cons .here (.skip .refl)) ?_
            exact Ent.row (by simp [usesV]) (Ent.row (uvals_set (p := (v', p.2 ++ [((k : Int), (j : Int))]))) .refl)
          · refine .cons (.there .here) (.cons (.there .here) (.cons (.there .here) ?_))
            exact Ent.perm (List.Perm.append_right F hperm)
      · have hj' : x.ins.drop j = [] := List.drop_eq_nil_of_le (by omega)
        rw [hj'] at hma
        have hma' : ps'.map (·.2) = addAll k 0 x.ins (ps.map (·.2)) := hma
        rw [← hma'] at hfr
        (repeat' (first | (first | refine SLl.nil ?_ | ((show SLl _ _ _ _ _ (⟨⟨_, _, _, _, _, _⟩, _, _⟩ :: _) _ _ _); first | refine SLl.ev rfl rfl rfl rfl ?_ | ((show SLl _ _ _ _ _ (⟨⟨_, .binOp _ _ _ _ _, _, _, _, _⟩, _, _⟩ :: _) _ _ _); (first | refine SLl.pu rfl rfl rfl (Pu.sub rfl rfl (IntWalk.i64_in _ (by omega))) ?_ | (refine SLl.cmp rfl rfl rfl rfl rfl rfl ?_ ?_ <;> intro hq <;> simp only [cmpP] at hq <;> try ((exfalso; omega))))))) | (first | refine SLc.seq ?_ | refine SLc.region rfl ?_ | refine SLc.condF rfl ?_ | refine SLc.exit ?_)))
        refine And.intro rfl (Exists.intro ((k : Int) - 1, ps') (And.intro ⟨by dsimp only; omega, by dsimp only; omega, hll', by dsimp only; rw [hto2]; exact hfr, ?_⟩ (And.intro (by dsimp only; omega) (And.intro (by (repeat' (first | exact trivial | apply And.intro | rfl))) .refl))))
        dsimp only
        rw [hto2]
        intro y hy
        have := hbd' y hy
        omega
  · have hi0 : (i + 1).toNat = 0 := by omega
    rw [hi0] at hfr
    (repeat' (first | (first | refine SLl.nil ?_ | ((show SLl _ _ _ _ _ (⟨⟨_, _, _, _, _, _⟩, _, _⟩ :: _) _ _ _); first | refine SLl.ev rfl rfl rfl rfl ?_ | ((show SLl _ _ _ _ _ (⟨⟨_, .binOp _ _ _ _ _, _, _, _, _⟩, _, _⟩ :: _) _ _ _); ((refine SLl.cmp rfl rfl rfl rfl rfl rfl ?_ ?_ <;> intro hq <;> simp only [cmpP] at hq <;> try ((exfalso; omega))))))) | (first | refine SLc.seq ?_ | refine SLc.region rfl ?_ | refine SLc.condF rfl ?_ | refine SLc.exit ?_ | refine SLc.ret ?_)))
    refine And.intro rfl (Exists.intro _ (Exists.intro _ (And.intro rfl (And.intro ?_ (And.intro hout (Exists.intro ps (And.intro hfr rfl)))))))
    (repeat' (first | exact Ent.refl | (refine Ent.cons (by (repeat (apply Sel.here))) ?_) | apply Ent.skip))
end Go.Sl
