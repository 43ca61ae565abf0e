/- meter.Of and what it calls. -/
import Derived.Test.YtloeicnadchkpaaReach2
import Derived.Test.YtloeicnadchkpaaSL14
namespace Go.Sl
open Go.Proofs
attribute [local irreducible] SLc SLl SLo SLf Pu Rd

theorem insSum_takeM {G : List Node} {k : Nat} {x : Node} (h : G[k]? = some x) : ((G.take (k + 1)).map fun x => x.ins.length).sum = ((G.take k).map fun x => x.ins.length).sum + x.ins.length := by
  obtain ⟨hk, rfl⟩ := List.getElem?_eq_some_iff.1 h
  rw [List.take_succ_eq_append_getElem hk, List.map_append, List.sum_append]
  simp
def edgesL (G : List Node) (k : Nat) : Nat := ((G.take k).map fun x => x.ins.length).sum
theorem edgesL_succ {G : List Node} {k : Nat} {x : Node} (h : G[k]? = some x) : edgesL G (k + 1) = edgesL G k + x.ins.length := insSum_takeM h
theorem edgesL_le {G : List Node} (k : Nat) : edgesL G k ≤ edgesL G G.length := by
  unfold edgesL
  rw [List.take_length]
  have h : (G.map fun x => x.ins.length).sum = ((G.take k).map fun x => x.ins.length).sum + ((G.drop k).map fun x => x.ins.length).sum := by
    rw [← List.sum_append, ← List.map_append, List.take_append_drop]
  omega
theorem Edges_ok (W : World) (F : List Chunk) (sl : Value) (G : List Node) (hg : GraphR W F sl G) (hb : edgesL G G.length ≤ 1000000) :
    SLf Try.prog W 91 [.agg #[sl]] F (fun v σ => v = .int .i64 (edgesL G G.length : Nat) ∧ σ = F) := by
  have hrs := hg.rs
  have hl := hg.len
  have hlen : (G.map Node.cells).length = G.length := by simp
  refine SLf.enter Try.func91 rfl (Nat.le_of_ble_eq_true rfl) ?_
  (repeat' (first | (first | refine SLl.nil ?_ | ((show SLl _ _ _ _ _ (⟨⟨_, _, _, _, _, _⟩, _, _⟩ :: _) _ _ _); first | refine SLl.ev rfl rfl rfl rfl ?_ | ((show SLl _ _ _ _ _ (⟨⟨_, .load _ _, _, _, _, _⟩, _, _⟩ :: _) _ _ _); (refine SLl.rdSeq rfl rfl (Rd.load rfl rfl (by ((apply Reads.blk; (· (repeat (apply Sel.here))); (· rfl))))) ?_)) | ((show SLl _ _ _ _ _ (⟨⟨_, .fieldAddr _ _ _, _, _, _, _⟩, _, _⟩ :: _) _ _ _); (refine SLl.pu rfl rfl rfl (Pu.fieldAddr rfl) ?_)) | ((show SLl _ _ _ _ _ (⟨⟨_, .call ⟨.builtin .len, _, _⟩, _, _, _, _⟩, _, _⟩ :: _) _ _ _); refine SLl.rdSeq rfl rfl (Rd.len rfl (by ((apply Len.rs; exact Rs.mono (by assumption) (by (repeat' (first | exact Ent.refl | apply Ent.skip))))))) ?_) | ((show SLl _ _ _ _ _ (⟨⟨_, .box _ _, _, _, _, _⟩, _, _⟩ :: _) _ _ _); refine SLl.seq rfl rfl (SLo.boxC rfl (by (exact Cel.agg)) ?_); intro b))) | (first | refine SLc.seq ?_ | refine SLc.region rfl ?_ | refine SLc.block ?_)))
  refine SLc.loop (ι := Nat × Int) (fun p => [(9, .int .i64 p.1), (8, .int .i64 (G.map Node.cells).length), (7, sl), (3, .int .i64 p.2)]) (fun _ => F) (fun p => p.1 ≤ G.length ∧ p.2 = (edgesL G p.1 : Nat)) (fun p => G.length - p.1) (0, 0) ⟨Nat.zero_le _, by simp [edgesL]⟩ (by (repeat' (first | exact trivial | apply And.intro | rfl))) (by (repeat' (first | exact Ent.refl | apply Ent.skip))) ?_
  rintro ⟨k, m⟩ ⟨hk, hm⟩
  dsimp only at hk hm ⊢
  by_cases hlt : k < G.length
  · have hx : G[k]? = some G[k] := List.getElem?_eq_getElem hlt
    generalize G[k] = x at hx
    have hca := cells_at hx
    have hxi := hg.ins x (List.mem_of_getElem? hx)
    have hxl := hg.lens x (List.mem_of_getElem? hx)
    obtain ⟨o1, o2, o3, o4, o5⟩ := hg.ones x (List.mem_of_getElem? hx)
    have hs := edgesL_succ hx
    have he := edgesL_le (G := G) (k + 1)
    have hil := @ints_len x.ins
    (repeat' (first | (first | refine SLl.nil ?_ | ((show SLl _ _ _ _ _ (⟨⟨_, _, _, _, _, _⟩, _, _⟩ :: _) _ _ _); first | refine SLl.ev rfl rfl rfl rfl ?_ | ((show SLl _ _ _ _ _ (⟨⟨_, .load _ _, _, _, _, _⟩, _, _⟩ :: _) _ _ _); (first | refine SLl.rdSeq rfl rfl (Rd.load rfl rfl (by (first | (apply Reads.blk; (· (repeat (apply Sel.here))); (· rfl)) | (apply Reads.rs; (· exact Rs.mono (by assumption) (by (repeat' (exact Ent.refl)))); (· (assumption)); (· rfl))))) ?_ | refine SLl.rdSeq rfl rfl (Rd.loadN rfl rfl (by ((apply ReadsN.rs0; (· exact Rs.mono (by assumption) (by (repeat' (exact Ent.refl)))); (· (assumption))))) (by rfl)) ?_)) | ((show SLl _ _ _ _ _ (⟨⟨_, .fieldAddr _ _ _, _, _, _, _⟩, _, _⟩ :: _) _ _ _); (refine SLl.pu rfl rfl rfl (Pu.fieldAddr rfl) ?_)) | ((show SLl _ _ _ _ _ (⟨⟨_, .indexAddr _ _ _, _, _, _, _⟩, _, _⟩ :: _) _ _ _); (refine SLl.rdSeq rfl rfl (Rd.indexAddr rfl rfl (by ((apply Len.rs; exact Rs.mono (by assumption) (by (repeat' (exact Ent.refl)))))) (by (rfl)) (by omega)) ?_)) | ((show SLl _ _ _ _ _ (⟨⟨_, .call ⟨.builtin .len, _, _⟩, _, _, _, _⟩, _, _⟩ :: _) _ _ _); refine SLl.rdSeq rfl rfl (Rd.len rfl (by ((apply Len.rs; exact Rs.mono (by assumption) (by (repeat' (first | exact Ent.refl | apply Ent.skip))))))) ?_) | ((show SLl _ _ _ _ _ (⟨⟨_, .binOp _ _ _ _ _, _, _, _, _⟩, _, _⟩ :: _) _ _ _); (first | refine SLl.pu rfl rfl rfl (Pu.add rfl rfl (IntWalk.i64_in _ (by omega))) ?_ | (refine SLl.cmp rfl rfl rfl rfl rfl rfl ?_ ?_ <;> intro hq <;> simp only [cmpP] at hq <;> try ((exfalso; omega))))) | ((show SLl _ _ _ _ _ (⟨⟨_, .store _ _ _, _, _, _, _⟩, _, _⟩ :: _) _ _ _); ((refine SLl.seq0 rfl (SLo.storeN rfl rfl rfl (by (repeat' (first | exact trivial | (apply And.intro; (· (first | exact One.lit rfl | exact One.mono (by assumption) (by (repeat' (first | exact Ent.refl | apply Ent.skip))))))))) (Nat.le_of_ble_eq_true rfl) (by (repeat (apply Upd.here))) ?_)))) | ((show SLl _ _ _ _ _ (⟨⟨_, .alloc _, _, _, _, _⟩, _, _⟩ :: _) _ _ _); refine SLl.seq rfl rfl (SLo.alloc ?_); intro b))) | (first | refine SLc.seq ?_ | refine SLc.region rfl ?_ | refine SLc.condT rfl ?_ | refine SLc.block ?_ | refine SLc.skip ?_)))
    refine And.intro rfl (Exists.intro (k + 1, _) (And.intro ⟨by dsimp only; omega, ?_⟩ (And.intro (by dsimp only; omega) (And.intro (by (repeat' (first | exact trivial | apply And.intro | rfl))) (by (repeat' (first | exact Ent.refl | apply Ent.skip)))))))
    dsimp only
    omega
  · have hke : k = G.length := by omega
    subst hke
    (repeat' (first | (first | refine SLl.nil ?_ | ((show SLl _ _ _ _ _ (⟨⟨_, _, _, _, _, _⟩, _, _⟩ :: _) _ _ _); first | refine SLl.ev rfl rfl rfl rfl ?_ | ((show SLl _ _ _ _ _ (⟨⟨_, .binOp _ _ _ _ _, _, _, _, _⟩, _, _⟩ :: _) _ _ _); ((refine SLl.cmp rfl rfl rfl rfl rfl rfl ?_ ?_ <;> intro hq <;> simp only [cmpP] at hq <;> try ((exfalso; omega))))))) | (first | refine SLc.seq ?_ | refine SLc.region rfl ?_ | refine SLc.condF rfl ?_ | refine SLc.exit ?_ | refine SLc.ret ?_)))
    refine And.intro rfl (Exists.intro _ (Exists.intro _ (And.intro rfl (And.intro (by (repeat' (exact Ent.refl))) (And.intro (by rw [← hm]; rfl) rfl)))))

/-- The depths, node after node from above. -/
def dMark (d : List Int) (v : Int) (ins : List Int) : List Int := ins.foldl (fun d q => d.set q.toNat (max ((d[q.toNat]?).getD 0) (v + 1))) d
def dLoop (G : List Node) (R : List Bool) : Nat → List Int → Int → Int
  | 0, _, b => b
  | m + 1, d, b => if R[m]? = some true then dLoop G R m (dMark d ((d[m]?).getD 0) ((G[m]?.map (·.ins)).getD [])) (max b ((d[m]?).getD 0)) else dLoop G R m d b
def depthL (G : List Node) (R : List Bool) (root : Nat) : Int := dLoop G R (root + 1) ((List.replicate G.length 0).set root 1) 0
theorem dMark_len (v : Int) (ins : List Int) : ∀ (d : List Int), (dMark d v ins).length = d.length := by
  induction ins with
  | nil => intro d; rfl
  | cons q r ih => intro d; show (dMark (d.set q.toNat _) v r).length = _; rw [ih]; simp
theorem ints_set {l : List Int} {k : Nat} {x : Int} : (ints l).set k [.int .i64 x] = ints (l.set k x) := by simp [ints, List.map_set]
theorem ints_rep {m : Nat} : List.replicate m [Value.int .i64 0] = ints (List.replicate m 0) := by simp [ints]
theorem ints_le_set {l : List Int} {c : Int} (h : ∀ y ∈ l, 0 ≤ y ∧ y ≤ c) {c' : Int} (hc : c ≤ c') {k : Nat} {x : Int} (hx : 0 ≤ x ∧ x ≤ c') : ∀ y ∈ l.set k x, 0 ≤ y ∧ y ≤ c' := fun y hy => by
  rcases List.mem_or_eq_of_mem_set hy with hy | rfl
  · have := h y hy; omega
  · exact hx
set_option maxHeartbeats 1000000 in
theorem Depth_ok (W : World) (F : List Chunk) (sl rv : Value) (G : List Node) (R : List Bool) (root : Nat) (hg : GraphR W F sl G) (hr : Rs W F rv 1 (bools R)) (hRl : R.length = G.length) (h1 : root < G.length)
    (hin : ∀ (k : Nat) x, G[k]? = some x → ∀ q ∈ x.ins, 0 ≤ q ∧ q < k) (hb : G.length ≤ 1000000) :
    SLf Try.prog W 92 [.agg #[sl], .int .i64 root, rv] F (fun v σ => v = .int .i64 (depthL G R root) ∧ σ = F) := by
  have hrs := hg.rs
  have hl := hg.len
  have hlen : (G.map Node.cells).length = G.length := by simp
  have hbl := @bools_len R
  refine SLf.enter Try.func92 rfl (Nat.le_of_ble_eq_true rfl) ?_
  (repeat' (first | (first | refine SLl.nil ?_ | ((show SLl _ _ _ _ _ (⟨⟨_, _, _, _, _, _⟩, _, _⟩ :: _) _ _ _); first | refine SLl.ev rfl rfl rfl rfl ?_ | ((show SLl _ _ _ _ _ (⟨⟨_, .load _ _, _, _, _, _⟩, _, _⟩ :: _) _ _ _); (refine SLl.rdSeq rfl rfl (Rd.load rfl rfl (by ((apply Reads.blk; (· (repeat (apply Sel.here))); (· rfl))))) ?_)) | ((show SLl _ _ _ _ _ (⟨⟨_, .fieldAddr _ _ _, _, _, _, _⟩, _, _⟩ :: _) _ _ _); (refine SLl.pu rfl rfl rfl (Pu.fieldAddr rfl) ?_)) | ((show SLl _ _ _ _ _ (⟨⟨_, .call ⟨.builtin .len, _, _⟩, _, _, _, _⟩, _, _⟩ :: _) _ _ _); refine SLl.rdSeq rfl rfl (Rd.len rfl (by ((apply Len.rs; exact Rs.mono (by assumption) (by (repeat' (first | exact Ent.refl | apply Ent.skip))))))) ?_) | ((show SLl _ _ _ _ _ (⟨⟨_, .box _ _, _, _, _, _⟩, _, _⟩ :: _) _ _ _); refine SLl.seq rfl rfl (SLo.boxC rfl (by (exact Cel.agg)) ?_); intro b))) | (first | refine SLc.seq ?_ | refine SLc.region rfl ?_)))
  refine SLl.seq rfl rfl (SLo.makeSlice (by rfl) (by omega) rfl rfl (by omega) (by omega) ?_)
  intro dv hdv
  rw [ints_rep, hlen]
  have hdl := @ints_len (List.replicate G.length 0)
  have hrl : (List.replicate G.length (0 : Int)).length = G.length := by simp
  have hat : (ints (List.replicate G.length 0))[root]? = some [.int .i64 0] := ints_at (by rw [List.getElem?_replicate, if_pos (by omega)])
  (repeat' (first | (first | refine SLl.nil ?_ | ((show SLl _ _ _ _ _ (⟨⟨_, _, _, _, _, _⟩, _, _⟩ :: _) _ _ _); first | refine SLl.ev rfl rfl rfl rfl ?_ | ((show SLl _ _ _ _ _ (⟨⟨_, .indexAddr _ _ _, _, _, _, _⟩, _, _⟩ :: _) _ _ _); (refine SLl.rdSeq rfl rfl (Rd.indexAddr rfl rfl (by ((apply Len.row; (· (repeat (apply Sel.here)))))) (by (rfl)) (by omega)) ?_)) | ((show SLl _ _ _ _ _ (⟨⟨_, .store _ _ _, _, _, _, _⟩, _, _⟩ :: _) _ _ _); ((refine SLl.seq0 rfl (SLo.store rfl rfl rfl (by (exact One.lit rfl)) (by ((apply Wr.row; (· (assumption)); (· exact Nat.le_of_ble_eq_true rfl); (· (repeat (apply Upd.here)))))) ?_)))))) | (first | refine SLc.seq ?_ | refine SLc.region rfl ?_ | refine SLc.block ?_)))
  refine SLc.loop (ι := Int × List Int × Int) (fun p => [(9, .int .i64 p.1), (8, .int .i64 p.2.2), (7, dv), (3, .pointer (some ⟨b, 0, none⟩)), (2, rv)]) (fun p => .row dv 3 1 (ints p.2.1) :: .blk b 24 [sl] :: F)
    (fun p => -1 ≤ p.1 ∧ p.1 < G.length ∧ p.2.1.length = G.length ∧ dLoop G R (p.1 + 1).toNat p.2.1 p.2.2 = depthL G R root ∧ (0 ≤ p.2.2 ∧ p.2.2 ≤ (G.length : Int) - p.1) ∧ ∀ y ∈ p.2.1, 0 ≤ y ∧ y ≤ (G.length : Int) - p.1) (fun p => (p.1 + 1).toNat) ((root : Int), (List.replicate G.length 0).set root 1, 0)
    ⟨by omega, by dsimp only; omega, by simp, by dsimp only; rw [show ((root : Int) + 1).toNat = root + 1 by omega]; rfl, by dsimp only; omega, ?_⟩ (by (repeat' (first | exact trivial | apply And.intro | rfl))) (Ent.row ints_set .refl) ?_
  · exact ints_le_set (c := 0) (fun y hy => by rw [(List.mem_replicate.1 hy).2]; omega) (by dsimp only; omega) (by dsimp only; omega)
  rintro ⟨i, d, m⟩ ⟨hi1, hi2, hll, hfr, hm, hbd⟩
  dsimp only at hi1 hi2 hll hfr hm hbd ⊢
  have hdl := @ints_len d
  by_cases hpos : 0 ≤ i
  · obtain ⟨k, rfl⟩ := Int.eq_ofNat_of_zero_le hpos
    have hk : k < R.length := by omega
    have hlk : R[k]? = some R[k] := List.getElem?_eq_getElem hk
    have hx : G[k]? = some (G[k]'(by omega)) := List.getElem?_eq_getElem (by omega)
    generalize G[k]'(by omega) = x at hx
    have hdk : d[k]? = some (d[k]'(by omega)) := List.getElem?_eq_getElem (by omega)
    have hdb := hbd _ (List.getElem_mem (l := d) (n := k) (by omega))
    generalize d[k]'(by omega) = dk at hdk hdb
    have hdc := ints_at hdk
    have hca := cells_at hx
    have hxi := hg.ins x (List.mem_of_getElem? hx)
    have hxl := hg.lens x (List.mem_of_getElem? hx)
    have hto : ((k : Int) + 1).toNat = k + 1 := by omega
    have hto2 : ((k : Int) - 1 + 1).toNat = k := by omega
    rw [hto] at hfr
    simp only [dLoop] at hfr
    cases hb0 : R[k] with
    | false =>
      rw [hb0] at hlk
      have hba := bools_at hlk
      rw [if_neg (by rw [hlk]; simp)] at hfr
      (repeat' (first | (first | refine SLl.nil ?_ | ((show SLl _ _ _ _ _ (⟨⟨_, _, _, _, _, _⟩, _, _⟩ :: _) _ _ _); first | refine SLl.ev rfl rfl rfl rfl ?_ | ((show SLl _ _ _ _ _ (⟨⟨_, .load _ _, _, _, _, _⟩, _, _⟩ :: _) _ _ _); (refine SLl.rdSeq rfl rfl (Rd.load rfl rfl (by ((apply Reads.rs; (· exact Rs.mono (by assumption) (by (repeat' (first | exact Ent.refl | apply Ent.skip)))); (· (assumption)); (· rfl))))) ?_)) | ((show SLl _ _ _ _ _ (⟨⟨_, .indexAddr _ _ _, _, _, _, _⟩, _, _⟩ :: _) _ _ _); (refine SLl.rdSeq rfl rfl (Rd.indexAddr rfl rfl (by ((apply Len.rs; exact Rs.mono (by assumption) (by (repeat' (first | exact Ent.refl | apply Ent.skip)))))) (by (rfl)) (by omega)) ?_)) | ((show SLl _ _ _ _ _ (⟨⟨_, .binOp _ _ _ _ _, _, _, _, _⟩, _, _⟩ :: _) _ _ _); (first | refine SLl.pu rfl rfl rfl (Pu.sub rfl rfl (IntWalk.i64_in _ (by omega))) ?_ | (refine SLl.cmp rfl rfl rfl rfl rfl rfl ?_ ?_ <;> intro hq <;> simp only [cmpP] at hq <;> try ((exfalso; omega))))))) | (first | refine SLc.seq ?_ | refine SLc.region rfl ?_ | refine SLc.condT rfl ?_ | refine SLc.block ?_ | refine SLc.skip ?_ | refine SLc.exit ?_)))
      refine And.intro rfl (Exists.intro ((k : Int) - 1, d, m) (And.intro ⟨by dsimp only; omega, by dsimp only; omega, hll, by dsimp only; rw [hto2]; exact hfr, by dsimp only; omega, fun y hy => by have := hbd y hy; first | omega | (dsimp only; omega)⟩ (And.intro (by dsimp only; omega) (And.intro (by (repeat' (first | exact trivial | apply And.intro | rfl))) .refl))))
    | true =>
      rw [hb0] at hlk
      have hba := bools_at hlk
      rw [if_pos hlk, hdk, hx] at hfr
      simp only [Option.getD_some, Option.map_some] at hfr
      (repeat' (first | (first | refine SLl.nil ?_ | ((show SLl _ _ _ _ _ (⟨⟨_, _, _, _, _, _⟩, _, _⟩ :: _) _ _ _); first | refine SLl.ev rfl rfl rfl rfl ?_ | ((show SLl _ _ _ _ _ (⟨⟨_, .load _ _, _, _, _, _⟩, _, _⟩ :: _) _ _ _); (refine SLl.rdSeq rfl rfl (Rd.load rfl rfl (by (first | (apply Reads.row; (· (repeat (first | apply Sel.here | apply Sel.there))); (· (assumption)); (· rfl)) | (apply Reads.rs; (· exact Rs.mono (by assumption) (by (repeat' (first | exact Ent.refl | apply Ent.skip)))); (· (assumption)); (· rfl))))) ?_)) | ((show SLl _ _ _ _ _ (⟨⟨_, .indexAddr _ _ _, _, _, _, _⟩, _, _⟩ :: _) _ _ _); (refine SLl.rdSeq rfl rfl (Rd.indexAddr rfl rfl (by (first | (apply Len.row; (· (repeat (first | apply Sel.here | apply Sel.there)))) | (apply Len.rs; exact Rs.mono (by assumption) (by (repeat' (first | exact Ent.refl | apply Ent.skip)))))) (by (rfl)) (by omega)) ?_)) | ((show SLl _ _ _ _ _ (⟨⟨_, .binOp _ _ _ _ _, _, _, _, _⟩, _, _⟩ :: _) _ _ _); ((refine SLl.cmp rfl rfl rfl rfl rfl rfl ?_ ?_ <;> intro hq <;> simp only [cmpP] at hq <;> try ((exfalso; omega))))))) | (first | refine SLc.seq ?_ | refine SLc.region rfl ?_ | refine SLc.condT rfl ?_ | refine SLc.condF rfl ?_ | refine SLc.block ?_ | refine SLc.skip ?_)))
      refine SLl.pu rfl rfl rfl (Pu.max2 rfl rfl rfl) ?_
      (repeat' (first | (first | refine SLl.nil ?_ | ((show SLl _ _ _ _ _ (⟨⟨_, _, _, _, _, _⟩, _, _⟩ :: _) _ _ _); first | refine SLl.ev rfl rfl rfl rfl ?_ | ((show SLl _ _ _ _ _ (⟨⟨_, .load _ _, _, _, _, _⟩, _, _⟩ :: _) _ _ _); (refine SLl.rdSeq rfl rfl (Rd.load rfl rfl (by (first | (apply Reads.blk; (· (repeat (first | apply Sel.here | apply Sel.there))); (· rfl)) | (apply Reads.rs; (· exact Rs.mono (by assumption) (by (repeat' (first | exact Ent.refl | apply Ent.skip)))); (· (assumption)); (· rfl))))) ?_)) | ((show SLl _ _ _ _ _ (⟨⟨_, .fieldAddr _ _ _, _, _, _, _⟩, _, _⟩ :: _) _ _ _); (first | refine SLl.pu rfl rfl rfl (Pu.fieldAddr rfl) ?_ | refine SLl.rdSeq rfl rfl (Rd.fieldAddrEl rfl (by ((apply Len.rs; exact Rs.mono (by assumption) (by (repeat' (first | exact Ent.refl | apply Ent.skip)))))) (by omega)) ?_)) | ((show SLl _ _ _ _ _ (⟨⟨_, .indexAddr _ _ _, _, _, _, _⟩, _, _⟩ :: _) _ _ _); (refine SLl.rdSeq rfl rfl (Rd.indexAddr rfl rfl (by ((apply Len.rs; exact Rs.mono (by assumption) (by (repeat' (first | exact Ent.refl | apply Ent.skip)))))) (by (rfl)) (by omega)) ?_)) | ((show SLl _ _ _ _ _ (⟨⟨_, .call ⟨.builtin .len, _, _⟩, _, _, _, _⟩, _, _⟩ :: _) _ _ _); refine SLl.rdSeq rfl rfl (Rd.len rfl (by ((apply Len.rs; exact Rs.mono (by assumption) (by (repeat' (first | exact Ent.refl | apply Ent.skip))))))) ?_))) | (first | refine SLc.seq ?_ | refine SLc.region rfl ?_ | refine SLc.block ?_)))
      have hil := @ints_len x.ins
      refine SLc.loop (ι := Nat × List Int) (fun p => [(42, .int .i64 p.1), (41, .int .i64 (ints x.ins).length), (40, x.inv), (9, .int .i64 k), (8, .int .i64 (max m dk)), (7, dv), (3, .pointer (some ⟨b, 0, none⟩)), (2, rv)]) (fun p => .row dv 3 1 (ints p.2) :: .blk b 24 [sl] :: F)
        (fun p => p.1 ≤ x.ins.length ∧ p.2.length = G.length ∧ p.2[k]? = some dk ∧ dMark p.2 dk (x.ins.drop p.1) = dMark d dk x.ins ∧ ∀ y ∈ p.2, 0 ≤ y ∧ y ≤ (G.length : Int) - k + 1) (fun p => x.ins.length - p.1) (0, d)
        ⟨Nat.zero_le _, hll, hdk, rfl, fun y hy => by have := hbd y hy; first | omega | (dsimp only; omega)⟩ (by (repeat' (first | exact trivial | apply And.intro | rfl))) .refl ?_
      rintro ⟨j, d'⟩ ⟨hj, hll', hdk', hma, hbd'⟩
      dsimp only at hj hll' hdk' hma hbd' ⊢
      have hdl' := @ints_len d'
      have hdc' := ints_at hdk'
      by_cases hlj : j < x.ins.length
      · have hxj : x.ins[j]? = some x.ins[j] := List.getElem?_eq_getElem hlj
        have hdr : x.ins.drop j = x.ins[j] :: x.ins.drop (j + 1) := List.drop_eq_getElem_cons hlj
        have hq0 := hin k x hx x.ins[j] (List.getElem_mem hlj)
        generalize x.ins[j] = q at hxj hdr hq0
        obtain ⟨qn, rfl⟩ := Int.eq_ofNat_of_zero_le hq0.1
        have hcj := ints_at hxj
        have hqn : qn < d'.length := by omega
        have hq : d'[qn]? = some d'[qn] := List.getElem?_eq_getElem hqn
        have hqb := hbd' _ (List.getElem_mem hqn)
        generalize d'[qn] = dq at hq hqb
        have hqc := ints_at hq
        rw [hdr] at hma
        have hma2 : dMark (d'.set qn (max dq (dk + 1))) dk (x.ins.drop (j + 1)) = dMark d dk x.ins := by
          rw [← hma]
          simp only [dMark, List.foldl_cons, Int.toNat_natCast, hq, Option.getD_some]
        (repeat' (first | (first | refine SLl.nil ?_ | ((show SLl _ _ _ _ _ (⟨⟨_, _, _, _, _, _⟩, _, _⟩ :: _) _ _ _); first | refine SLl.ev rfl rfl rfl rfl ?_ | ((show SLl _ _ _ _ _ (⟨⟨_, .load _ _, _, _, _, _⟩, _, _⟩ :: _) _ _ _); (refine SLl.rdSeq rfl rfl (Rd.load rfl rfl (by ((apply Reads.rs; (· exact Rs.mono (by assumption) (by (repeat' (first | exact Ent.refl | apply Ent.skip)))); (· (assumption)); (· rfl))))) ?_)) | ((show SLl _ _ _ _ _ (⟨⟨_, .indexAddr _ _ _, _, _, _, _⟩, _, _⟩ :: _) _ _ _); (refine SLl.rdSeq rfl rfl (Rd.indexAddr rfl rfl (by ((apply Len.rs; exact Rs.mono (by assumption) (by (repeat' (first | exact Ent.refl | apply Ent.skip)))))) (by (rfl)) (by omega)) ?_)) | ((show SLl _ _ _ _ _ (⟨⟨_, .binOp _ _ _ _ _, _, _, _, _⟩, _, _⟩ :: _) _ _ _); ((refine SLl.cmp rfl rfl rfl rfl rfl rfl ?_ ?_ <;> intro hq <;> simp only [cmpP] at hq <;> try ((exfalso; omega))))))) | (first | refine SLc.seq ?_ | refine SLc.region rfl ?_ | refine SLc.condT rfl ?_ | refine SLc.block ?_ | refine SLc.skip ?_)))
        refine SLc.draws [.row dv 3 1 (ints d'), .blk b 24 [sl]] [(0, .take), (1, .take), (2, .take), (3, .take), (4, .take), (5, .take), (6, .take), (7, .take), (8, .take), (9, .take), (10, .take), (11, .take), (12, .take), (13, .eff false)] mixed (by kernel_rfl) (by (repeat' (first | (refine Ent.cons (by (repeat (apply Sel.here))) ?_) | exact Ent.drop))) ?_
        (repeat' ((((show SLl _ _ _ _ _ (⟨⟨_, _, _, _, _, _⟩, _, _⟩ :: _) _ _ _); first | refine SLl.ev rfl rfl rfl rfl ?_ | ((show SLl _ _ _ _ _ (⟨⟨_, .load _ _, _, _, _, _⟩, _, _⟩ :: _) _ _ _); (refine SLl.rdTake rfl rfl (Rd.load rfl rfl (by ((apply Reads.row; (· (repeat (apply Sel.here))); (· (assumption)); (· rfl))))) ?_)) | ((show SLl _ _ _ _ _ (⟨⟨_, .indexAddr _ _ _, _, _, _, _⟩, _, _⟩ :: _) _ _ _); (refine SLl.rdTake rfl rfl (Rd.indexAddr rfl rfl (by ((apply Len.row; (· (repeat (apply Sel.here)))))) (by (rfl)) (by omega)) ?_)) | ((show SLl _ _ _ _ _ (⟨⟨_, .binOp _ _ _ _ _, _, _, _, _⟩, _, _⟩ :: _) _ _ _); (refine SLl.pu rfl rfl rfl (Pu.add rfl rfl (IntWalk.i64_in _ (by omega))) ?_))))))
        refine SLl.pu rfl rfl rfl (Pu.max2 rfl rfl rfl) ?_
        (repeat' ((((show SLl _ _ _ _ _ (⟨⟨_, _, _, _, _, _⟩, _, _⟩ :: _) _ _ _); ((show SLl _ _ _ _ _ (⟨⟨_, .indexAddr _ _ _, _, _, _, _⟩, _, _⟩ :: _) _ _ _); (refine SLl.rdTake rfl rfl (Rd.indexAddr rfl rfl (by ((apply Len.row; (· (repeat (apply Sel.here)))))) (by (rfl)) (by omega)) ?_))))))
        refine SLl.eff0 rfl (SLo.store rfl rfl rfl (by (exact One.lit rfl)) (by ((apply Wr.row; (· (assumption)); (· exact Nat.le_of_ble_eq_true rfl); (· (repeat (apply Upd.here)))))) ?_)
        refine And.intro (fun h => by cases h) ?_
        (repeat' (first | (first | refine SLl.nil ?_ | ((show SLl _ _ _ _ _ (⟨⟨_, _, _, _, _, _⟩, _, _⟩ :: _) _ _ _); first | refine SLl.ev rfl rfl rfl rfl ?_ | ((show SLl _ _ _ _ _ (⟨⟨_, .binOp _ _ _ _ _, _, _, _, _⟩, _, _⟩ :: _) _ _ _); (refine SLl.pu rfl rfl rfl (Pu.add rfl rfl (IntWalk.i64_in _ (by omega))) ?_)))) | (refine SLc.region rfl ?_)))
        refine And.intro rfl (Exists.intro (j + 1, d'.set qn (max dq (dk + 1))) (And.intro ⟨by dsimp only; omega, by simp [hll'], ?_, hma2, ?_⟩ (And.intro (by dsimp only; omega) (And.intro (by (repeat' (first | exact trivial | apply And.intro | rfl))) (Ent.row ints_set .refl)))))
        · dsimp only
          rw [List.getElem?_set_ne (by omega)]
          exact hdk'
        · dsimp only
          exact ints_le_set hbd' (by omega) (by omega)
      · have hj' : x.ins.drop j = [] := List.drop_eq_nil_of_le (by omega)
        rw [hj'] at hma
        have hma' : d' = dMark d dk x.ins := hma
        rw [← hma'] at hfr
        (repeat' (first | (first | refine SLl.nil ?_ | ((show SLl _ _ _ _ _ (⟨⟨_, _, _, _, _, _⟩, _, _⟩ :: _) _ _ _); first | refine SLl.ev rfl rfl rfl rfl ?_ | ((show SLl _ _ _ _ _ (⟨⟨_, .binOp _ _ _ _ _, _, _, _, _⟩, _, _⟩ :: _) _ _ _); (first | refine SLl.pu rfl rfl rfl (Pu.sub rfl rfl (IntWalk.i64_in _ (by omega))) ?_ | (refine SLl.cmp rfl rfl rfl rfl rfl rfl ?_ ?_ <;> intro hq <;> simp only [cmpP] at hq <;> try ((exfalso; omega))))))) | (first | refine SLc.seq ?_ | refine SLc.region rfl ?_ | refine SLc.condF rfl ?_ | refine SLc.exit ?_)))
        refine And.intro rfl (Exists.intro ((k : Int) - 1, d', max m dk) (And.intro ⟨by dsimp only; omega, by dsimp only; omega, hll', by dsimp only; rw [hto2]; exact hfr, by dsimp only; omega, fun y hy => by have := hbd' y hy; first | omega | (dsimp only; omega)⟩ (And.intro (by dsimp only; omega) (And.intro (by (repeat' (first | exact trivial | apply And.intro | rfl))) .refl))))
  · have hi0 : (i + 1).toNat = 0 := by omega
    rw [hi0] at hfr
    have hfr' : m = depthL G R root := hfr
    subst hfr'
    (repeat' (first | (first | refine SLl.nil ?_ | ((show SLl _ _ _ _ _ (⟨⟨_, _, _, _, _, _⟩, _, _⟩ :: _) _ _ _); first | refine SLl.ev rfl rfl rfl rfl ?_ | ((show SLl _ _ _ _ _ (⟨⟨_, .binOp _ _ _ _ _, _, _, _, _⟩, _, _⟩ :: _) _ _ _); ((refine SLl.cmp rfl rfl rfl rfl rfl rfl ?_ ?_ <;> intro hq <;> simp only [cmpP] at hq <;> try ((exfalso; omega))))))) | (first | refine SLc.seq ?_ | refine SLc.region rfl ?_ | refine SLc.condF rfl ?_ | refine SLc.exit ?_ | refine SLc.ret ?_)))
    refine And.intro rfl (Exists.intro _ (Exists.intro _ (And.intro rfl (And.intro (by (repeat' (first | exact Ent.refl | apply Ent.skip))) (And.intro rfl rfl)))))
end Go.Sl
