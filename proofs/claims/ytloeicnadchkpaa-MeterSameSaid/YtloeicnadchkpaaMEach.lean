/- meter.each and (*Meter).count. -/
import Derived.Test.YtloeicnadchkpaaMOf
namespace Go.Sl
open Go.Proofs
attribute [local irreducible] SLc SLl SLo SLf Pu Rd

theorem OpMay_ok (W : World) (F : List Chunk) (op : Int) : SLf Try.prog W 99 [.int .i64 op] F (fun v σ => v = .bool (decide (1 ≤ op ∧ op ≤ 16)) ∧ σ = F) := by
  refine SLf.enter Try.func99 rfl (Nat.le_of_ble_eq_true rfl) ?_
  (repeat' (first | (first | refine SLl.nil ?_ | ((show SLl _ _ _ _ _ (⟨⟨_, _, _, _, _, _⟩, _, _⟩ :: _) _ _ _); first | refine SLl.ev rfl rfl rfl rfl ?_ | ((show SLl _ _ _ _ _ (⟨⟨_, .binOp _ _ _ _ _, _, _, _, _⟩, _, _⟩ :: _) _ _ _); ((refine SLl.cmp rfl rfl rfl rfl rfl rfl ?_ ?_ <;> intro hq <;> simp only [cmpP] at hq <;> try (fail)))) | refine SLl.skip rfl rfl ?_)) | (first | refine SLc.seq ?_ | refine SLc.region rfl ?_ | refine SLc.ret ?_)))
  · refine And.intro rfl (Exists.intro _ (Exists.intro _ (And.intro rfl (And.intro .refl (And.intro (by rw [decide_eq_true (by omega)]; rfl) rfl)))))
  · refine And.intro rfl (Exists.intro _ (Exists.intro _ (And.intro rfl (And.intro .refl (And.intro (by rw [decide_eq_false (by omega)]; rfl) rfl)))))
  · refine And.intro rfl (Exists.intro _ (Exists.intro _ (And.intro rfl (And.intro .refl (And.intro (by rw [decide_eq_false (by omega)]; rfl) rfl)))))
def kindOf (op : Int) : Nat := if 1 ≤ op ∧ op ≤ 16 then op.toNat else 0
theorem kindOf_lt (op : Int) : kindOf op < 17 := by unfold kindOf; split <;> omega
set_option maxHeartbeats 1000000 in
theorem Count_ok (W : World) (F : List Chunk) (mb : Nat) (ov : Value) (nn ee r dp lv h lv' : Int) (hs : List Int) (x : Node) (hl : hs.length = 17) (hr : 0 ≤ r ∧ r ≤ 1000000) (hlv : 0 ≤ lv ∧ lv ≤ 1000000) (hk : hs[kindOf x.op]? = some h) (hh : 0 ≤ h ∧ h ≤ 1000000)
    (hlv' : lv' = lv + (if x.op = 1 then 1 else 0)) :
    SLf Try.prog W 94 [.pointer (some ⟨mb, 0, none⟩), .agg x.cells.toArray] (.blk mb 86 [.int .i64 nn, .int .i64 ee, .int .i64 r, .int .i64 dp, .int .i64 lv, ov] :: .row ov 3 1 (ints hs) :: F)
      (fun _ σ => σ = .blk mb 86 [.int .i64 nn, .int .i64 ee, .int .i64 (r + 1), .int .i64 dp, .int .i64 lv', ov] :: .row ov 3 1 (ints (hs.set (kindOf x.op) (h + 1))) :: F) := by
  have hil := @ints_len hs
  have hkc := ints_at hk
  unfold Node.cells
  refine SLf.enter Try.func94 rfl (Nat.le_of_ble_eq_true rfl) ?_
  (repeat' (first | (first | refine SLl.nil ?_ | ((show SLl _ _ _ _ _ (⟨⟨_, _, _, _, _, _⟩, _, _⟩ :: _) _ _ _); first | refine SLl.ev rfl rfl rfl rfl ?_ | ((show SLl _ _ _ _ _ (⟨⟨_, .load _ _, _, _, _, _⟩, _, _⟩ :: _) _ _ _); (refine SLl.rdSeq rfl rfl (Rd.load rfl rfl (by ((apply Reads.blk; (· (repeat (first | apply Sel.here | apply Sel.there))); (· rfl))))) ?_)) | ((show SLl _ _ _ _ _ (⟨⟨_, .fieldAddr _ _ _, _, _, _, _⟩, _, _⟩ :: _) _ _ _); (refine SLl.pu rfl rfl rfl (Pu.fieldAddr rfl) ?_)) | ((show SLl _ _ _ _ _ (⟨⟨_, .binOp _ _ _ _ _, _, _, _, _⟩, _, _⟩ :: _) _ _ _); (first | refine SLl.pu rfl rfl rfl (Pu.add rfl rfl (IntWalk.i64_in _ (by omega))) ?_ | (refine SLl.cmp rfl rfl rfl rfl rfl rfl ?_ ?_ <;> intro hq <;> simp only [cmpP] at hq <;> try (fail)))) | ((show SLl _ _ _ _ _ (⟨⟨_, .store _ _ _, _, _, _, _⟩, _, _⟩ :: _) _ _ _); ((refine SLl.seq0 rfl (SLo.store rfl rfl rfl (by (exact One.lit rfl)) (by ((apply Wr.blk; (· (repeat (first | apply Upd.here | apply Upd.there))); (· exact Nat.le_of_ble_eq_true rfl)))) ?_)))) | ((show SLl _ _ _ _ _ (⟨⟨_, .box _ _, _, _, _, _⟩, _, _⟩ :: _) _ _ _); refine SLl.seq rfl rfl (SLo.boxC rfl (by (exact Cel.agg)) ?_); intro b))) | (first | refine SLc.seq ?_ | refine SLc.region rfl ?_ | refine SLc.condT rfl ?_ | refine SLc.condF rfl ?_ | refine SLc.skip ?_)))
  all_goals
    refine SLl.seq rfl rfl (SLo.call plain99 rfl (SLf.mono (OpMay_ok W _ x.op) ?_))
    rintro v σ ⟨rfl, rfl⟩
    by_cases hm : 1 ≤ x.op ∧ x.op ≤ 16
    · rw [decide_eq_true hm]
      have hkd : kindOf x.op = x.op.toNat := by unfold kindOf; rw [if_pos hm]
      rw [hkd] at hkc ⊢
      (repeat' (first | (first | refine SLl.nil ?_ | ((show SLl _ _ _ _ _ (⟨⟨_, _, _, _, _, _⟩, _, _⟩ :: _) _ _ _); first | refine SLl.ev rfl rfl rfl rfl ?_ | ((show SLl _ _ _ _ _ (⟨⟨_, .load _ _, _, _, _, _⟩, _, _⟩ :: _) _ _ _); (refine SLl.rdSeq rfl rfl (Rd.load rfl rfl (by (first | (apply Reads.blk; (· (repeat (first | apply Sel.here | apply Sel.there))); (· rfl)) | (apply Reads.row; (· (repeat (first | apply Sel.here | apply Sel.there))); (· (assumption)); (· rfl))))) ?_)) | ((show SLl _ _ _ _ _ (⟨⟨_, .fieldAddr _ _ _, _, _, _, _⟩, _, _⟩ :: _) _ _ _); (refine SLl.pu rfl rfl rfl (Pu.fieldAddr rfl) ?_)) | ((show SLl _ _ _ _ _ (⟨⟨_, .indexAddr _ _ _, _, _, _, _⟩, _, _⟩ :: _) _ _ _); (refine SLl.rdSeq rfl rfl (Rd.indexAddr rfl rfl (by ((apply Len.row; (· (repeat (first | apply Sel.here | apply Sel.there)))))) (by (exact (Int.toNat_of_nonneg (by omega)).symm)) (by omega)) ?_)) | ((show SLl _ _ _ _ _ (⟨⟨_, .binOp _ _ _ _ _, _, _, _, _⟩, _, _⟩ :: _) _ _ _); (refine SLl.pu rfl rfl rfl (Pu.add rfl rfl (IntWalk.i64_in _ (by omega))) ?_)) | ((show SLl _ _ _ _ _ (⟨⟨_, .store _ _ _, _, _, _, _⟩, _, _⟩ :: _) _ _ _); ((refine SLl.seq0 rfl (SLo.store rfl rfl rfl (by (exact One.lit rfl)) (by ((apply Wr.row; (· (assumption)); (· exact Nat.le_of_ble_eq_true rfl); (· (repeat (first | apply Upd.here | apply Upd.there)))))) ?_)))))) | (first | refine SLc.region rfl ?_ | refine SLc.condT rfl ?_)))
      refine And.intro rfl (Exists.intro _ (Exists.intro _ (And.intro rfl (And.intro ?_ rfl))))
      first
        | (have e1 : lv' = lv + 1 := by rw [hlv', if_pos (by omega)]
           rw [e1, ← ints_set]
           (repeat' (first | exact Ent.refl | (refine Ent.cons (by (repeat (first | apply Sel.here | apply Sel.there))) ?_) | apply Ent.skip)); done)
        | (have e1 : lv' = lv := by rw [hlv', if_neg (by omega)]; omega
           rw [e1, ← ints_set]
           (repeat' (first | exact Ent.refl | (refine Ent.cons (by (repeat (first | apply Sel.here | apply Sel.there))) ?_) | apply Ent.skip)); done)
    · rw [decide_eq_false hm]
      have hkd : kindOf x.op = 0 := by unfold kindOf; rw [if_neg hm]
      rw [hkd] at hkc ⊢
      first
        | (exfalso; omega)
        | (have e1 : lv' = lv := by rw [hlv', if_neg (by omega)]; omega
           (repeat' (first | (first | refine SLl.nil ?_ | ((show SLl _ _ _ _ _ (⟨⟨_, _, _, _, _, _⟩, _, _⟩ :: _) _ _ _); first | refine SLl.ev rfl rfl rfl rfl ?_ | ((show SLl _ _ _ _ _ (⟨⟨_, .load _ _, _, _, _, _⟩, _, _⟩ :: _) _ _ _); (refine SLl.rdSeq rfl rfl (Rd.load rfl rfl (by (first | (apply Reads.blk; (· (repeat (first | apply Sel.here | apply Sel.there))); (· rfl)) | (apply Reads.row; (· (repeat (first | apply Sel.here | apply Sel.there))); (· (assumption)); (· rfl))))) ?_)) | ((show SLl _ _ _ _ _ (⟨⟨_, .fieldAddr _ _ _, _, _, _, _⟩, _, _⟩ :: _) _ _ _); (refine SLl.pu rfl rfl rfl (Pu.fieldAddr rfl) ?_)) | ((show SLl _ _ _ _ _ (⟨⟨_, .indexAddr _ _ _, _, _, _, _⟩, _, _⟩ :: _) _ _ _); (refine SLl.rdSeq rfl rfl (Rd.indexAddr rfl rfl (by ((apply Len.row; (· (repeat (first | apply Sel.here | apply Sel.there)))))) (by (exact ij0)) (by omega)) ?_)) | ((show SLl _ _ _ _ _ (⟨⟨_, .binOp _ _ _ _ _, _, _, _, _⟩, _, _⟩ :: _) _ _ _); (refine SLl.pu rfl rfl rfl (Pu.add rfl rfl (IntWalk.i64_in _ (by omega))) ?_)) | ((show SLl _ _ _ _ _ (⟨⟨_, .store _ _ _, _, _, _, _⟩, _, _⟩ :: _) _ _ _); ((refine SLl.seq0 rfl (SLo.store rfl rfl rfl (by (exact One.lit rfl)) (by ((apply Wr.row; (· (assumption)); (· exact Nat.le_of_ble_eq_true rfl); (· (repeat (first | apply Upd.here | apply Upd.there)))))) ?_)))))) | (first | refine SLc.region rfl ?_ | refine SLc.condF rfl ?_ | refine SLc.skip ?_)))
           refine And.intro rfl (Exists.intro _ (Exists.intro _ (And.intro rfl (And.intro ?_ rfl))))
           rw [e1, ← ints_set]
           (repeat' (first | exact Ent.refl | (refine Ent.cons (by (repeat (first | apply Sel.here | apply Sel.there))) ?_) | apply Ent.skip)); done)
/-- How many nodes are reached; how many of a kind. -/
def cnR (R : List Bool) : Nat → Nat
  | 0 => 0
  | i + 1 => cnR R i + (if R[i]? = some true then 1 else 0)
def hcR (G : List Node) (R : List Bool) (k : Nat) : Nat → Nat
  | 0 => 0
  | i + 1 => hcR G R k i + (if R[i]? = some true ∧ (G[i]?).map (fun x => kindOf x.op) = some k then 1 else 0)
theorem cnR_le {R : List Bool} : ∀ i, cnR R i ≤ i
  | 0 => Nat.le_refl _
  | i + 1 => by have := cnR_le (R := R) i; simp only [cnR]; split <;> omega
theorem hcR_le {G : List Node} {R : List Bool} {k : Nat} : ∀ i, hcR G R k i ≤ i
  | 0 => Nat.le_refl _
  | i + 1 => by have := hcR_le (G := G) (R := R) (k := k) i; simp only [hcR]; split <;> omega
def histL (f : Nat → Int) : List Int := (List.range 17).map f
theorem histL_len {f : Nat → Int} : (histL f).length = 17 := by simp [histL]
theorem histL_at {f : Nat → Int} {k : Nat} (h : k < 17) : (histL f)[k]? = some (f k) := by simp [histL, h]
theorem histL_set {f g : Nat → Int} {k : Nat} {x : Int} (hk : k < 17) (hx : g k = x) (h : ∀ j, j ≠ k → j < 17 → g j = f j) : (histL f).set k x = histL g := by
  refine List.ext_getElem? fun j => ?_
  by_cases hj : j < 17
  · by_cases hjk : j = k
    · subst hjk; rw [List.getElem?_set_self (by rw [histL_len]; exact hj), histL_at hj, hx]
    · rw [List.getElem?_set_ne (Ne.symm hjk), histL_at hj, histL_at hj, h j hjk hj]
  · rw [List.getElem?_eq_none (by simp [histL]; omega), List.getElem?_eq_none (by simp [histL]; omega)]
theorem histL_congr {f g : Nat → Int} (h : ∀ j, j < 17 → f j = g j) : histL f = histL g := by
  unfold histL
  exact List.map_congr_left fun j hj => h j (List.mem_range.1 hj)
theorem hist_zero : ints (List.replicate 17 0) = ints (histL fun _ => 0) := rfl
set_option maxHeartbeats 1000000 in
theorem Each_ok (W : World) (F : List Chunk) (sl rv ov : Value) (mb : Nat) (nn ee dp : Int) (G : List Node) (R : List Bool) (hg : GraphR W F sl G) (hr : Rs W F rv 1 (bools R)) (hRl : R.length = G.length) (hb : G.length ≤ 1000000) :
    SLf Try.prog W 93 [.agg #[sl], rv, .func (.func 94) #[.pointer (some ⟨mb, 0, none⟩)] #[]] (.blk mb 86 [.int .i64 nn, .int .i64 ee, .int .i64 0, .int .i64 dp, .int .i64 0, ov] :: .row ov 3 1 (ints (List.replicate 17 0)) :: F)
      (fun _ σ => σ = .blk mb 86 [.int .i64 nn, .int .i64 ee, .int .i64 (cnR R G.length : Nat), .int .i64 dp, .int .i64 (hcR G R 1 G.length : Nat), ov] :: .row ov 3 1 (ints (histL fun k => (hcR G R k G.length : Nat))) :: F) := by
  have hrs := hg.rs
  have hl := hg.len
  have hlen : (G.map Node.cells).length = G.length := by simp
  have hbl := @bools_len R
  rw [hist_zero]
  refine SLf.enter Try.func93 rfl (Nat.le_of_ble_eq_true rfl) ?_
  (repeat' (first | (first | refine SLl.nil ?_ | ((show SLl _ _ _ _ _ (⟨⟨_, _, _, _, _, _⟩, _, _⟩ :: _) _ _ _); first | refine SLl.ev rfl rfl rfl rfl ?_ | ((show SLl _ _ _ _ _ (⟨⟨_, .load _ _, _, _, _, _⟩, _, _⟩ :: _) _ _ _); (refine SLl.rdSeq rfl rfl (Rd.load rfl rfl (by ((apply Reads.blk; (· (repeat (apply Sel.here))); (· rfl))))) ?_)) | ((show SLl _ _ _ _ _ (⟨⟨_, .fieldAddr _ _ _, _, _, _, _⟩, _, _⟩ :: _) _ _ _); (refine SLl.pu rfl rfl rfl (Pu.fieldAddr rfl) ?_)) | ((show SLl _ _ _ _ _ (⟨⟨_, .call ⟨.builtin .len, _, _⟩, _, _, _, _⟩, _, _⟩ :: _) _ _ _); refine SLl.rdSeq rfl rfl (Rd.len rfl (by ((apply Len.rs; exact Rs.mono (by assumption) (by (repeat' (first | exact Ent.refl | apply Ent.skip))))))) ?_) | ((show SLl _ _ _ _ _ (⟨⟨_, .box _ _, _, _, _, _⟩, _, _⟩ :: _) _ _ _); refine SLl.seq rfl rfl (SLo.boxC rfl (by (exact Cel.agg)) ?_); intro b))) | (first | refine SLc.seq ?_ | refine SLc.region rfl ?_ | refine SLc.block ?_)))
  refine SLc.loop (ι := Nat) (fun i => [(11, .int .i64 i), (10, .int .i64 (G.map Node.cells).length), (9, sl), (2, .func (.func 94) #[.pointer (some ⟨mb, 0, none⟩)] #[]), (1, rv)]) (fun i => .blk mb 86 [.int .i64 nn, .int .i64 ee, .int .i64 (cnR R i : Nat), .int .i64 dp, .int .i64 (hcR G R 1 i : Nat), ov] :: .row ov 3 1 (ints (histL fun k => (hcR G R k i : Nat))) :: F)
    (fun i => i ≤ G.length) (fun i => G.length - i) 0 (Nat.zero_le _) (by (repeat' (first | exact trivial | apply And.intro | rfl))) (by (repeat' (first | exact Ent.refl | (refine Ent.cons (by (repeat (first | apply Sel.here | apply Sel.there))) ?_) | apply Ent.skip))) ?_
  intro i hi
  by_cases hlt : i < G.length
  · have hx : G[i]? = some G[i] := List.getElem?_eq_getElem hlt
    have hRi : R[i]? = some (R[i]'(by omega)) := List.getElem?_eq_getElem (by omega)
    generalize G[i] = x at hx
    have hca := cells_at hx
    obtain ⟨o1, o2, o3, o4, o5⟩ := hg.ones x (List.mem_of_getElem? hx)
    have hkl := kindOf_lt x.op
    have hcl := cnR_le (R := R) i
    cases hb0 : (R[i]'(by omega)) with
    | false =>
      rw [hb0] at hRi
      have hba := bools_at hRi
      have h1 : cnR R (i + 1) = cnR R i := by simp [cnR, hRi]
      have h2 : ∀ k, hcR G R k (i + 1) = hcR G R k i := fun k => by simp [hcR, hRi]
      (repeat' (first | (first | refine SLl.nil ?_ | ((show SLl _ _ _ _ _ (⟨⟨_, _, _, _, _, _⟩, _, _⟩ :: _) _ _ _); first | refine SLl.ev rfl rfl rfl rfl ?_ | ((show SLl _ _ _ _ _ (⟨⟨_, .load _ _, _, _, _, _⟩, _, _⟩ :: _) _ _ _); (first | refine SLl.rdSeq rfl rfl (Rd.load rfl rfl (by ((apply Reads.rs; (· exact Rs.mono (by assumption) (by (repeat' (first | exact Ent.refl | apply Ent.skip)))); (· (assumption)); (· rfl))))) ?_ | refine SLl.rdSeq rfl rfl (Rd.loadN rfl rfl (by ((apply ReadsN.rs0; (· exact Rs.mono (by assumption) (by (repeat' (first | exact Ent.refl | apply Ent.skip)))); (· (assumption))))) (by rfl)) ?_)) | ((show SLl _ _ _ _ _ (⟨⟨_, .indexAddr _ _ _, _, _, _, _⟩, _, _⟩ :: _) _ _ _); (refine SLl.rdSeq rfl rfl (Rd.indexAddr rfl rfl (by ((apply Len.rs; exact Rs.mono (by assumption) (by (repeat' (first | exact Ent.refl | apply Ent.skip)))))) (by (rfl)) (by omega)) ?_)) | ((show SLl _ _ _ _ _ (⟨⟨_, .binOp _ _ _ _ _, _, _, _, _⟩, _, _⟩ :: _) _ _ _); (first | refine SLl.pu rfl rfl rfl (Pu.add rfl rfl (IntWalk.i64_in _ (by omega))) ?_ | (refine SLl.cmp rfl rfl rfl rfl rfl rfl ?_ ?_ <;> intro hq <;> simp only [cmpP] at hq <;> try ((exfalso; omega))))) | ((show SLl _ _ _ _ _ (⟨⟨_, .store _ _ _, _, _, _, _⟩, _, _⟩ :: _) _ _ _); ((refine SLl.seq0 rfl (SLo.storeN rfl rfl rfl (by (repeat' (first | exact trivial | (apply And.intro; (· (first | exact One.lit rfl | exact One.mono (by assumption) (by (repeat' (first | exact Ent.refl | apply Ent.skip))))))))) (Nat.le_of_ble_eq_true rfl) (by (repeat (apply Upd.here))) ?_)))) | ((show SLl _ _ _ _ _ (⟨⟨_, .alloc _, _, _, _, _⟩, _, _⟩ :: _) _ _ _); refine SLl.seq rfl rfl (SLo.alloc ?_); intro b))) | (first | refine SLc.seq ?_ | refine SLc.region rfl ?_ | refine SLc.condT rfl ?_ | refine SLc.condF rfl ?_ | refine SLc.block ?_ | refine SLc.skip ?_)))
      refine And.intro rfl (Exists.intro (i + 1) (And.intro (by omega) (And.intro (by omega) (And.intro (by (repeat' (first | exact trivial | apply And.intro | rfl))) ?_))))
      simp only [h1, h2]
      (repeat' (first | exact Ent.refl | (refine Ent.cons (by (repeat (first | apply Sel.here | apply Sel.there))) ?_) | apply Ent.skip))
    | true =>
      rw [hb0] at hRi
      have hba := bools_at hRi
      have h1 : cnR R (i + 1) = cnR R i + 1 := by simp [cnR, hRi]
      have h2 : ∀ k, hcR G R k (i + 1) = hcR G R k i + (if kindOf x.op = k then 1 else 0) := fun k => by simp [hcR, hRi, hx]
      have h3 : hcR G R 1 (i + 1) = hcR G R 1 i + (if x.op = 1 then 1 else 0) := by
        rw [h2]
        have hiff : (kindOf x.op = 1) ↔ (x.op = 1) := by unfold kindOf; split <;> omega
        by_cases h : x.op = 1
        · rw [if_pos h, if_pos (hiff.2 h)]
        · rw [if_neg h, if_neg (fun h' => h (hiff.1 h'))]
      have hh1 := hcR_le (G := G) (R := R) (k := 1) i
      have hhk := hcR_le (G := G) (R := R) (k := kindOf x.op) i
      (repeat' (first | (first | refine SLl.nil ?_ | ((show SLl _ _ _ _ _ (⟨⟨_, _, _, _, _, _⟩, _, _⟩ :: _) _ _ _); first | refine SLl.ev rfl rfl rfl rfl ?_ | ((show SLl _ _ _ _ _ (⟨⟨_, .load _ _, _, _, _, _⟩, _, _⟩ :: _) _ _ _); (first | refine SLl.rdSeq rfl rfl (Rd.load rfl rfl (by (first | (apply Reads.blk; (· (repeat (apply Sel.here))); (· rfl)) | (apply Reads.rs; (· exact Rs.mono (by assumption) (by (repeat' (first | exact Ent.refl | apply Ent.skip)))); (· (assumption)); (· rfl))))) ?_ | refine SLl.rdSeq rfl rfl (Rd.loadN rfl rfl (by (first | (apply ReadsN.blk0; (· (repeat (apply Sel.here)))) | (apply ReadsN.rs0; (· exact Rs.mono (by assumption) (by (repeat' (first | exact Ent.refl | apply Ent.skip)))); (· (assumption))))) (by rfl)) ?_)) | ((show SLl _ _ _ _ _ (⟨⟨_, .indexAddr _ _ _, _, _, _, _⟩, _, _⟩ :: _) _ _ _); (refine SLl.rdSeq rfl rfl (Rd.indexAddr rfl rfl (by ((apply Len.rs; exact Rs.mono (by assumption) (by (repeat' (first | exact Ent.refl | apply Ent.skip)))))) (by (rfl)) (by omega)) ?_)) | ((show SLl _ _ _ _ _ (⟨⟨_, .binOp _ _ _ _ _, _, _, _, _⟩, _, _⟩ :: _) _ _ _); ((refine SLl.cmp rfl rfl rfl rfl rfl rfl ?_ ?_ <;> intro hq <;> simp only [cmpP] at hq <;> try ((exfalso; omega))))) | ((show SLl _ _ _ _ _ (⟨⟨_, .store _ _ _, _, _, _, _⟩, _, _⟩ :: _) _ _ _); ((refine SLl.seq0 rfl (SLo.storeN rfl rfl rfl (by (repeat' (first | exact trivial | (apply And.intro; (· (first | exact One.lit rfl | exact One.mono (by assumption) (by (repeat' (first | exact Ent.refl | apply Ent.skip))))))))) (Nat.le_of_ble_eq_true rfl) (by (repeat (apply Upd.here))) ?_)))) | ((show SLl _ _ _ _ _ (⟨⟨_, .alloc _, _, _, _, _⟩, _, _⟩ :: _) _ _ _); refine SLl.seq rfl rfl (SLo.alloc ?_); intro b))) | (first | refine SLc.seq ?_ | refine SLc.region rfl ?_ | refine SLc.condT rfl ?_ | refine SLc.block ?_ | refine SLc.skip ?_)))
      refine SLl.seq rfl rfl (SLo.callW (pre := [.pointer (some ⟨mb, 0, none⟩)]) (caps := []) plain94 rfl rfl (SLf.ent (σ' := .blk mb 86 [.int .i64 nn, .int .i64 ee, .int .i64 (cnR R i : Nat), .int .i64 dp, .int .i64 (hcR G R 1 i : Nat), ov] :: .row ov 3 1 (ints (histL fun k => (hcR G R k i : Nat))) :: F) (by (repeat' (first | exact Ent.refl | (refine Ent.cons (by (repeat (first | apply Sel.here | apply Sel.there))) ?_) | apply Ent.skip))) (SLf.mono (Count_ok W F mb ov nn ee (cnR R i : Nat) dp (hcR G R 1 i : Nat) (hcR G R (kindOf x.op) i : Nat) _ _ x histL_len (by omega) (by omega) (histL_at hkl) (by omega) rfl) ?_)))
      rintro v σ rfl
      rw [histL_set (g := fun k => ((hcR G R k (i + 1) : Nat) : Int)) hkl (by rw [h2, if_pos rfl]; omega) (fun j hj _ => by rw [h2, if_neg (fun h => hj h.symm)]; rfl)]
      (repeat' (first | (first | refine SLl.nil ?_ | ((show SLl _ _ _ _ _ (⟨⟨_, _, _, _, _, _⟩, _, _⟩ :: _) _ _ _); first | refine SLl.ev rfl rfl rfl rfl ?_ | ((show SLl _ _ _ _ _ (⟨⟨_, .binOp _ _ _ _ _, _, _, _, _⟩, _, _⟩ :: _) _ _ _); (refine SLl.pu rfl rfl rfl (Pu.add rfl rfl (IntWalk.i64_in _ (by omega))) ?_)))) | (refine SLc.region rfl ?_)))
      refine And.intro rfl (Exists.intro (i + 1) (And.intro (by omega) (And.intro (by omega) (And.intro (by (repeat' (first | exact trivial | apply And.intro | rfl))) ?_))))
      rw [h1, h3]
      have e1 : ((cnR R i + 1 : Nat) : Int) = (cnR R i : Nat) + 1 := by omega
      have e2 : ((hcR G R 1 i + (if x.op = 1 then 1 else 0) : Nat) : Int) = (hcR G R 1 i : Nat) + (if x.op = 1 then 1 else 0) := by split <;> omega
      rw [e1, e2]
      (repeat' (exact Ent.refl))
  · have hie : i = G.length := by omega
    subst hie
    (repeat' (first | (first | refine SLl.nil ?_ | ((show SLl _ _ _ _ _ (⟨⟨_, _, _, _, _, _⟩, _, _⟩ :: _) _ _ _); ((show SLl _ _ _ _ _ (⟨⟨_, .binOp _ _ _ _ _, _, _, _, _⟩, _, _⟩ :: _) _ _ _); ((refine SLl.cmp rfl rfl rfl rfl rfl rfl ?_ ?_ <;> intro hq <;> simp only [cmpP] at hq <;> try ((exfalso; omega))))))) | (first | refine SLc.seq ?_ | refine SLc.region rfl ?_ | refine SLc.condF rfl ?_ | refine SLc.exit ?_)))
    refine And.intro rfl (Exists.intro _ (Exists.intro _ (And.intro rfl (And.intro .refl rfl))))
end Go.Sl
