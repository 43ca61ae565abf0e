/- backstitchlaw25.MeterKnown: the walk. -/
import Derived.Test.YtloeicnadchkpaaMAwake
namespace Go.Sl
open Go.Proofs
attribute [local irreducible] SLc SLl SLo SLf Pu Rd

set_option maxHeartbeats 8000000 in
set_option maxRecDepth 4000 in
theorem Known25 (W : World) : SLf Try.prog W 19 [] [] (fun v _ => v = .bool true) := by
  refine SLf.enter Try.func19 rfl (Nat.le_of_ble_eq_true rfl) ?_
  (repeat' (first | (first | refine SLl.nil ?_ | ((show SLl _ _ _ _ _ (⟨⟨_, _, _, _, _, _⟩, _, _⟩ :: _) _ _ _); refine SLl.ev rfl rfl rfl rfl ?_)) | (first | refine SLc.seq ?_ | refine SLc.region rfl ?_)))
  refine SLl.seq rfl rfl (SLo.call plain61 rfl (SLf.mono (Awake25 W _) ?_))
  rintro v σ ⟨rfl, rfl⟩
  (repeat' (first | (first | refine SLl.nil ?_ | ((show SLl _ _ _ _ _ (⟨⟨_, _, _, _, _, _⟩, _, _⟩ :: _) _ _ _); first | refine SLl.ev rfl rfl rfl rfl ?_ | ((show SLl _ _ _ _ _ (⟨⟨_, .build _ _, _, _, _, _⟩, _, _⟩ :: _) _ _ _); refine SLl.rdSeq rfl rfl (Rd.build rfl (by (repeat (first | exact CellsW.nil | (apply CellsW.cons; (· (exact Cel.one (by (exact One.lit rfl)))))))) (by rfl)) ?_))) | (first | refine SLc.seq ?_ | refine SLc.region rfl ?_ | refine SLc.condF rfl ?_ | refine SLc.skip ?_)))
  refine SLl.seq rfl rfl (SLo.buildSliceE (ints [0, 0]) (by decide) (by decide) rfl (by (repeat (first | exact CellsW.nil | (apply CellsW.cons; (· (exact Cel.one (by (exact One.lit rfl)))))))) (by simp [ints]) rfl (by rfl) ?_)
  intro i2 hi2
  (repeat' ((((show SLl _ _ _ _ _ (⟨⟨_, _, _, _, _, _⟩, _, _⟩ :: _) _ _ _); ((show SLl _ _ _ _ _ (⟨⟨_, .build _ _, _, _, _, _⟩, _, _⟩ :: _) _ _ _); refine SLl.rdSeq rfl rfl (Rd.build rfl (by (repeat (first | exact CellsW.nil | (apply CellsW.cons; (· (exact Cel.one (by (first | exact One.lit rfl | exact One.len (by ((apply Len.row; (· (repeat (apply Sel.here)))))))))))))) (by rfl)) ?_)))))
  refine SLl.seq rfl rfl (SLo.buildSliceE (ints [2]) (by decide) (by decide) rfl (by (repeat (first | exact CellsW.nil | (apply CellsW.cons; (· (exact Cel.one (by (exact One.lit rfl)))))))) (by simp [ints]) rfl (by rfl) ?_)
  intro i3 hi3
  (repeat' ((((show SLl _ _ _ _ _ (⟨⟨_, _, _, _, _, _⟩, _, _⟩ :: _) _ _ _); ((show SLl _ _ _ _ _ (⟨⟨_, .build _ _, _, _, _, _⟩, _, _⟩ :: _) _ _ _); refine SLl.rdSeq rfl rfl (Rd.build rfl (by (repeat (first | exact CellsW.nil | (apply CellsW.cons; (· (exact Cel.one (by (first | exact One.lit rfl | exact One.len (by ((apply Len.row; (· (repeat (apply Sel.here)))))))))))))) (by rfl)) ?_)))))
  refine SLl.seq rfl rfl (SLo.buildSliceE (ints [3, 0]) (by decide) (by decide) rfl (by (repeat (first | exact CellsW.nil | (apply CellsW.cons; (· (exact Cel.one (by (exact One.lit rfl)))))))) (by simp [ints]) rfl (by rfl) ?_)
  intro i4 hi4
  (repeat' ((((show SLl _ _ _ _ _ (⟨⟨_, _, _, _, _, _⟩, _, _⟩ :: _) _ _ _); ((show SLl _ _ _ _ _ (⟨⟨_, .build _ _, _, _, _, _⟩, _, _⟩ :: _) _ _ _); refine SLl.rdSeq rfl rfl (Rd.build rfl (by (repeat (first | exact CellsW.nil | (apply CellsW.cons; (· (exact Cel.one (by (first | exact One.lit rfl | exact One.len (by ((apply Len.row; (· (repeat (apply Sel.here)))))))))))))) (by rfl)) ?_)))))
  refine SLl.seq rfl rfl (SLo.buildSliceE ([ndCells 1 (.slice none 0 0), ndCells 1 (.slice none 0 0), ndCells 6 i2, ndCells 8 i3, ndCells 99 i4]) (by decide) (by decide) rfl (by (repeat (first | exact CellsW.nil | (apply CellsW.cons; (· (exact Cel.agg)))))) (by simp [ndCells]) rfl (by rfl) ?_)
  intro sl hsl
  (repeat' ((((show SLl _ _ _ _ _ (⟨⟨_, _, _, _, _, _⟩, _, _⟩ :: _) _ _ _); ((show SLl _ _ _ _ _ (⟨⟨_, .build _ _, _, _, _, _⟩, _, _⟩ :: _) _ _ _); refine SLl.rdSeq rfl rfl (Rd.build rfl (by (repeat (first | exact CellsW.nil | (apply CellsW.cons; (· (exact Cel.one (by (exact One.len (by ((apply Len.row; (· (repeat (apply Sel.here)))))))))))))) (by rfl)) ?_)))))
  refine SLl.seq rfl rfl (SLo.buildSliceE [[sl]] (by decide) (by decide) rfl (by (repeat (first | exact CellsW.nil | (apply CellsW.cons; (· (exact Cel.agg)))))) (by simp) rfl (by rfl) ?_)
  intro gv hgv
  have hG : ∀ σ, Ent σ (.row sl 47 7 [ndCells 1 (.slice none 0 0), ndCells 1 (.slice none 0 0), ndCells 6 i2, ndCells 8 i3, ndCells 99 i4] :: .row i4 3 1 (ints [3, 0]) :: .row i3 3 1 (ints [2]) :: .row i2 3 1 (ints [0, 0]) :: []) → GraphR W σ sl [nd 1 (.slice none 0 0) [], nd 1 (.slice none 0 0) [], nd 6 i2 [0, 0], nd 8 i3 [2], nd 99 i4 [3, 0]] := by
    intro σ he
    refine ⟨(Rs.row .here (by simp [nd, Node.cells])).mono he, ?_, Nat.le_of_ble_eq_true rfl, ?_, ?_⟩
    · intro x hx
      simp only [List.mem_cons, List.not_mem_nil, or_false] at hx
      rcases hx with rfl | rfl | rfl | rfl | rfl
      · exact Rs.nil
      · exact Rs.nil
      all_goals exact (rs_ints (by (repeat (first | apply Sel.here | apply Sel.there)))).mono he
    · intro x hx
      simp only [List.mem_cons, List.not_mem_nil, or_false] at hx
      rcases hx with rfl | rfl | rfl | rfl | rfl <;> exact Nat.le_of_ble_eq_true rfl
    · intro x hx
      simp only [List.mem_cons, List.not_mem_nil, or_false] at hx
      rcases hx with rfl | rfl | rfl | rfl | rfl
      · exact ⟨One.lit rfl, One.lit rfl, One.lit rfl, One.lit rfl, One.lit rfl⟩
      · exact ⟨One.lit rfl, One.lit rfl, One.lit rfl, One.lit rfl, One.lit rfl⟩
      all_goals exact ⟨(One.len (Len.row (by (repeat (first | apply Sel.here | apply Sel.there))))).mono he, One.lit rfl, One.lit rfl, One.lit rfl, One.lit rfl⟩
  have hL : ∀ σ, Ent σ [.row gv 24 1 [[sl]]] → Rs W σ gv 1 (gcells [(sl, [nd 1 (.slice none 0 0) [], nd 1 (.slice none 0 0) [], nd 6 i2 [0, 0], nd 8 i3 [2], nd 99 i4 [3, 0]])]) := fun σ h => (Rs.row (es := [[sl]]) .here (by simp)).mono h
  have hm4 : mayF [nd 1 (.slice none 0 0) [], nd 1 (.slice none 0 0) [], nd 6 i2 [0, 0], nd 8 i3 [2], nd 99 i4 [3, 0]] ((4 : Nat) : Int) = true := by kernel_rfl
  have hm2 : mayF [nd 1 (.slice none 0 0) [], nd 1 (.slice none 0 0) [], nd 6 i2 [0, 0], nd 8 i3 [2], nd 99 i4 [3, 0]] ((2 : Nat) : Int) = true := by kernel_rfl
  have hM4 : ∀ ov, meterV [nd 1 (.slice none 0 0) [], nd 1 (.slice none 0 0) [], nd 6 i2 [0, 0], nd 8 i3 [2], nd 99 i4 [3, 0]] (fromL [nd 1 (.slice none 0 0) [], nd 1 (.slice none 0 0) [], nd 6 i2 [0, 0], nd 8 i3 [2], nd 99 i4 [3, 0]] 4) 4 ov = [.int .i64 5, .int .i64 5, .int .i64 4, .int .i64 4, .int .i64 1, ov] := fun _ => by kernel_rfl
  have hM2 : ∀ ov, meterV [nd 1 (.slice none 0 0) [], nd 1 (.slice none 0 0) [], nd 6 i2 [0, 0], nd 8 i3 [2], nd 99 i4 [3, 0]] (fromL [nd 1 (.slice none 0 0) [], nd 1 (.slice none 0 0) [], nd 6 i2 [0, 0], nd 8 i3 [2], nd 99 i4 [3, 0]] 2) 2 ov = [.int .i64 5, .int .i64 5, .int .i64 2, .int .i64 2, .int .i64 1, ov] := fun _ => by kernel_rfl
  have hH4 : (histL fun k => ((hcR [nd 1 (.slice none 0 0) [], nd 1 (.slice none 0 0) [], nd 6 i2 [0, 0], nd 8 i3 [2], nd 99 i4 [3, 0]] (fromL [nd 1 (.slice none 0 0) [], nd 1 (.slice none 0 0) [], nd 6 i2 [0, 0], nd 8 i3 [2], nd 99 i4 [3, 0]] 4) k 5 : Nat) : Int)) = [1, 1, 0, 0, 0, 0, 1, 0, 1, 0, 0, 0, 0, 0, 0, 0, 0] := by kernel_rfl
  (repeat' (first | (first | refine SLl.nil ?_ | ((show SLl _ _ _ _ _ (⟨⟨_, _, _, _, _, _⟩, _, _⟩ :: _) _ _ _); refine SLl.ev rfl rfl rfl rfl ?_)) | (first | refine SLc.seq ?_ | refine SLc.region rfl ?_)))
  refine SLl.seq rfl rfl (SLo.call plain62 rfl (SLf.mono (Of_ok W _ gv _ 0 4 sl _ (hL _ (by (repeat' (first | (refine Ent.cons (by (repeat (apply Sel.here))) ?_) | exact Ent.drop)))) rfl (hG _ (by (repeat' (first | (refine Ent.cons (by (repeat (first | apply Sel.here | apply Sel.there))) ?_) | exact Ent.drop)))) hm4 (Nat.le_of_ble_eq_true rfl) (Nat.le_of_ble_eq_true rfl)) ?_))
  rintro v σ ⟨ov4, hov4, rfl, rfl⟩
  rw [hM4]
  refine SLl.abst fun σ1 hσ1 => ?_
  have hσ2 : Ent σ1 (.row ov4 3 1 (ints [1, 1, 0, 0, 0, 0, 1, 0, 1, 0, 0, 0, 0, 0, 0, 0, 0]) :: .row gv 24 1 [[sl]] :: .row sl 47 7 [ndCells 1 (.slice none 0 0), ndCells 1 (.slice none 0 0), ndCells 6 i2, ndCells 8 i3, ndCells 99 i4] :: .row i4 3 1 (ints [3, 0]) :: .row i3 3 1 (ints [2]) :: .row i2 3 1 (ints [0, 0]) :: []) := .trans hσ1 (Ent.row (congrArg ints hH4) (by (repeat' (exact Ent.refl))))
  have hO : ∀ σ, Ent σ σ1 → Rs W σ ov4 1 (ints [1, 1, 0, 0, 0, 0, 1, 0, 1, 0, 0, 0, 0, 0, 0, 0, 0]) := fun σ h => (rs_ints .here).mono (.trans h hσ2)
  have hG' : ∀ σ, Ent σ σ1 → GraphR W σ sl [nd 1 (.slice none 0 0) [], nd 1 (.slice none 0 0) [], nd 6 i2 [0, 0], nd 8 i3 [2], nd 99 i4 [3, 0]] := fun σ h => hG _ (.trans h (.trans hσ2 (by (repeat' (first | (refine Ent.cons (by (repeat (first | apply Sel.here | apply Sel.there))) ?_) | exact Ent.drop)))))
  have hL' : ∀ σ, Ent σ σ1 → Rs W σ gv 1 (gcells [(sl, [nd 1 (.slice none 0 0) [], nd 1 (.slice none 0 0) [], nd 6 i2 [0, 0], nd 8 i3 [2], nd 99 i4 [3, 0]])]) := fun σ h => hL _ (.trans h (.trans hσ2 (by (repeat' (first | (refine Ent.cons (by (repeat (first | apply Sel.here | apply Sel.there))) ?_) | exact Ent.drop)))))
  clear hG hL hσ1 hσ2
  have hO1 := hO σ1 .refl
  (repeat' (first | (first | refine SLl.nil ?_ | ((show SLl _ _ _ _ _ (⟨⟨_, _, _, _, _, _⟩, _, _⟩ :: _) _ _ _); first | refine SLl.ev rfl rfl rfl rfl ?_ | ((show SLl _ _ _ _ _ (⟨⟨_, .store _ _ _, _, _, _, _⟩, _, _⟩ :: _) _ _ _); ((refine SLl.seq0 rfl (SLo.storeN rfl rfl rfl (by (repeat' (first | exact trivial | (apply And.intro; (· (first | exact One.lit rfl | exact One.len (by ((apply Len.rs; exact Rs.mono (by assumption) (by (repeat' (first | exact Ent.refl | apply Ent.skip)))))))))))) (Nat.le_of_ble_eq_true rfl) (by (repeat (apply Upd.here))) ?_)))) | ((show SLl _ _ _ _ _ (⟨⟨_, .alloc _, _, _, _, _⟩, _, _⟩ :: _) _ _ _); refine SLl.seq rfl rfl (SLo.alloc ?_); intro b))) | (first | refine SLc.seq ?_ | refine SLc.region rfl ?_)))
  refine SLl.seq rfl rfl (SLo.call plain62 rfl (SLf.mono (Of_ok W _ gv _ 0 2 sl _ (hL' _ (by (repeat' (first | exact Ent.refl | apply Ent.skip)))) rfl (hG' _ (by (repeat' (first | exact Ent.refl | apply Ent.skip)))) hm2 (Nat.le_of_ble_eq_true rfl) (Nat.le_of_ble_eq_true rfl)) ?_))
  rintro v σ ⟨ov2, hov2, rfl, rfl⟩
  rw [hM2]
  (repeat' (first | (first | refine SLl.nil ?_ | ((show SLl _ _ _ _ _ (⟨⟨_, _, _, _, _, _⟩, _, _⟩ :: _) _ _ _); first | refine SLl.ev rfl rfl rfl rfl ?_ | ((show SLl _ _ _ _ _ (⟨⟨_, .store _ _ _, _, _, _, _⟩, _, _⟩ :: _) _ _ _); ((refine SLl.seq0 rfl (SLo.storeN rfl rfl rfl (by (repeat' (first | exact trivial | (apply And.intro; (· (first | exact One.lit rfl | exact One.len (by ((apply Len.row; (· (repeat (first | apply Sel.here | apply Sel.there)))))))))))) (Nat.le_of_ble_eq_true rfl) (by (repeat (apply Upd.here))) ?_)))) | ((show SLl _ _ _ _ _ (⟨⟨_, .alloc _, _, _, _, _⟩, _, _⟩ :: _) _ _ _); refine SLl.seq rfl rfl (SLo.alloc ?_); intro b))) | (first | refine SLc.seq ?_ | refine SLc.region rfl ?_)))
  refine SLl.seq rfl rfl (SLo.call plain62 rfl (SLf.mono (Of_low1 W _ gv _ 1 0 (hL' _ (by (repeat' (first | exact Ent.refl | apply Ent.skip)))) (.inr (Int.le_refl _))) ?_))
  rintro v σ ⟨rfl, rfl⟩
  unfold zeroM
  (repeat' (first | (first | refine SLl.nil ?_ | ((show SLl _ _ _ _ _ (⟨⟨_, _, _, _, _, _⟩, _, _⟩ :: _) _ _ _); first | refine SLl.ev rfl rfl rfl rfl ?_ | ((show SLl _ _ _ _ _ (⟨⟨_, .store _ _ _, _, _, _, _⟩, _, _⟩ :: _) _ _ _); ((refine SLl.seq0 rfl (SLo.storeN rfl rfl rfl (by (repeat' (first | exact trivial | (apply And.intro; (· (exact One.lit rfl)))))) (Nat.le_of_ble_eq_true rfl) (by (repeat (apply Upd.here))) ?_)))) | ((show SLl _ _ _ _ _ (⟨⟨_, .alloc _, _, _, _, _⟩, _, _⟩ :: _) _ _ _); refine SLl.seq rfl rfl (SLo.alloc ?_); intro b))) | (first | refine SLc.seq ?_ | refine SLc.region rfl ?_)))
  refine SLl.seq rfl rfl (SLo.call plain62 rfl (SLf.mono (Of_low2 W _ gv _ 0 5 sl _ (hL' _ (by (repeat' (first | exact Ent.refl | apply Ent.skip)))) rfl (hG' _ (by (repeat' (first | exact Ent.refl | apply Ent.skip)))) (.inr (Int.le_refl _))) ?_))
  rintro v σ ⟨rfl, rfl⟩
  unfold zeroM
  (repeat' (first | (first | refine SLl.nil ?_ | ((show SLl _ _ _ _ _ (⟨⟨_, _, _, _, _, _⟩, _, _⟩ :: _) _ _ _); first | refine SLl.ev rfl rfl rfl rfl ?_ | ((show SLl _ _ _ _ _ (⟨⟨_, .store _ _ _, _, _, _, _⟩, _, _⟩ :: _) _ _ _); ((refine SLl.seq0 rfl (SLo.storeN rfl rfl rfl (by (repeat' (first | exact trivial | (apply And.intro; (· (exact One.lit rfl)))))) (Nat.le_of_ble_eq_true rfl) (by (repeat (apply Upd.here))) ?_)))) | ((show SLl _ _ _ _ _ (⟨⟨_, .alloc _, _, _, _, _⟩, _, _⟩ :: _) _ _ _); refine SLl.seq rfl rfl (SLo.alloc ?_); intro b))) | (first | refine SLc.seq ?_ | refine SLc.region rfl ?_)))
  refine SLl.seq rfl rfl (SLo.buildSliceE (ints [0]) (by decide) (by decide) rfl (by (repeat (first | exact CellsW.nil | (apply CellsW.cons; (· (exact Cel.one (by (exact One.lit rfl)))))))) (by simp [ints]) rfl (by rfl) ?_)
  intro j0 hj0
  (repeat' ((((show SLl _ _ _ _ _ (⟨⟨_, _, _, _, _, _⟩, _, _⟩ :: _) _ _ _); ((show SLl _ _ _ _ _ (⟨⟨_, .build _ _, _, _, _, _⟩, _, _⟩ :: _) _ _ _); refine SLl.rdSeq rfl rfl (Rd.build rfl (by (repeat (first | exact CellsW.nil | (apply CellsW.cons; (· (exact Cel.one (by (first | exact One.lit rfl | exact One.len (by ((apply Len.row; (· (repeat (apply Sel.here)))))))))))))) (by rfl)) ?_)))))
  refine SLl.seq rfl rfl (SLo.buildSliceE [ndCells 8 j0] (by decide) (by decide) rfl (by (repeat (first | exact CellsW.nil | (apply CellsW.cons; (· (exact Cel.agg)))))) (by simp [ndCells]) rfl (by rfl) ?_)
  intro s2 hs2
  (repeat' ((((show SLl _ _ _ _ _ (⟨⟨_, _, _, _, _, _⟩, _, _⟩ :: _) _ _ _); ((show SLl _ _ _ _ _ (⟨⟨_, .build _ _, _, _, _, _⟩, _, _⟩ :: _) _ _ _); refine SLl.rdSeq rfl rfl (Rd.build rfl (by (repeat (first | exact CellsW.nil | (apply CellsW.cons; (· (exact Cel.one (by (exact One.len (by ((apply Len.row; (· (repeat (apply Sel.here)))))))))))))) (by rfl)) ?_)))))
  refine SLl.seq rfl rfl (SLo.buildSliceE [[s2]] (by decide) (by decide) rfl (by (repeat (first | exact CellsW.nil | (apply CellsW.cons; (· (exact Cel.agg)))))) (by simp) rfl (by rfl) ?_)
  intro g2 hg2
  have hG2 : ∀ σ, Ent σ (.row s2 47 7 [ndCells 8 j0] :: .row j0 3 1 (ints [0]) :: []) → GraphR W σ s2 [nd 8 j0 [0]] := by
    intro σ he
    refine ⟨(Rs.row .here (by simp [nd, Node.cells])).mono he, ?_, Nat.le_of_ble_eq_true rfl, ?_, ?_⟩
    · intro x hx
      rw [List.mem_singleton] at hx
      subst hx
      exact (rs_ints (by (repeat (first | apply Sel.here | apply Sel.there)))).mono he
    · intro x hx
      rw [List.mem_singleton] at hx
      subst hx
      exact Nat.le_of_ble_eq_true rfl
    · intro x hx
      rw [List.mem_singleton] at hx
      subst hx
      exact ⟨(One.len (Len.row (by (repeat (first | apply Sel.here | apply Sel.there))))).mono he, One.lit rfl, One.lit rfl, One.lit rfl, One.lit rfl⟩
  refine SLl.seq rfl rfl (SLo.call plain62 rfl (SLf.mono (Of_low3 W _ g2 [(s2, [nd 8 j0 [0]])] 0 0 s2 _ (Rs.row .here (by simp [gcells])) rfl (hG2 _ (by (repeat' (first | (refine Ent.cons (by (repeat (first | apply Sel.here | apply Sel.there))) ?_) | exact Ent.drop)))) ⟨Int.le_refl _, Int.lt_add_one_of_le (Int.le_refl _)⟩ rfl) ?_))
  rintro v σ ⟨rfl, rfl⟩
  unfold zeroM
  (repeat' (first | (first | refine SLl.nil ?_ | ((show SLl _ _ _ _ _ (⟨⟨_, _, _, _, _, _⟩, _, _⟩ :: _) _ _ _); first | refine SLl.ev rfl rfl rfl rfl ?_ | ((show SLl _ _ _ _ _ (⟨⟨_, .store _ _ _, _, _, _, _⟩, _, _⟩ :: _) _ _ _); ((refine SLl.seq0 rfl (SLo.storeN rfl rfl rfl (by (repeat' (first | exact trivial | (apply And.intro; (· (exact One.lit rfl)))))) (Nat.le_of_ble_eq_true rfl) (by (repeat (apply Upd.here))) ?_)))) | ((show SLl _ _ _ _ _ (⟨⟨_, .alloc _, _, _, _, _⟩, _, _⟩ :: _) _ _ _); refine SLl.seq rfl rfl (SLo.alloc ?_); intro b) | ((show SLl _ _ _ _ _ (⟨⟨_, .build _ _, _, _, _, _⟩, _, _⟩ :: _) _ _ _); refine SLl.rdSeq rfl rfl (Rd.build rfl (by (repeat (first | exact CellsW.nil | (apply CellsW.cons; (· (exact Cel.one (by (exact One.lit rfl)))))))) (by rfl)) ?_))) | (first | refine SLc.seq ?_ | refine SLc.region rfl ?_)))
  refine SLl.seq rfl rfl (SLo.buildSliceE (evs [(0, 0, 3), (0, 3, 5), (0, 4, 4), (0, 6, 6)]) (by decide) (by decide) rfl (by (repeat (first | exact CellsW.nil | (apply CellsW.cons; (· (exact Cel.agg)))))) (fun c hc => evs_eight c hc) rfl (by rfl) ?_)
  intro ev hev
  have hE : ∀ σ, Ent σ [.row ev 105 8 (evs [(0, 0, 3), (0, 3, 5), (0, 4, 4), (0, 6, 6)])] → Rs W σ ev 8 (evs [(0, 0, 3), (0, 3, 5), (0, 4, 4), (0, 6, 6)]) := fun σ h => (Rs.row .here evs_eight).mono h
  have hS : most [(0, 0, 3), (0, 3, 5), (0, 4, 4), (0, 6, 6)] 4 = 2 := by kernel_rfl
  have hl17 : (ints [1, 1, 0, 0, 0, 0, 1, 0, 1, 0, 0, 0, 0, 0, 0, 0, 0]).length = 17 := rfl
  have hat0 : (ints [1, 1, 0, 0, 0, 0, 1, 0, 1, 0, 0, 0, 0, 0, 0, 0, 0])[0]? = some [.int .i64 1] := rfl
  have hat1 : (ints [1, 1, 0, 0, 0, 0, 1, 0, 1, 0, 0, 0, 0, 0, 0, 0, 0])[1]? = some [.int .i64 1] := rfl
  have hat6 : (ints [1, 1, 0, 0, 0, 0, 1, 0, 1, 0, 0, 0, 0, 0, 0, 0, 0])[(6 : Int).toNat]? = some [.int .i64 1] := rfl
  (repeat' (first | (first | refine SLl.nil ?_ | ((show SLl _ _ _ _ _ (⟨⟨_, _, _, _, _, _⟩, _, _⟩ :: _) _ _ _); first | refine SLl.ev rfl rfl rfl rfl ?_ | ((show SLl _ _ _ _ _ (⟨⟨_, .load _ _, _, _, _, _⟩, _, _⟩ :: _) _ _ _); (refine SLl.rdSeq rfl rfl (Rd.load rfl rfl (by (first | (apply Reads.blk; (· (repeat (first | apply Sel.here | apply Sel.there))); (· rfl)) | (apply Reads.rs; (· exact Rs.mono (by assumption) (by (repeat' (first | exact Ent.refl | apply Ent.skip)))); (· (rfl)); (· rfl))))) ?_)) | ((show SLl _ _ _ _ _ (⟨⟨_, .fieldAddr _ _ _, _, _, _, _⟩, _, _⟩ :: _) _ _ _); (refine SLl.pu rfl rfl rfl (Pu.fieldAddr rfl) ?_)) | ((show SLl _ _ _ _ _ (⟨⟨_, .indexAddr _ _ _, _, _, _, _⟩, _, _⟩ :: _) _ _ _); (refine SLl.rdSeq rfl rfl (Rd.indexAddr rfl rfl (by ((apply Len.rs; exact Rs.mono (by assumption) (by (repeat' (first | exact Ent.refl | apply Ent.skip)))))) (by (first | exact ij0 | exact ij1 | exact ijs _)) (by omega)) ?_)) | ((show SLl _ _ _ _ _ (⟨⟨_, .call ⟨.builtin .len, _, _⟩, _, _, _, _⟩, _, _⟩ :: _) _ _ _); refine SLl.rdSeq rfl rfl (Rd.len rfl (by ((apply Len.rs; exact Rs.mono (by assumption) (by (repeat' (first | exact Ent.refl | apply Ent.skip))))))) ?_) | ((show SLl _ _ _ _ _ (⟨⟨_, .binOp _ _ _ _ _, _, _, _, _⟩, _, _⟩ :: _) _ _ _); ((refine SLl.cmp rfl rfl rfl rfl rfl rfl ?_ ?_ <;> intro hq <;> simp only [cmpP] at hq <;> try (first | exact (hq trivial).elim | (exfalso; omega))))))) | (first | refine SLc.seq ?_ | refine SLc.region rfl ?_)))
  refine SLl.seq rfl rfl (SLo.call plain66 rfl (SLf.mono (Spread_ok W _ ev _ (hE _ (by (repeat' (first | (refine Ent.cons (by (repeat (apply Sel.here))) ?_) | exact Ent.drop)))) (Nat.le_of_ble_eq_true rfl)) ?_))
  rintro v σ ⟨rfl, rfl⟩
  show SLl _ _ _ _ _ _ ((142, .int .i64 2) :: _) _ _
  (repeat' ((((show SLl _ _ _ _ _ (⟨⟨_, _, _, _, _, _⟩, _, _⟩ :: _) _ _ _); first | refine SLl.ev rfl rfl rfl rfl ?_ | ((show SLl _ _ _ _ _ (⟨⟨_, .binOp _ _ _ _ _, _, _, _, _⟩, _, _⟩ :: _) _ _ _); ((refine SLl.cmp rfl rfl rfl rfl rfl rfl ?_ ?_ <;> intro hq <;> simp only [cmpP] at hq <;> try (exact (hq trivial).elim))))))))
  refine SLl.seq rfl rfl (SLo.call plain66 rfl (SLf.mono (Spread_ok W _ _ [] Rs.nil (Nat.zero_le _)) ?_))
  rintro v σ ⟨rfl, rfl⟩
  show SLl _ _ _ _ _ _ ((146, .int .i64 0) :: _) _ _
  (repeat' (first | (first | refine SLl.nil ?_ | ((show SLl _ _ _ _ _ (⟨⟨_, _, _, _, _, _⟩, _, _⟩ :: _) _ _ _); first | refine SLl.ev rfl rfl rfl rfl ?_ | ((show SLl _ _ _ _ _ (⟨⟨_, .binOp _ _ _ _ _, _, _, _, _⟩, _, _⟩ :: _) _ _ _); ((refine SLl.cmp rfl rfl rfl rfl rfl rfl ?_ ?_ <;> intro hq <;> simp only [cmpP] at hq <;> try (exact (hq trivial).elim)))))) | (refine SLc.ret ?_)))
  refine And.intro rfl (Exists.intro _ (Exists.intro _ (And.intro rfl (And.intro .drop rfl))))
end Go.Sl
