/- Proved here: the statement MeterCounts of backstitchlaw25 (Rows.MeterCountsSaid): for every input that is handed in the law's function returns true, and its arguments read as before. No condition beyond the row's own. -/
import Derived.Test.YtloeicnadchkpaaArgs25
import Derived.Test.YtloeicnadchkpaaLaw25c
namespace Go.Proofs.Ytloeicnadchkpaa
open Go.ChangeShapes Go.WideShapes Go.ChangeAt Go.RowKit Go.Sl

set_option maxRecDepth 100000 in
theorem meterCounts_lifted (os : Os) (started : os.Started) (H : Type) (enc : TypeId × Value → H) :
    ReturnsInHanded {} Try.checked os 15 .any (Rows.meterCountsSpec.pre6 enc Try.prog Try.f15 Rows.meterCountsRow.domain false) (Rows.meterCountsSpec.post enc Try.prog Try.f15 false true false false) := by
  refine lift_law started (by kernel_rfl) Try.func15
    (ChangeSpec.witness6 (enc := enc) (C := Try.checked) false ⟨#[], #[.slice none 0 0, .agg #[.int .i64 0, .int .i64 0]], []⟩ 8 (by kernel_rfl) (by kernel_rfl) (by kernel_rfl) (by kernel_rfl)) rfl rfl rfl (by kernel_rfl) ?_
  intro W base args ds ps hval hA0 hz0
  have hA : DataW.TrodAll enc Try.prog W 0 (fun _ => true) true [27, 84] args ds ps := hA0
  have hz : (DataW.weightsEach Try.prog [27, 84] ds).all (· ≤ reachBytes) = true := hz0
  clear hA0 hz0
  obtain ⟨v1, v2, d1, d2, rfl, rfl, h1, h2⟩ := args_two hA
  obtain ⟨es1, hrs1, _, hl1, he1⟩ := slice_arg ty27 ty24 (by decide) (by decide) h1 (fits_at hz (j := 0) rfl rfl) (hval 0 27 v1 rfl rfl)
  obtain ⟨Gs, rfl, hG⟩ := graphs_arg he1
  obtain ⟨i, j, rfl, _, _⟩ := pair_arg h2 (hval 1 84 v2 rfl rfl)
  exact ⟨Counts25 W v1 Gs i j (hrs1 []) hG (by rwa [gcells_len] at hl1), rfl⟩
theorem meterCounts_facts : joinedFacts Try.prog 15 Try.f15 Rows.meterCountsSpec Rows.meterCountsRow = true :=
  joined_try (by kernel_rfl) (by kernel_rfl) (by kernel_rfl) rfl rfl (by kernel_rfl) (by kernel_rfl) (by kernel_rfl) (by kernel_rfl) (by kernel_rfl) rfl rfl rfl rfl (by kernel_rfl)
theorem meterCounts_over : Rows.meterCountsRow.holds Try.pinned (OpenSpec.ofChange Rows.meterCountsSpec) :=
  OpenClaim.holds_of_wide 15 Try.f15 rfl rfl rfl rfl rfl rfl rfl ⟨rfl, rfl, rfl, rfl, rfl⟩ rfl rfl rfl rfl rfl (by kernel_rfl) Try.func15 meterCounts_facts
    (of_decide_eq_true (by kernel_rfl)) (by unfold Func.isWrapper; first | (rw [if_pos (by decide +kernel)]; kernel_rfl) | (rw [if_neg (by decide +kernel)]; exact ⟨rfl, rfl⟩))
    (fun os started H enc _ => meterCounts_lifted os started H enc)
theorem meterCounts_proved : Rows.MeterCountsSaid := meterCounts_over
#print axioms meterCounts_proved
end Go.Proofs.Ytloeicnadchkpaa
