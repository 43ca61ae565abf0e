/- Proved here: the statement MeterSame of backstitchlaw25 (Rows.MeterSameSaid): for every input that is handed in the law's function returns true, and its arguments read as before. No condition beyond the row's own. -/
import Derived.Test.YtloeicnadchkpaaArgs25b
import Derived.Test.YtloeicnadchkpaaLaw25q
namespace Go.Proofs.Ytloeicnadchkpaa
open Go.ChangeShapes Go.WideShapes Go.ChangeAt Go.RowKit Go.Sl

set_option maxRecDepth 100000 in
theorem meterSame_lifted (os : Os) (started : os.Started) (H : Type) (enc : TypeId × Value → H) :
    ReturnsInHanded {} Try.checked os 16 .any (Rows.meterSameSpec.pre6 enc Try.prog Try.f16 Rows.meterSameRow.domain false) (Rows.meterSameSpec.post enc Try.prog Try.f16 false true false false) := by
  refine lift_law started (by kernel_rfl) Try.func16
    (ChangeSpec.witness6 (enc := enc) (C := Try.checked) false ⟨#[], #[.agg #[.slice none 0 0, .slice none 0 0, .slice none 0 0, .int .i64 0, .int .i64 0], .agg #[.slice none 0 0, .slice none 0 0, .slice none 0 0, .int .i64 0, .int .i64 0]], []⟩ 8 (by kernel_rfl) (by kernel_rfl) (by kernel_rfl) (by kernel_rfl)) rfl rfl rfl (by kernel_rfl) ?_
  intro W base args ds ps hval hA0 hz0
  have hA : DataW.TrodAll enc Try.prog W 0 (fun _ => true) true [92, 92] args ds ps := hA0
  have hz : (DataW.weightsEach Try.prog [92, 92] ds).all (· ≤ reachBytes) = true := hz0
  clear hA0 hz0
  obtain ⟨v1, v2, d1, d2, rfl, rfl, h1, h2⟩ := args_two hA
  obtain ⟨p, rfl, hp⟩ := grad_arg h1 (fits_at hz (j := 0) rfl rfl) (hval 0 92 v1 rfl rfl)
  obtain ⟨q, rfl, hq⟩ := grad_arg h2 (fits_at hz (j := 1) rfl rfl) (hval 1 92 v2 rfl rfl)
  exact ⟨Same25 W p q hp hq, rfl⟩
theorem meterSame_facts : joinedFacts Try.prog 16 Try.f16 Rows.meterSameSpec Rows.meterSameRow = true :=
  joined_try (by kernel_rfl) (by kernel_rfl) (by kernel_rfl) rfl rfl (by kernel_rfl) (by kernel_rfl) (by kernel_rfl) (by kernel_rfl) (by kernel_rfl) rfl rfl rfl rfl (by kernel_rfl)
theorem meterSame_over : Rows.meterSameRow.holds Try.pinned (OpenSpec.ofChange Rows.meterSameSpec) :=
  OpenClaim.holds_of_wide 16 Try.f16 rfl rfl rfl rfl rfl rfl rfl ⟨rfl, rfl, rfl, rfl, rfl⟩ rfl rfl rfl rfl rfl (by kernel_rfl) Try.func16 meterSame_facts
    (of_decide_eq_true (by kernel_rfl)) (by unfold Func.isWrapper; first | (rw [if_pos (by decide +kernel)]; kernel_rfl) | (rw [if_neg (by decide +kernel)]; exact ⟨rfl, rfl⟩))
    (fun os started H enc _ => meterSame_lifted os started H enc)
theorem meterSame_proved : Rows.MeterSameSaid := meterSame_over
#print axioms meterSame_proved
end Go.Proofs.Ytloeicnadchkpaa
