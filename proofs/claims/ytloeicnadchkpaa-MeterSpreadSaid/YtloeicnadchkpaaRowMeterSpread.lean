/- Proved here: the statement MeterSpread of backstitchlaw25 (Rows.MeterSpreadSaid): for every input that is handed in the law's function returns true, and its arguments read as before. No condition beyond the row's own. -/
import Derived.Test.YtloeicnadchkpaaArgs3
import Derived.Test.YtloeicnadchkpaaArgs25
namespace Go.Proofs.Ytloeicnadchkpaa
open Go.ChangeShapes Go.WideShapes Go.ChangeAt Go.RowKit Go.Sl

set_option maxRecDepth 100000 in
theorem meterSpread_lifted (os : Os) (started : os.Started) (H : Type) (enc : TypeId × Value → H) :
    ReturnsInHanded {} Try.checked os 18 .any (Rows.meterSpreadSpec.pre6 enc Try.prog Try.f18 Rows.meterSpreadRow.domain false) (Rows.meterSpreadSpec.post enc Try.prog Try.f18 false true false false) := by
  refine lift_law started (by kernel_rfl) Try.func18
    (ChangeSpec.witness6 (enc := enc) (C := Try.checked) false ⟨#[], #[.slice none 0 0], []⟩ 8 (by kernel_rfl) (by kernel_rfl) (by kernel_rfl) (by kernel_rfl)) rfl rfl rfl (by kernel_rfl) ?_
  intro W base args ds ps hval hA0 hz0
  have hA : DataW.TrodAll enc Try.prog W 0 (fun _ => true) true [98] args ds ps := hA0
  have hz : (DataW.weightsEach Try.prog [98] ds).all (· ≤ reachBytes) = true := hz0
  clear hA0 hz0
  obtain ⟨v1, d1, rfl, rfl, h1⟩ := args_one hA
  obtain ⟨es1, hrs1, _, _, he1⟩ := slice_arg ty98 ty101 (by decide) (by decide) h1 (fits_at hz (j := 0) rfl rfl) (hval 0 98 v1 rfl rfl)
  obtain ⟨l, rfl, hl⟩ := pairs_arg he1
  exact ⟨Spread25 W v1 l (hrs1 []) hl, rfl⟩
theorem meterSpread_facts : joinedFacts Try.prog 18 Try.f18 Rows.meterSpreadSpec Rows.meterSpreadRow = true :=
  joined_try (by kernel_rfl) (by kernel_rfl) (by kernel_rfl) rfl rfl (by kernel_rfl) (by kernel_rfl) (by kernel_rfl) (by kernel_rfl) (by kernel_rfl) rfl rfl rfl rfl (by kernel_rfl)
theorem meterSpread_over : Rows.meterSpreadRow.holds Try.pinned (OpenSpec.ofChange Rows.meterSpreadSpec) :=
  OpenClaim.holds_of_wide 18 Try.f18 rfl rfl rfl rfl rfl rfl rfl ⟨rfl, rfl, rfl, rfl, rfl⟩ rfl rfl rfl rfl rfl (by kernel_rfl) Try.func18 meterSpread_facts
    (of_decide_eq_true (by kernel_rfl)) (by unfold Func.isWrapper; first | (rw [if_pos (by decide +kernel)]; kernel_rfl) | (rw [if_neg (by decide +kernel)]; exact ⟨rfl, rfl⟩))
    (fun os started H enc _ => meterSpread_lifted os started H enc)
theorem meterSpread_proved : Rows.MeterSpreadSaid := meterSpread_over
#print axioms meterSpread_proved
end Go.Proofs.Ytloeicnadchkpaa
