/- Proved here: the statement MeterKnown of backstitchlaw25 (Rows.MeterKnownSaid): whatever the world, the law's function returns true and leaves what was there as it was. No condition. -/
import Derived.Test.YtloeicnadchkpaaLaw25k
import Derived.Test.YtloeicnadchkpaaFacts
namespace Go.Proofs.Ytloeicnadchkpaa
open Go.ChangeShapes Go.WideShapes Go.ChangeAt Go.RowKit Go.Sl

set_option maxRecDepth 100000 in
theorem meterKnown_lifted (os : Os) (started : os.Started) (H : Type) (enc : TypeId × Value → H) :
    ReturnsInHanded {} Try.checked os 19 .any (Rows.meterKnownSpec.pre6 enc Try.prog Try.f19 Rows.meterKnownRow.domain false) (Rows.meterKnownSpec.post enc Try.prog Try.f19 false true false false) := by
  refine returnsInHanded_of_change_sized (C := Try.checked) own_knob started (by kernel_rfl) Try.func19
    (ChangeSpec.witness6 (enc := enc) (C := Try.checked) false ⟨#[], #[], []⟩ 8 (by kernel_rfl) (by kernel_rfl) (by kernel_rfl) (by kernel_rfl)) ?_
  intro W base args ds gs before hval hW _ _ _
  have hW' := hW
  obtain ⟨p, q, hA0, _⟩ := hW
  have hA : DataW.TrodAll enc Try.prog W 0 (fun _ => true) true Try.f19.params.toList args.toList ds p := hA0
  rw [Try.params19] at hA
  obtain ⟨rfl, rfl, _⟩ := trodAll_none hA
  refine (calls_of_SLf (Known25 W)).mono fun e W' ⟨he, hb⟩ => ⟨_, he, ?_⟩
  exact law_post rfl rfl (by kernel_rfl) hW' rfl hb

theorem meterKnown_facts : joinedFacts Try.prog 19 Try.f19 Rows.meterKnownSpec Rows.meterKnownRow = true :=
  joined_try (by kernel_rfl) (by kernel_rfl) (by kernel_rfl) rfl rfl (by kernel_rfl) (by kernel_rfl) (by kernel_rfl) (by kernel_rfl) (by kernel_rfl) rfl rfl rfl rfl (by kernel_rfl)
theorem meterKnown_over : Rows.meterKnownRow.holds Try.pinned (OpenSpec.ofChange Rows.meterKnownSpec) :=
  OpenClaim.holds_of_wide 19 Try.f19 rfl rfl rfl rfl rfl rfl rfl ⟨rfl, rfl, rfl, rfl, rfl⟩ rfl rfl rfl rfl rfl (by kernel_rfl) Try.func19 meterKnown_facts
    (of_decide_eq_true (by kernel_rfl)) (by unfold Func.isWrapper; first | (rw [if_pos (by decide +kernel)]; kernel_rfl) | (rw [if_neg (by decide +kernel)]; exact ⟨rfl, rfl⟩))
    (fun os started H enc _ => meterKnown_lifted os started H enc)

theorem meterKnown_proved : Rows.MeterKnownSaid := meterKnown_over
#print axioms meterKnown_proved
end Go.Proofs.Ytloeicnadchkpaa
