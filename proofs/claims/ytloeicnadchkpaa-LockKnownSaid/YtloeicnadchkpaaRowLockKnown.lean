/- Proved here: the statement LockKnown of backstitchlaw16 (Rows.LockKnownSaid): whatever the world, the law's function returns true and leaves what was there as it was. No condition. -/
import Derived.Test.YtloeicnadchkpaaLaw16b
import Derived.Test.YtloeicnadchkpaaFacts
namespace Go.Proofs.Ytloeicnadchkpaa
open Go.ChangeShapes Go.WideShapes Go.ChangeAt Go.RowKit Go.Sl

set_option maxRecDepth 100000 in
theorem lockKnown_lifted (os : Os) (started : os.Started) (H : Type) (enc : TypeId × Value → H) :
    ReturnsInHanded {} Try.checked os 8 .any (Rows.lockKnownSpec.pre6 enc Try.prog Try.f8 Rows.lockKnownRow.domain false) (Rows.lockKnownSpec.post enc Try.prog Try.f8 false true false false) := by
  refine returnsInHanded_of_change_sized (C := Try.checked) own_knob started (by kernel_rfl) Try.func8
    (ChangeSpec.witness6 (enc := enc) (C := Try.checked) false ⟨#[], #[], []⟩ 8 (by kernel_rfl) (by kernel_rfl) (by kernel_rfl) (by kernel_rfl)) ?_
  intro W base args ds gs before hval hW _ _ _
  have hW' := hW
  obtain ⟨p, q, hA0, _⟩ := hW
  have hA : DataW.TrodAll enc Try.prog W 0 (fun _ => true) true Try.f8.params.toList args.toList ds p := hA0
  rw [Try.params8] at hA
  obtain ⟨rfl, rfl, _⟩ := trodAll_none hA
  refine (calls_of_SLf (Known16 W [])).mono fun e W' ⟨he, hb⟩ => ⟨_, he, ?_⟩
  exact law_post rfl rfl (by kernel_rfl) hW' rfl hb

theorem lockKnown_facts : joinedFacts Try.prog 8 Try.f8 Rows.lockKnownSpec Rows.lockKnownRow = true :=
  joined_try (by kernel_rfl) (by kernel_rfl) (by kernel_rfl) rfl rfl (by kernel_rfl) (by kernel_rfl) (by kernel_rfl) (by kernel_rfl) (by kernel_rfl) rfl rfl rfl rfl (by kernel_rfl)
theorem lockKnown_over : Rows.lockKnownRow.holds Try.pinned (OpenSpec.ofChange Rows.lockKnownSpec) :=
  OpenClaim.holds_of_wide 8 Try.f8 rfl rfl rfl rfl rfl rfl rfl ⟨rfl, rfl, rfl, rfl, rfl⟩ rfl rfl rfl rfl rfl (by kernel_rfl) Try.func8 lockKnown_facts
    (of_decide_eq_true (by kernel_rfl)) (by unfold Func.isWrapper; first | (rw [if_pos (by decide +kernel)]; kernel_rfl) | (rw [if_neg (by decide +kernel)]; exact ⟨rfl, rfl⟩))
    (fun os started H enc _ => lockKnown_lifted os started H enc)

theorem lockKnown_proved : Rows.LockKnownSaid := lockKnown_over
#print axioms lockKnown_proved
end Go.Proofs.Ytloeicnadchkpaa
