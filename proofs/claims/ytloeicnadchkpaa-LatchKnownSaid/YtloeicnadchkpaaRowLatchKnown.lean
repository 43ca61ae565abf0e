/- Proved here: the statement LatchKnown of backstitchlaw17 (Rows.LatchKnownSaid): whatever the world, the law's function returns true and leaves what was there as it was. No condition. -/
import Derived.Test.YtloeicnadchkpaaLaw17
import Derived.Test.YtloeicnadchkpaaFacts
namespace Go.Proofs.Ytloeicnadchkpaa
open Go.ChangeShapes Go.WideShapes Go.ChangeAt Go.RowKit Go.Sl

set_option maxRecDepth 100000 in
theorem latchKnown_lifted (os : Os) (started : os.Started) (H : Type) (enc : TypeId × Value → H) :
    ReturnsInHanded {} Try.checked os 23 .any (Rows.latchKnownSpec.pre6 enc Try.prog Try.f23 Rows.latchKnownRow.domain false) (Rows.latchKnownSpec.post enc Try.prog Try.f23 false true false false) := by
  refine returnsInHanded_of_change_sized (C := Try.checked) own_knob started (by kernel_rfl) Try.func23
    (ChangeSpec.witness6 (enc := enc) (C := Try.checked) false ⟨#[], #[], []⟩ 8 (by kernel_rfl) (by kernel_rfl) (by kernel_rfl) (by kernel_rfl)) ?_
  intro W base args ds gs before hval hW _ _ _
  have hW' := hW
  obtain ⟨p, q, hA0, _⟩ := hW
  have hA : DataW.TrodAll enc Try.prog W 0 (fun _ => true) true Try.f23.params.toList args.toList ds p := hA0
  rw [Try.params23] at hA
  obtain ⟨rfl, rfl, _⟩ := trodAll_none hA
  refine (calls_of_SLf (Known17 W [])).mono fun e W' ⟨he, hb⟩ => ⟨_, he, ?_⟩
  exact law_post rfl rfl (by kernel_rfl) hW' rfl hb

theorem latchKnown_facts : joinedFacts Try.prog 23 Try.f23 Rows.latchKnownSpec Rows.latchKnownRow = true :=
  joined_try (by kernel_rfl) (by kernel_rfl) (by kernel_rfl) rfl rfl (by kernel_rfl) (by kernel_rfl) (by kernel_rfl) (by kernel_rfl) (by kernel_rfl) rfl rfl rfl rfl (by kernel_rfl)
theorem latchKnown_over : Rows.latchKnownRow.holds Try.pinned (OpenSpec.ofChange Rows.latchKnownSpec) :=
  OpenClaim.holds_of_wide 23 Try.f23 rfl rfl rfl rfl rfl rfl rfl ⟨rfl, rfl, rfl, rfl, rfl⟩ rfl rfl rfl rfl rfl (by kernel_rfl) Try.func23 latchKnown_facts
    (of_decide_eq_true (by kernel_rfl)) (by unfold Func.isWrapper; first | (rw [if_pos (by decide +kernel)]; kernel_rfl) | (rw [if_neg (by decide +kernel)]; exact ⟨rfl, rfl⟩))
    (fun os started H enc _ => latchKnown_lifted os started H enc)

theorem latchKnown_proved : Rows.LatchKnownSaid := latchKnown_over
#print axioms latchKnown_proved
end Go.Proofs.Ytloeicnadchkpaa
