/- Proved here: the statement SchedKnown of backstitchlaw15 (Rows.SchedKnownSaid): whatever the world, the law's function returns true and leaves what was there as it was. No condition. -/
import Derived.Test.YtloeicnadchkpaaLaw15k
import Derived.Test.YtloeicnadchkpaaFacts
namespace Go.Proofs.Ytloeicnadchkpaa
open Go.ChangeShapes Go.WideShapes Go.ChangeAt Go.RowKit Go.Sl

set_option maxRecDepth 100000 in
theorem schedKnown_lifted (os : Os) (started : os.Started) (H : Type) (enc : TypeId × Value → H) :
    ReturnsInHanded {} Try.checked os 14 .any (Rows.schedKnownSpec.pre6 enc Try.prog Try.f14 Rows.schedKnownRow.domain false) (Rows.schedKnownSpec.post enc Try.prog Try.f14 false true false false) := by
  refine returnsInHanded_of_change_sized (C := Try.checked) own_knob started (by kernel_rfl) Try.func14
    (ChangeSpec.witness6 (enc := enc) (C := Try.checked) false ⟨#[], #[], []⟩ 8 (by kernel_rfl) (by kernel_rfl) (by kernel_rfl) (by kernel_rfl)) ?_
  intro W base args ds gs before hval hW _ _ _
  have hW' := hW
  obtain ⟨p, q, hA0, _⟩ := hW
  have hA : DataW.TrodAll enc Try.prog W 0 (fun _ => true) true Try.f14.params.toList args.toList ds p := hA0
  rw [Try.params14] at hA
  obtain ⟨rfl, rfl, _⟩ := trodAll_none hA
  refine (calls_of_SLf (Known15 W)).mono fun e W' ⟨he, hb⟩ => ⟨_, he, ?_⟩
  exact law_post rfl rfl (by kernel_rfl) hW' rfl hb

theorem schedKnown_facts : joinedFacts Try.prog 14 Try.f14 Rows.schedKnownSpec Rows.schedKnownRow = true :=
  joined_try (by kernel_rfl) (by kernel_rfl) (by kernel_rfl) rfl rfl (by kernel_rfl) (by kernel_rfl) (by kernel_rfl) (by kernel_rfl) (by kernel_rfl) rfl rfl rfl rfl (by kernel_rfl)
theorem schedKnown_over : Rows.schedKnownRow.holds Try.pinned (OpenSpec.ofChange Rows.schedKnownSpec) :=
  OpenClaim.holds_of_wide 14 Try.f14 rfl rfl rfl rfl rfl rfl rfl ⟨rfl, rfl, rfl, rfl, rfl⟩ rfl rfl rfl rfl rfl (by kernel_rfl) Try.func14 schedKnown_facts
    (of_decide_eq_true (by kernel_rfl)) (by unfold Func.isWrapper; first | (rw [if_pos (by decide +kernel)]; kernel_rfl) | (rw [if_neg (by decide +kernel)]; exact ⟨rfl, rfl⟩))
    (fun os started H enc _ => schedKnown_lifted os started H enc)

theorem schedKnown_proved : Rows.SchedKnownSaid := schedKnown_over
#print axioms schedKnown_proved
end Go.Proofs.Ytloeicnadchkpaa
