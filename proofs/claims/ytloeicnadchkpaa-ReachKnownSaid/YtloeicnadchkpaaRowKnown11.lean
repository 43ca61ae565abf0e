/- Proved here: the statement ReachKnown of backstitchlaw11 (Rows.ReachKnownSaid): whatever the world, the law's function returns true and leaves what was there as it was. No condition. -/
import Derived.Test.YtloeicnadchkpaaLaw11c
import Derived.Test.YtloeicnadchkpaaFacts
namespace Go.Proofs.Ytloeicnadchkpaa
open Go.ChangeShapes Go.WideShapes Go.ChangeAt Go.RowKit Go.Sl

set_option maxRecDepth 100000 in
theorem reachKnown_lifted (os : Os) (started : os.Started) (H : Type) (enc : TypeId × Value → H) :
    ReturnsInHanded {} Try.checked os 4 .any (Rows.reachKnownSpec.pre6 enc Try.prog Try.f4 Rows.reachKnownRow.domain false) (Rows.reachKnownSpec.post enc Try.prog Try.f4 false true false false) := by
  refine returnsInHanded_of_change_sized (C := Try.checked) own_knob started (by kernel_rfl) Try.func4
    (ChangeSpec.witness6 (enc := enc) (C := Try.checked) false ⟨#[], #[], []⟩ 8 (by kernel_rfl) (by kernel_rfl) (by kernel_rfl) (by kernel_rfl)) ?_
  intro W base args ds gs before hval hW _ _ _
  have hW' := hW
  obtain ⟨p, q, hA0, _⟩ := hW
  have hA : DataW.TrodAll enc Try.prog W 0 (fun _ => true) true Try.f4.params.toList args.toList ds p := hA0
  rw [Try.params4] at hA
  obtain ⟨rfl, rfl, _⟩ := trodAll_none hA
  refine (calls_of_SLf (Known11 W [])).mono fun e W' ⟨he, hb⟩ => ⟨_, he, ?_⟩
  exact law_post rfl rfl (by kernel_rfl) hW' rfl hb

theorem reachKnown_facts : joinedFacts Try.prog 4 Try.f4 Rows.reachKnownSpec Rows.reachKnownRow = true :=
  joined_try (by kernel_rfl) (by kernel_rfl) (by kernel_rfl) rfl rfl (by kernel_rfl) (by kernel_rfl) (by kernel_rfl) (by kernel_rfl) (by kernel_rfl) rfl rfl rfl rfl (by kernel_rfl)
theorem reachKnown_over : Rows.reachKnownRow.holds Try.pinned (OpenSpec.ofChange Rows.reachKnownSpec) :=
  OpenClaim.holds_of_wide 4 Try.f4 rfl rfl rfl rfl rfl rfl rfl ⟨rfl, rfl, rfl, rfl, rfl⟩ rfl rfl rfl rfl rfl (by kernel_rfl) Try.func4 reachKnown_facts
    (of_decide_eq_true (by kernel_rfl)) (by unfold Func.isWrapper; first | (rw [if_pos (by decide +kernel)]; kernel_rfl) | (rw [if_neg (by decide +kernel)]; exact ⟨rfl, rfl⟩))
    (fun os started H enc _ => reachKnown_lifted os started H enc)

theorem reachKnown_proved : Rows.ReachKnownSaid := reachKnown_over
#print axioms reachKnown_proved
end Go.Proofs.Ytloeicnadchkpaa
