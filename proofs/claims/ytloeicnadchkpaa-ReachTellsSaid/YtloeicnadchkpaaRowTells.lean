/- Proved here: the statement ReachTells of backstitchlaw11 (Rows.ReachTellsSaid): for every graph and root that are handed in the law's function returns true, and its arguments read as before. No condition beyond the row's own. -/
import Derived.Test.YtloeicnadchkpaaRowLaw
import Derived.Test.YtloeicnadchkpaaLaw11e
namespace Go.Proofs.Ytloeicnadchkpaa
open Go.ChangeShapes Go.WideShapes Go.ChangeAt Go.RowKit Go.Sl

set_option maxRecDepth 100000 in
theorem reachTells_lifted (os : Os) (started : os.Started) (H : Type) (enc : TypeId × Value → H) :
    ReturnsInHanded {} Try.checked os 3 .any (Rows.reachTellsSpec.pre6 enc Try.prog Try.f3 Rows.reachTellsRow.domain false) (Rows.reachTellsSpec.post enc Try.prog Try.f3 false true false false) := by
  refine lift_law started (by kernel_rfl) Try.func3
    (ChangeSpec.witness6 (enc := enc) (C := Try.checked) false ⟨#[], #[.agg #[.slice none 0 0], .int .i64 0], []⟩ 8 (by kernel_rfl) (by kernel_rfl) (by kernel_rfl) (by kernel_rfl)) rfl rfl rfl (by kernel_rfl) ?_
  intro W base args ds ps hval hA0 hz0
  have hA : DataW.TrodAll enc Try.prog W 0 (fun _ => true) true [24, 3] args ds ps := hA0
  have hz : (DataW.weightsEach Try.prog [24, 3] ds).all (· ≤ reachBytes) = true := hz0
  clear hA0 hz0
  obtain ⟨v1, v2, d1, d2, rfl, rfl, ⟨p1, h1⟩, ⟨p2, h2⟩⟩ := args_two hA
  obtain ⟨sl, G, rfl, hx⟩ := graph_arg h1 (fits_at hz (j := 0) rfl rfl) (hval 0 24 v1 rfl rfl)
  obtain ⟨root, rfl, _⟩ := int_arg h2 (hval 1 3 v2 rfl rfl)
  exact ⟨Tells11 W sl G root hx, rfl⟩
theorem reachTells_facts : joinedFacts Try.prog 3 Try.f3 Rows.reachTellsSpec Rows.reachTellsRow = true :=
  joined_try (by kernel_rfl) (by kernel_rfl) (by kernel_rfl) rfl rfl (by kernel_rfl) (by kernel_rfl) (by kernel_rfl) (by kernel_rfl) (by kernel_rfl) rfl rfl rfl rfl (by kernel_rfl)
theorem reachTells_over : Rows.reachTellsRow.holds Try.pinned (OpenSpec.ofChange Rows.reachTellsSpec) :=
  OpenClaim.holds_of_wide 3 Try.f3 rfl rfl rfl rfl rfl rfl rfl ⟨rfl, rfl, rfl, rfl, rfl⟩ rfl rfl rfl rfl rfl (by kernel_rfl) Try.func3 reachTells_facts
    (of_decide_eq_true (by kernel_rfl)) (by unfold Func.isWrapper; first | (rw [if_pos (by decide +kernel)]; kernel_rfl) | (rw [if_neg (by decide +kernel)]; exact ⟨rfl, rfl⟩))
    (fun os started H enc _ => reachTells_lifted os started H enc)
theorem reachTells_proved : Rows.ReachTellsSaid := reachTells_over
#print axioms reachTells_proved
end Go.Proofs.Ytloeicnadchkpaa
