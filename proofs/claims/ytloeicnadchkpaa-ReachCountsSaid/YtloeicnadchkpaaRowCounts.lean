/- Proved here: the statement ReachCounts of backstitchlaw11 (Rows.ReachCountsSaid): for every graph and root that are handed in the law's function returns true, and its arguments read as before. No condition beyond the row's own. -/
import Derived.Test.YtloeicnadchkpaaRowLaw
import Derived.Test.YtloeicnadchkpaaLaw11g
namespace Go.Proofs.Ytloeicnadchkpaa
open Go.ChangeShapes Go.WideShapes Go.ChangeAt Go.RowKit Go.Sl

set_option maxRecDepth 100000 in
theorem reachCounts_lifted (os : Os) (started : os.Started) (H : Type) (enc : TypeId × Value → H) :
    ReturnsInHanded {} Try.checked os 5 .any (Rows.reachCountsSpec.pre6 enc Try.prog Try.f5 Rows.reachCountsRow.domain false) (Rows.reachCountsSpec.post enc Try.prog Try.f5 false true false false) := by
  refine lift_law started (by kernel_rfl) Try.func5
    (ChangeSpec.witness6 (enc := enc) (C := Try.checked) false ⟨#[], #[.agg #[.slice none 0 0], .int .i64 0], []⟩ 8 (by kernel_rfl) (by kernel_rfl) (by kernel_rfl) (by kernel_rfl)) rfl rfl rfl (by kernel_rfl) ?_
  intro W base args ds ps hval hA0 hz0
  have hA : DataW.TrodAll enc Try.prog W 0 (fun _ => true) true [24, 3] args ds ps := hA0
  have hz : (DataW.weightsEach Try.prog [24, 3] ds).all (· ≤ reachBytes) = true := hz0
  clear hA0 hz0
  obtain ⟨v1, v2, d1, d2, rfl, rfl, ⟨p1, h1⟩, ⟨p2, h2⟩⟩ := args_two hA
  obtain ⟨sl, G, rfl, hx⟩ := graph_arg h1 (fits_at hz (j := 0) rfl rfl) (hval 0 24 v1 rfl rfl)
  obtain ⟨root, rfl, _⟩ := int_arg h2 (hval 1 3 v2 rfl rfl)
  exact ⟨Counts11 W sl G root hx, rfl⟩
theorem reachCounts_facts : joinedFacts Try.prog 5 Try.f5 Rows.reachCountsSpec Rows.reachCountsRow = true :=
  joined_try (by kernel_rfl) (by kernel_rfl) (by kernel_rfl) rfl rfl (by kernel_rfl) (by kernel_rfl) (by kernel_rfl) (by kernel_rfl) (by kernel_rfl) rfl rfl rfl rfl (by kernel_rfl)
theorem reachCounts_over : Rows.reachCountsRow.holds Try.pinned (OpenSpec.ofChange Rows.reachCountsSpec) :=
  OpenClaim.holds_of_wide 5 Try.f5 rfl rfl rfl rfl rfl rfl rfl ⟨rfl, rfl, rfl, rfl, rfl⟩ rfl rfl rfl rfl rfl (by kernel_rfl) Try.func5 reachCounts_facts
    (of_decide_eq_true (by kernel_rfl)) (by unfold Func.isWrapper; first | (rw [if_pos (by decide +kernel)]; kernel_rfl) | (rw [if_neg (by decide +kernel)]; exact ⟨rfl, rfl⟩))
    (fun os started H enc _ => reachCounts_lifted os started H enc)
theorem reachCounts_proved : Rows.ReachCountsSaid := reachCounts_over
#print axioms reachCounts_proved
end Go.Proofs.Ytloeicnadchkpaa
