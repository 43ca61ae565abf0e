/- Proved here: the statement ReachChains of backstitchlaw11 (Rows.ReachChainsSaid): for every number, every slice of bools and every root that are handed in the law's function returns true, and its arguments read as before. No condition beyond the row's own. -/
import Derived.Test.YtloeicnadchkpaaArgs3
import Derived.Test.YtloeicnadchkpaaLaw11f
namespace Go.Proofs.Ytloeicnadchkpaa
open Go.ChangeShapes Go.WideShapes Go.ChangeAt Go.RowKit Go.Sl

set_option maxRecDepth 100000 in
theorem reachChains_lifted (os : Os) (started : os.Started) (H : Type) (enc : TypeId × Value → H) :
    ReturnsInHanded {} Try.checked os 7 .any (Rows.reachChainsSpec.pre6 enc Try.prog Try.f7 Rows.reachChainsRow.domain false) (Rows.reachChainsSpec.post enc Try.prog Try.f7 false true false false) := by
  refine lift_law started (by kernel_rfl) Try.func7
    (ChangeSpec.witness6 (enc := enc) (C := Try.checked) false ⟨#[], #[.int .u8 0, .slice none 0 0, .int .u8 0], []⟩ 8 (by kernel_rfl) (by kernel_rfl) (by kernel_rfl) (by kernel_rfl)) rfl rfl rfl (by kernel_rfl) ?_
  intro W base args ds ps hval hA0 hz0
  have hA : DataW.TrodAll enc Try.prog W 0 (fun _ => true) true [5, 28, 5] args ds ps := hA0
  have hz : (DataW.weightsEach Try.prog [5, 28, 5] ds).all (· ≤ reachBytes) = true := hz0
  clear hA0 hz0
  obtain ⟨v1, v2, v3, d1, d2, d3, rfl, rfl, h1, h2, h3⟩ := args_three hA
  obtain ⟨n, rfl, hn⟩ := u8_arg h1 (hval 0 5 v1 rfl rfl)
  obtain ⟨es, hrs, _, hl, he⟩ := slice_arg ty28 ty4 (by decide) (by decide) h2 (fits_at hz (j := 1) rfl rfl) (hval 1 28 v2 rfl rfl)
  obtain ⟨T, rfl⟩ := bools_arg he
  obtain ⟨r, rfl, hr⟩ := u8_arg h3 (hval 2 5 v3 rfl rfl)
  exact ⟨Chains11 W n r v2 T hn hr (hrs []) (by rwa [bools_len] at hl), rfl⟩
theorem reachChains_facts : joinedFacts Try.prog 7 Try.f7 Rows.reachChainsSpec Rows.reachChainsRow = true :=
  joined_try (by kernel_rfl) (by kernel_rfl) (by kernel_rfl) rfl rfl (by kernel_rfl) (by kernel_rfl) (by kernel_rfl) (by kernel_rfl) (by kernel_rfl) rfl rfl rfl rfl (by kernel_rfl)
theorem reachChains_over : Rows.reachChainsRow.holds Try.pinned (OpenSpec.ofChange Rows.reachChainsSpec) :=
  OpenClaim.holds_of_wide 7 Try.f7 rfl rfl rfl rfl rfl rfl rfl ⟨rfl, rfl, rfl, rfl, rfl⟩ rfl rfl rfl rfl rfl (by kernel_rfl) Try.func7 reachChains_facts
    (of_decide_eq_true (by kernel_rfl)) (by unfold Func.isWrapper; first | (rw [if_pos (by decide +kernel)]; kernel_rfl) | (rw [if_neg (by decide +kernel)]; exact ⟨rfl, rfl⟩))
    (fun os started H enc _ => reachChains_lifted os started H enc)
theorem reachChains_proved : Rows.ReachChainsSaid := reachChains_over
#print axioms reachChains_proved
end Go.Proofs.Ytloeicnadchkpaa
