/- Proved here: the statement SchedRuns of backstitchlaw15 (Rows.SchedRunsSaid): for every input that is handed in the law's function returns true, and its arguments read as before. No condition beyond the row's own. -/
import Derived.Test.YtloeicnadchkpaaArgs16
import Derived.Test.YtloeicnadchkpaaLaw15d
namespace Go.Proofs.Ytloeicnadchkpaa
open Go.ChangeShapes Go.WideShapes Go.ChangeAt Go.RowKit Go.Sl

set_option maxRecDepth 100000 in
theorem schedRuns_lifted (os : Os) (started : os.Started) (H : Type) (enc : TypeId × Value → H) :
    ReturnsInHanded {} Try.checked os 13 .any (Rows.schedRunsSpec.pre6 enc Try.prog Try.f13 Rows.schedRunsRow.domain false) (Rows.schedRunsSpec.post enc Try.prog Try.f13 false true false false) := by
  refine lift_law started (by kernel_rfl) Try.func13
    (ChangeSpec.witness6 (enc := enc) (C := Try.checked) false ⟨#[], #[.slice none 0 0, .slice none 0 0, .slice none 0 0], []⟩ 8 (by kernel_rfl) (by kernel_rfl) (by kernel_rfl) (by kernel_rfl)) rfl rfl rfl (by kernel_rfl) ?_
  intro W base args ds ps hval hA0 hz0
  have hA : DataW.TrodAll enc Try.prog W 0 (fun _ => true) true [63, 59, 71] args ds ps := hA0
  have hz : (DataW.weightsEach Try.prog [63, 59, 71] ds).all (· ≤ reachBytes) = true := hz0
  clear hA0 hz0
  obtain ⟨v1, v2, v3, d1, d2, d3, rfl, rfl, h1, h2, h3⟩ := args_three hA
  obtain ⟨es1, hrs1, _, hl1, he1⟩ := slice_arg ty63 ty66 (by decide) (by decide) h1 (fits_at hz (j := 0) rfl rfl) (hval 0 63 v1 rfl rfl)
  obtain ⟨D, rfl, hD⟩ := prgs_arg he1
  obtain ⟨es2, hrs2, ho2, hl2, he2⟩ := slice_arg ty59 ty5 (by decide) (by decide) h2 (fits_at hz (j := 1) rfl rfl) (hval 1 59 v2 rfl rfl)
  obtain ⟨P, rfl, hP⟩ := bytes_arg he2
  obtain ⟨es3, hrs3, _, _, he3⟩ := slice_arg ty71 ty78 (by decide) (by decide) h3 (fits_at hz (j := 2) rfl rfl) (hval 2 71 v3 rfl rfl)
  obtain ⟨C, rfl, hC⟩ := u16s_arg he3
  exact ⟨Runs15 W v1 v2 v3 D P C (hrs1 []) hD (by rwa [pcells_len] at hl1) (hrs2 []) ho2 hP (by rwa [bytesL_len] at hl2) (hrs3 []) hC, rfl⟩
theorem schedRuns_facts : joinedFacts Try.prog 13 Try.f13 Rows.schedRunsSpec Rows.schedRunsRow = true :=
  joined_try (by kernel_rfl) (by kernel_rfl) (by kernel_rfl) rfl rfl (by kernel_rfl) (by kernel_rfl) (by kernel_rfl) (by kernel_rfl) (by kernel_rfl) rfl rfl rfl rfl (by kernel_rfl)
theorem schedRuns_over : Rows.schedRunsRow.holds Try.pinned (OpenSpec.ofChange Rows.schedRunsSpec) :=
  OpenClaim.holds_of_wide 13 Try.f13 rfl rfl rfl rfl rfl rfl rfl ⟨rfl, rfl, rfl, rfl, rfl⟩ rfl rfl rfl rfl rfl (by kernel_rfl) Try.func13 schedRuns_facts
    (of_decide_eq_true (by kernel_rfl)) (by unfold Func.isWrapper; first | (rw [if_pos (by decide +kernel)]; kernel_rfl) | (rw [if_neg (by decide +kernel)]; exact ⟨rfl, rfl⟩))
    (fun os started H enc _ => schedRuns_lifted os started H enc)
theorem schedRuns_proved : Rows.SchedRunsSaid := schedRuns_over
#print axioms schedRuns_proved
end Go.Proofs.Ytloeicnadchkpaa
