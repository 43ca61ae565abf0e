/- Proved here: the statement LockWorks of backstitchlaw16 (Rows.LockWorksSaid): for every input that is handed in the law's function returns true, and its arguments read as before. No condition beyond the row's own. -/
import Derived.Test.YtloeicnadchkpaaArgs3
import Derived.Test.YtloeicnadchkpaaLaw16x
namespace Go.Proofs.Ytloeicnadchkpaa
open Go.ChangeShapes Go.WideShapes Go.ChangeAt Go.RowKit Go.Sl

set_option maxRecDepth 100000 in
theorem lockWorks_lifted (os : Os) (started : os.Started) (H : Type) (enc : TypeId × Value → H) :
    ReturnsInHanded {} Try.checked os 25 .any (Rows.lockWorksSpec.pre6 enc Try.prog Try.f25 Rows.lockWorksRow.domain false) (Rows.lockWorksSpec.post enc Try.prog Try.f25 false true false false) := by
  refine lift_law started (by kernel_rfl) Try.func25
    (ChangeSpec.witness6 (enc := enc) (C := Try.checked) false ⟨#[], #[.int .u8 0, .int .u8 0, .slice none 0 0], []⟩ 8 (by kernel_rfl) (by kernel_rfl) (by kernel_rfl) (by kernel_rfl)) rfl rfl rfl (by kernel_rfl) ?_
  intro W base args ds ps hval hA0 hz0
  have hA : DataW.TrodAll enc Try.prog W 0 (fun _ => true) true [5, 5, 59] args ds ps := hA0
  have hz : (DataW.weightsEach Try.prog [5, 5, 59] ds).all (· ≤ reachBytes) = true := hz0
  clear hA0 hz0
  obtain ⟨v1, v2, v3, d1, d2, d3, rfl, rfl, h1, h2, h3⟩ := args_three hA
  obtain ⟨n, rfl, hn⟩ := u8_arg h1 (hval 0 5 v1 rfl rfl)
  obtain ⟨t, rfl, ht⟩ := u8_arg h2 (hval 1 5 v2 rfl rfl)
  obtain ⟨es3, hrs3, _, hl3, he3⟩ := slice_arg ty59 ty5 (by decide) (by decide) h3 (fits_at hz (j := 2) rfl rfl) (hval 2 59 v3 rfl rfl)
  obtain ⟨P, rfl, hP⟩ := bytes_arg he3
  exact ⟨Works16 W n t v3 P hn ht (hrs3 []) hP (by rwa [bytesL_len] at hl3), rfl⟩
theorem lockWorks_facts : joinedFacts Try.prog 25 Try.f25 Rows.lockWorksSpec Rows.lockWorksRow = true :=
  joined_try (by kernel_rfl) (by kernel_rfl) (by kernel_rfl) rfl rfl (by kernel_rfl) (by kernel_rfl) (by kernel_rfl) (by kernel_rfl) (by kernel_rfl) rfl rfl rfl rfl (by kernel_rfl)
theorem lockWorks_over : Rows.lockWorksRow.holds Try.pinned (OpenSpec.ofChange Rows.lockWorksSpec) :=
  OpenClaim.holds_of_wide 25 Try.f25 rfl rfl rfl rfl rfl rfl rfl ⟨rfl, rfl, rfl, rfl, rfl⟩ rfl rfl rfl rfl rfl (by kernel_rfl) Try.func25 lockWorks_facts
    (of_decide_eq_true (by kernel_rfl)) (by unfold Func.isWrapper; first | (rw [if_pos (by decide +kernel)]; kernel_rfl) | (rw [if_neg (by decide +kernel)]; exact ⟨rfl, rfl⟩))
    (fun os started H enc _ => lockWorks_lifted os started H enc)
theorem lockWorks_proved : Rows.LockWorksSaid := lockWorks_over
#print axioms lockWorks_proved
end Go.Proofs.Ytloeicnadchkpaa
