/- Proved here: the statement SchedBorn of backstitchlaw15 (Rows.SchedBornSaid): for every input that is handed in the law's function returns true, and its arguments read as before. No condition beyond the row's own. -/
import Derived.Test.YtloeicnadchkpaaArgs3
import Derived.Test.YtloeicnadchkpaaLaw15e
namespace Go.Proofs.Ytloeicnadchkpaa
open Go.ChangeShapes Go.WideShapes Go.ChangeAt Go.RowKit Go.Sl

set_option maxRecDepth 100000 in
theorem schedBorn_lifted (os : Os) (started : os.Started) (H : Type) (enc : TypeId × Value → H) :
    ReturnsInHanded {} Try.checked os 11 .any (Rows.schedBornSpec.pre6 enc Try.prog Try.f11 Rows.schedBornRow.domain false) (Rows.schedBornSpec.post enc Try.prog Try.f11 false true false false) := by
  refine lift_law started (by kernel_rfl) Try.func11
    (ChangeSpec.witness6 (enc := enc) (C := Try.checked) false ⟨#[], #[.slice none 0 0, .slice none 0 0], []⟩ 8 (by kernel_rfl) (by kernel_rfl) (by kernel_rfl) (by kernel_rfl)) rfl rfl rfl (by kernel_rfl) ?_
  intro W base args ds ps hval hA0 hz0
  have hA : DataW.TrodAll enc Try.prog W 0 (fun _ => true) true [59, 59] args ds ps := hA0
  have hz : (DataW.weightsEach Try.prog [59, 59] ds).all (· ≤ reachBytes) = true := hz0
  clear hA0 hz0
  obtain ⟨v1, v2, d1, d2, rfl, rfl, h1, h2⟩ := args_two hA
  obtain ⟨es1, hrs1, ho1, hl1, he1⟩ := slice_arg ty59 ty5 (by decide) (by decide) h1 (fits_at hz (j := 0) rfl rfl) (hval 0 59 v1 rfl rfl)
  obtain ⟨L, rfl, hL⟩ := bytes_arg he1
  obtain ⟨es2, hrs2, _, hl2, he2⟩ := slice_arg ty59 ty5 (by decide) (by decide) h2 (fits_at hz (j := 1) rfl rfl) (hval 1 59 v2 rfl rfl)
  obtain ⟨P, rfl, hP⟩ := bytes_arg he2
  exact ⟨Born15 W v1 v2 L P (hrs1 []) hL ho1 (hrs2 []) hP (by rwa [bytesL_len] at hl2), rfl⟩
theorem schedBorn_facts : joinedFacts Try.prog 11 Try.f11 Rows.schedBornSpec Rows.schedBornRow = true :=
  joined_try (by kernel_rfl) (by kernel_rfl) (by kernel_rfl) rfl rfl (by kernel_rfl) (by kernel_rfl) (by kernel_rfl) (by kernel_rfl) (by kernel_rfl) rfl rfl rfl rfl (by kernel_rfl)
theorem schedBorn_over : Rows.schedBornRow.holds Try.pinned (OpenSpec.ofChange Rows.schedBornSpec) :=
  OpenClaim.holds_of_wide 11 Try.f11 rfl rfl rfl rfl rfl rfl rfl ⟨rfl, rfl, rfl, rfl, rfl⟩ rfl rfl rfl rfl rfl (by kernel_rfl) Try.func11 schedBorn_facts
    (of_decide_eq_true (by kernel_rfl)) (by unfold Func.isWrapper; first | (rw [if_pos (by decide +kernel)]; kernel_rfl) | (rw [if_neg (by decide +kernel)]; exact ⟨rfl, rfl⟩))
    (fun os started H enc _ => schedBorn_lifted os started H enc)
theorem schedBorn_proved : Rows.SchedBornSaid := schedBorn_over
#print axioms schedBorn_proved
end Go.Proofs.Ytloeicnadchkpaa
