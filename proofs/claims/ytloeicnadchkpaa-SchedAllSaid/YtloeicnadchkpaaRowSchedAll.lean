/- Proved here: the statement SchedAll of backstitchlaw15 (Rows.SchedAllSaid): for every input that is handed in the law's function returns true, and its arguments read as before. No condition beyond the row's own. -/
import Derived.Test.YtloeicnadchkpaaArgs3
import Derived.Test.YtloeicnadchkpaaLaw15b
namespace Go.Proofs.Ytloeicnadchkpaa
open Go.ChangeShapes Go.WideShapes Go.ChangeAt Go.RowKit Go.Sl

set_option maxRecDepth 100000 in
theorem schedAll_lifted (os : Os) (started : os.Started) (H : Type) (enc : TypeId × Value → H) :
    ReturnsInHanded {} Try.checked os 9 .any (Rows.schedAllSpec.pre6 enc Try.prog Try.f9 Rows.schedAllRow.domain false) (Rows.schedAllSpec.post enc Try.prog Try.f9 false true false false) := by
  refine lift_law started (by kernel_rfl) Try.func9
    (ChangeSpec.witness6 (enc := enc) (C := Try.checked) false ⟨#[], #[.slice none 0 0, .slice none 0 0], []⟩ 8 (by kernel_rfl) (by kernel_rfl) (by kernel_rfl) (by kernel_rfl)) rfl rfl rfl (by kernel_rfl) ?_
  intro W base args ds ps hval hA0 hz0
  have hA : DataW.TrodAll enc Try.prog W 0 (fun _ => true) true [59, 59] args ds ps := hA0
  have hz : (DataW.weightsEach Try.prog [59, 59] ds).all (· ≤ reachBytes) = true := hz0
  clear hA0 hz0
  obtain ⟨v1, v2, d1, d2, rfl, rfl, h1, h2⟩ := args_two hA
  obtain ⟨es1, hrs1, _, hl1, he1⟩ := slice_arg ty59 ty5 (by decide) (by decide) h1 (fits_at hz (j := 0) rfl rfl) (hval 0 59 v1 rfl rfl)
  obtain ⟨L, rfl, hL⟩ := bytes_arg he1
  obtain ⟨es2, hrs2, ho2, hl2, he2⟩ := slice_arg ty59 ty5 (by decide) (by decide) h2 (fits_at hz (j := 1) rfl rfl) (hval 1 59 v2 rfl rfl)
  obtain ⟨P, rfl, hP⟩ := bytes_arg he2
  exact ⟨AllLaw15 W v1 v2 L P (hrs1 []) hL (hrs2 []) hP (by rwa [bytesL_len] at hl2) ho2, rfl⟩
theorem schedAll_facts : joinedFacts Try.prog 9 Try.f9 Rows.schedAllSpec Rows.schedAllRow = true :=
  joined_try (by kernel_rfl) (by kernel_rfl) (by kernel_rfl) rfl rfl (by kernel_rfl) (by kernel_rfl) (by kernel_rfl) (by kernel_rfl) (by kernel_rfl) rfl rfl rfl rfl (by kernel_rfl)
theorem schedAll_over : Rows.schedAllRow.holds Try.pinned (OpenSpec.ofChange Rows.schedAllSpec) :=
  OpenClaim.holds_of_wide 9 Try.f9 rfl rfl rfl rfl rfl rfl rfl ⟨rfl, rfl, rfl, rfl, rfl⟩ rfl rfl rfl rfl rfl (by kernel_rfl) Try.func9 schedAll_facts
    (of_decide_eq_true (by kernel_rfl)) (by unfold Func.isWrapper; first | (rw [if_pos (by decide +kernel)]; kernel_rfl) | (rw [if_neg (by decide +kernel)]; exact ⟨rfl, rfl⟩))
    (fun os started H enc _ => schedAll_lifted os started H enc)
theorem schedAll_proved : Rows.SchedAllSaid := schedAll_over
#print axioms schedAll_proved
end Go.Proofs.Ytloeicnadchkpaa
