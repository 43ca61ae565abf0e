/- Proved here: the statement LockPlays of backstitchlaw16 (Rows.LockPlaysSaid): for every input that is handed in the law's function returns true, and its arguments read as before. No condition beyond the row's own. -/
import Derived.Test.YtloeicnadchkpaaArgs3
import Derived.Test.YtloeicnadchkpaaLaw16d
namespace Go.Proofs.Ytloeicnadchkpaa
open Go.ChangeShapes Go.WideShapes Go.ChangeAt Go.RowKit Go.Sl

set_option maxRecDepth 100000 in
theorem lockPlays_lifted (os : Os) (started : os.Started) (H : Type) (enc : TypeId × Value → H) :
    ReturnsInHanded {} Try.checked os 26 .any (Rows.lockPlaysSpec.pre6 enc Try.prog Try.f26 Rows.lockPlaysRow.domain false) (Rows.lockPlaysSpec.post enc Try.prog Try.f26 false true false false) := by
  refine lift_law started (by kernel_rfl) Try.func26
    (ChangeSpec.witness6 (enc := enc) (C := Try.checked) false ⟨#[], #[.slice none 0 0], []⟩ 8 (by kernel_rfl) (by kernel_rfl) (by kernel_rfl) (by kernel_rfl)) rfl rfl rfl (by kernel_rfl) ?_
  intro W base args ds ps hval hA0 hz0
  have hA : DataW.TrodAll enc Try.prog W 0 (fun _ => true) true [32] args ds ps := hA0
  have hz : (DataW.weightsEach Try.prog [32] ds).all (· ≤ reachBytes) = true := hz0
  clear hA0 hz0
  obtain ⟨v1, d1, rfl, rfl, h1⟩ := args_one hA
  obtain ⟨es, hrs, _, hl, he⟩ := slice_arg ty32 ty3 (by decide) (by decide) h1 (fits_at hz (j := 0) rfl rfl) (hval 0 32 v1 rfl rfl)
  obtain ⟨U, rfl, _⟩ := ints_arg he
  exact ⟨Plays16 W v1 U (hrs []) (by rwa [ints_len] at hl), rfl⟩
theorem lockPlays_facts : joinedFacts Try.prog 26 Try.f26 Rows.lockPlaysSpec Rows.lockPlaysRow = true :=
  joined_try (by kernel_rfl) (by kernel_rfl) (by kernel_rfl) rfl rfl (by kernel_rfl) (by kernel_rfl) (by kernel_rfl) (by kernel_rfl) (by kernel_rfl) rfl rfl rfl rfl (by kernel_rfl)
theorem lockPlays_over : Rows.lockPlaysRow.holds Try.pinned (OpenSpec.ofChange Rows.lockPlaysSpec) :=
  OpenClaim.holds_of_wide 26 Try.f26 rfl rfl rfl rfl rfl rfl rfl ⟨rfl, rfl, rfl, rfl, rfl⟩ rfl rfl rfl rfl rfl (by kernel_rfl) Try.func26 lockPlays_facts
    (of_decide_eq_true (by kernel_rfl)) (by unfold Func.isWrapper; first | (rw [if_pos (by decide +kernel)]; kernel_rfl) | (rw [if_neg (by decide +kernel)]; exact ⟨rfl, rfl⟩))
    (fun os started H enc _ => lockPlays_lifted os started H enc)
theorem lockPlays_proved : Rows.LockPlaysSaid := lockPlays_over
#print axioms lockPlays_proved
end Go.Proofs.Ytloeicnadchkpaa
