/- Proved here: the statement LockTurns of backstitchlaw16 (Rows.LockTurnsSaid): for every input that is handed in the law's function returns true, and its arguments read as before. No condition beyond the row's own. -/
import Derived.Test.YtloeicnadchkpaaArgs3
import Derived.Test.YtloeicnadchkpaaLaw16c
namespace Go.Proofs.Ytloeicnadchkpaa
open Go.ChangeShapes Go.WideShapes Go.ChangeAt Go.RowKit Go.Sl

set_option maxRecDepth 100000 in
theorem lockTurns_lifted (os : Os) (started : os.Started) (H : Type) (enc : TypeId × Value → H) :
    ReturnsInHanded {} Try.checked os 21 .any (Rows.lockTurnsSpec.pre6 enc Try.prog Try.f21 Rows.lockTurnsRow.domain false) (Rows.lockTurnsSpec.post enc Try.prog Try.f21 false true false false) := by
  refine lift_law started (by kernel_rfl) Try.func21
    (ChangeSpec.witness6 (enc := enc) (C := Try.checked) false ⟨#[], #[.slice none 0 0], []⟩ 8 (by kernel_rfl) (by kernel_rfl) (by kernel_rfl) (by kernel_rfl)) rfl rfl rfl (by kernel_rfl) ?_
  intro W base args ds ps hval hA0 hz0
  have hA : DataW.TrodAll enc Try.prog W 0 (fun _ => true) true [59] args ds ps := hA0
  have hz : (DataW.weightsEach Try.prog [59] ds).all (· ≤ reachBytes) = true := hz0
  clear hA0 hz0
  obtain ⟨v1, d1, rfl, rfl, h1⟩ := args_one hA
  obtain ⟨es, hrs, _, hl, he⟩ := slice_arg ty59 ty5 (by decide) (by decide) h1 (fits_at hz (j := 0) rfl rfl) (hval 0 59 v1 rfl rfl)
  obtain ⟨U, rfl, hU⟩ := bytes_arg he
  exact ⟨Turns16 W v1 U (hrs []) hU (by rwa [bytesL_len] at hl), rfl⟩
theorem lockTurns_facts : joinedFacts Try.prog 21 Try.f21 Rows.lockTurnsSpec Rows.lockTurnsRow = true :=
  joined_try (by kernel_rfl) (by kernel_rfl) (by kernel_rfl) rfl rfl (by kernel_rfl) (by kernel_rfl) (by kernel_rfl) (by kernel_rfl) (by kernel_rfl) rfl rfl rfl rfl (by kernel_rfl)
theorem lockTurns_over : Rows.lockTurnsRow.holds Try.pinned (OpenSpec.ofChange Rows.lockTurnsSpec) :=
  OpenClaim.holds_of_wide 21 Try.f21 rfl rfl rfl rfl rfl rfl rfl ⟨rfl, rfl, rfl, rfl, rfl⟩ rfl rfl rfl rfl rfl (by kernel_rfl) Try.func21 lockTurns_facts
    (of_decide_eq_true (by kernel_rfl)) (by unfold Func.isWrapper; first | (rw [if_pos (by decide +kernel)]; kernel_rfl) | (rw [if_neg (by decide +kernel)]; exact ⟨rfl, rfl⟩))
    (fun os started H enc _ => lockTurns_lifted os started H enc)
theorem lockTurns_proved : Rows.LockTurnsSaid := lockTurns_over
#print axioms lockTurns_proved
end Go.Proofs.Ytloeicnadchkpaa
