/- Proved here: the statement LatchUps of backstitchlaw17 (Rows.LatchUpsSaid): for every input that is handed in the law's function returns true, and its arguments read as before. No condition beyond the row's own. -/
import Derived.Test.YtloeicnadchkpaaArgs3
import Derived.Test.YtloeicnadchkpaaLaw17b
namespace Go.Proofs.Ytloeicnadchkpaa
open Go.ChangeShapes Go.WideShapes Go.ChangeAt Go.RowKit Go.Sl

set_option maxRecDepth 100000 in
theorem latchUps_lifted (os : Os) (started : os.Started) (H : Type) (enc : TypeId × Value → H) :
    ReturnsInHanded {} Try.checked os 24 .any (Rows.latchUpsSpec.pre6 enc Try.prog Try.f24 Rows.latchUpsRow.domain false) (Rows.latchUpsSpec.post enc Try.prog Try.f24 false true false false) := by
  refine lift_law started (by kernel_rfl) Try.func24
    (ChangeSpec.witness6 (enc := enc) (C := Try.checked) false ⟨#[], #[.int .u8 0, .slice none 0 0], []⟩ 8 (by kernel_rfl) (by kernel_rfl) (by kernel_rfl) (by kernel_rfl)) rfl rfl rfl (by kernel_rfl) ?_
  intro W base args ds ps hval hA0 hz0
  have hA : DataW.TrodAll enc Try.prog W 0 (fun _ => true) true [5, 59] args ds ps := hA0
  have hz : (DataW.weightsEach Try.prog [5, 59] ds).all (· ≤ reachBytes) = true := hz0
  clear hA0 hz0
  obtain ⟨v1, v2, d1, d2, rfl, rfl, h1, h2⟩ := args_two hA
  obtain ⟨n, rfl, hn⟩ := u8_arg h1 (hval 0 5 v1 rfl rfl)
  obtain ⟨es, hrs, _, hl, he⟩ := slice_arg ty59 ty5 (by decide) (by decide) h2 (fits_at hz (j := 1) rfl rfl) (hval 1 59 v2 rfl rfl)
  obtain ⟨U, rfl, hU⟩ := bytes_arg he
  exact ⟨Ups17 W n v2 U hn (hrs []) hU (by rwa [bytesL_len] at hl), rfl⟩
theorem latchUps_facts : joinedFacts Try.prog 24 Try.f24 Rows.latchUpsSpec Rows.latchUpsRow = true :=
  joined_try (by kernel_rfl) (by kernel_rfl) (by kernel_rfl) rfl rfl (by kernel_rfl) (by kernel_rfl) (by kernel_rfl) (by kernel_rfl) (by kernel_rfl) rfl rfl rfl rfl (by kernel_rfl)
theorem latchUps_over : Rows.latchUpsRow.holds Try.pinned (OpenSpec.ofChange Rows.latchUpsSpec) :=
  OpenClaim.holds_of_wide 24 Try.f24 rfl rfl rfl rfl rfl rfl rfl ⟨rfl, rfl, rfl, rfl, rfl⟩ rfl rfl rfl rfl rfl (by kernel_rfl) Try.func24 latchUps_facts
    (of_decide_eq_true (by kernel_rfl)) (by unfold Func.isWrapper; first | (rw [if_pos (by decide +kernel)]; kernel_rfl) | (rw [if_neg (by decide +kernel)]; exact ⟨rfl, rfl⟩))
    (fun os started H enc _ => latchUps_lifted os started H enc)
theorem latchUps_proved : Rows.LatchUpsSaid := latchUps_over
#print axioms latchUps_proved
end Go.Proofs.Ytloeicnadchkpaa
