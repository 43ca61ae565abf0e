/- Proved here: the statement LatchPlays of backstitchlaw17 (Rows.LatchPlaysSaid): for every input that is handed in the law's function returns true, and its arguments read as before. No condition beyond the row's own. -/
import Derived.Test.YtloeicnadchkpaaArgs3
import Derived.Test.YtloeicnadchkpaaLaw17p
namespace Go.Proofs.Ytloeicnadchkpaa
open Go.ChangeShapes Go.WideShapes Go.ChangeAt Go.RowKit Go.Sl

set_option maxRecDepth 100000 in
theorem latchPlays_lifted (os : Os) (started : os.Started) (H : Type) (enc : TypeId × Value → H) :
    ReturnsInHanded {} Try.checked os 22 .any (Rows.latchPlaysSpec.pre6 enc Try.prog Try.f22 Rows.latchPlaysRow.domain false) (Rows.latchPlaysSpec.post enc Try.prog Try.f22 false true false false) := by
  refine lift_law started (by kernel_rfl) Try.func22
    (ChangeSpec.witness6 (enc := enc) (C := Try.checked) false ⟨#[], #[.int .i64 0, .slice none 0 0], []⟩ 8 (by kernel_rfl) (by kernel_rfl) (by kernel_rfl) (by kernel_rfl)) rfl rfl rfl (by kernel_rfl) ?_
  intro W base args ds ps hval hA0 hz0
  have hA : DataW.TrodAll enc Try.prog W 0 (fun _ => true) true [3, 32] args ds ps := hA0
  have hz : (DataW.weightsEach Try.prog [3, 32] ds).all (· ≤ reachBytes) = true := hz0
  clear hA0 hz0
  obtain ⟨v1, v2, d1, d2, rfl, rfl, ⟨p1, h1⟩, h2⟩ := args_two hA
  obtain ⟨n, rfl, hn0, hn1⟩ := int_arg h1 (hval 0 3 v1 rfl rfl)
  obtain ⟨es, hrs, _, hl, he⟩ := slice_arg ty32 ty3 (by decide) (by decide) h2 (fits_at hz (j := 1) rfl rfl) (hval 1 32 v2 rfl rfl)
  obtain ⟨U, rfl, _⟩ := ints_arg he
  exact ⟨Plays17 W n v2 U hn0 hn1 (hrs []) (by rwa [ints_len] at hl), rfl⟩
theorem latchPlays_facts : joinedFacts Try.prog 22 Try.f22 Rows.latchPlaysSpec Rows.latchPlaysRow = true :=
  joined_try (by kernel_rfl) (by kernel_rfl) (by kernel_rfl) rfl rfl (by kernel_rfl) (by kernel_rfl) (by kernel_rfl) (by kernel_rfl) (by kernel_rfl) rfl rfl rfl rfl (by kernel_rfl)
theorem latchPlays_over : Rows.latchPlaysRow.holds Try.pinned (OpenSpec.ofChange Rows.latchPlaysSpec) :=
  OpenClaim.holds_of_wide 22 Try.f22 rfl rfl rfl rfl rfl rfl rfl ⟨rfl, rfl, rfl, rfl, rfl⟩ rfl rfl rfl rfl rfl (by kernel_rfl) Try.func22 latchPlays_facts
    (of_decide_eq_true (by kernel_rfl)) (by unfold Func.isWrapper; first | (rw [if_pos (by decide +kernel)]; kernel_rfl) | (rw [if_neg (by decide +kernel)]; exact ⟨rfl, rfl⟩))
    (fun os started H enc _ => latchPlays_lifted os started H enc)
theorem latchPlays_proved : Rows.LatchPlaysSaid := latchPlays_over
#print axioms latchPlays_proved
end Go.Proofs.Ytloeicnadchkpaa
