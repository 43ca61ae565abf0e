/- Proved here: the statement SchedLimit of backstitchlaw15 (Rows.SchedLimitSaid): for every input that is handed in the law's function returns true, and its arguments read as before. No condition beyond the row's own. -/
import Derived.Test.YtloeicnadchkpaaArgs3
import Derived.Test.YtloeicnadchkpaaLaw15l
namespace Go.Proofs.Ytloeicnadchkpaa
open Go.ChangeShapes Go.WideShapes Go.ChangeAt Go.RowKit Go.Sl

set_option maxRecDepth 100000 in
theorem schedLimit_lifted (os : Os) (started : os.Started) (H : Type) (enc : TypeId × Value → H) :
    ReturnsInHanded {} Try.checked os 10 .any (Rows.schedLimitSpec.pre6 enc Try.prog Try.f10 Rows.schedLimitRow.domain false) (Rows.schedLimitSpec.post enc Try.prog Try.f10 false true false false) := by
  refine lift_law started (by kernel_rfl) Try.func10
    (ChangeSpec.witness6 (enc := enc) (C := Try.checked) false ⟨#[], #[.int .u8 0], []⟩ 8 (by kernel_rfl) (by kernel_rfl) (by kernel_rfl) (by kernel_rfl)) rfl rfl rfl (by kernel_rfl) ?_
  intro W base args ds ps hval hA0 hz0
  have hA : DataW.TrodAll enc Try.prog W 0 (fun _ => true) true [5] args ds ps := hA0
  have hz : (DataW.weightsEach Try.prog [5] ds).all (· ≤ reachBytes) = true := hz0
  clear hA0 hz0
  obtain ⟨v1, d1, rfl, rfl, h1⟩ := args_one hA
  obtain ⟨n, rfl, hn⟩ := u8_arg h1 (hval 0 5 v1 rfl rfl)
  exact ⟨Limit15 W n hn, rfl⟩
theorem schedLimit_facts : joinedFacts Try.prog 10 Try.f10 Rows.schedLimitSpec Rows.schedLimitRow = true :=
  joined_try (by kernel_rfl) (by kernel_rfl) (by kernel_rfl) rfl rfl (by kernel_rfl) (by kernel_rfl) (by kernel_rfl) (by kernel_rfl) (by kernel_rfl) rfl rfl rfl rfl (by kernel_rfl)
theorem schedLimit_over : Rows.schedLimitRow.holds Try.pinned (OpenSpec.ofChange Rows.schedLimitSpec) :=
  OpenClaim.holds_of_wide 10 Try.f10 rfl rfl rfl rfl rfl rfl rfl ⟨rfl, rfl, rfl, rfl, rfl⟩ rfl rfl rfl rfl rfl (by kernel_rfl) Try.func10 schedLimit_facts
    (of_decide_eq_true (by kernel_rfl)) (by unfold Func.isWrapper; first | (rw [if_pos (by decide +kernel)]; kernel_rfl) | (rw [if_neg (by decide +kernel)]; exact ⟨rfl, rfl⟩))
    (fun os started H enc _ => schedLimit_lifted os started H enc)
theorem schedLimit_proved : Rows.SchedLimitSaid := schedLimit_over
#print axioms schedLimit_proved
end Go.Proofs.Ytloeicnadchkpaa
