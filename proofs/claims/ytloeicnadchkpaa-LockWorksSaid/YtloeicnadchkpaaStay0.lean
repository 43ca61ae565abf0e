/- Chunks in another order; tasks that wait for ever. -/
import Derived.Test.YtloeicnadchkpaaSched
namespace Go.Sl
open Go.Proofs
theorem Ent.left (l : List Chunk) {F F' : List Chunk} (h : Ent F F') : Ent (l ++ F) (l ++ F') := by
  induction l with
  | nil => exact h
  | cons c l ih => exact .cons .here ih
theorem Ent.into {c : Chunk} {l F : List Chunk} : Ent (c :: (l ++ F)) (l ++ (c :: F)) := .perm List.perm_middle.symm
/-- Tasks that wait for ever. -/
def stayT (k : Nat) : Task := ⟨.func (.func k) #[] #[], false, false, false⟩
def stays (k n : Nat) : Sch := ⟨[], List.replicate n (stayT k), 0, -1, false⟩
theorem stays_add {k n : Nat} : addTask (stays k n) ⟨.func (.func k) #[] #[], false, false, false⟩ = stays k (n + 1) := by
  simp [addTask, stays, List.replicate_succ', stayT]
theorem stays_len {k n : Nat} : (stays k n).tasks.length = n := by simp [stays]
end Go.Sl
