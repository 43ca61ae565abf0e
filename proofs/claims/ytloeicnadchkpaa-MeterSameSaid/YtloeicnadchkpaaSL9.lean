/- More rules: bools that differ; chunks behind many others; remainders. -/
import Derived.Test.YtloeicnadchkpaaSL8
namespace Go.Sl
open Go.RowKit
section
variable {P : Program} {W : World} {n : Nat} {e : Tm} {σ σ' F : List Chunk}
variable {dst : Option Tmp} {ty : TypeId} {pos : String} {aft : Array Edge} {g : Option (Nat × Bool)}
theorem Pu.neBool {x y : Operand} {t t' : TypeId} {p q : Bool} {s b : Nat} {z : List Value} [h : Ty P t .bool s b z] (hx : Tm.ev e x = some (.bool p)) (hy : Tm.ev e y = some (.bool q)) :
    Pu P n ⟨dst, .binOp .neq t x y t', ty, pos, aft, g⟩ e (.bool (!(p == q))) :=
  Pu.binop hx hy rfl fun w => by simpa using run_neq_bool w t p q h.u
theorem Sel.right {c : Chunk} (l : List Chunk) (h : Sel c σ F) : Sel c (l ++ σ) (l ++ F) := by
  induction l with
  | nil => exact h
  | cons d l ih => exact .there ih
/-- A remainder of what is not below nought. -/
theorem Pu.remN {x y : Operand} {t t' : TypeId} {k : IntKind} {i j : Nat} (hx : Tm.ev e x = some (.int k i)) (hy : Tm.ev e y = some (.int k j)) (h0 : 0 < j) :
    Pu P n ⟨dst, .binOp .rem t x y t', ty, pos, aft, g⟩ e (.int k ((i % j : Nat) : Int)) :=
  Pu.rem hx hy (by omega) (by rw [Int.tmod_eq_emod_of_nonneg (by omega)]; rfl)
end
theorem ijs (k : Nat) : (k : Int) + 1 = ((k + 1 : Nat) : Int) := rfl
theorem ijm (k : Nat) : (k : Int) + 1 - 1 = ((k : Nat) : Int) := by omega
end Go.Sl
