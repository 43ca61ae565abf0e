/- backstitchlaw11: equality of uses, the statement's own example. -/
import Derived.Test.YtloeicnadchkpaaSL7
import Derived.Test.YtloeicnadchkpaaTy24
import Derived.Laws.StructEq
namespace Go.Sl
open Go.Proofs Go.RowKit

section
variable {W : World} {n : Nat} {e : Tm} {σ : List Chunk}
theorem eqg39 : Try.prog.eqGuardType Try.prog.depth 39 = false := by kernel_rfl
theorem held39 : Try.prog.stoodInHeld 39 = false := by kernel_rfl
theorem fields39 : Try.prog.underlying 39 = some (.struct (Try.prog.fieldsOf 39)) := by kernel_rfl
theorem list39 : (Try.prog.fieldsOf 39).toList = [{ name := "Node", type := 3, offset := 0, embedded := false, tag := "", pkgPath := "", byteOffset := 0 }, { name := "Slot", type := 3, offset := 1, embedded := false, tag := "", pkgPath := "", byteOffset := 8 }] := by kernel_rfl
theorem run_equalIn_int {d : Nat} {i j : Int} (w : World) : (Op.equalIn (d + 1) 3 (.int .i64 i) (.int .i64 j)).run Try.prog w = .ok (i == j) w := by
  simp [Op.equalIn, ty3.underlying]
theorem run_part_int {vs : Array Value} {k : Nat} {v : Value} (h : vs[k]? = some v) (w : World) : (part 3 vs k).run Try.prog w = .ok v w := by
  simp [part, run_isAgg, isAggD, h]
theorem run_use_eq (a b c d : Int) (w : World) : (Op.equalIn 10000 39 (.agg #[.int .i64 a, .int .i64 b]) (.agg #[.int .i64 c, .int .i64 d])).run Try.prog w = .ok (decide (a = c ∧ b = d)) w := by
  rw [run_equalIn_struct w 9999 39 _ _ fields39 held39, list39]
  simp only [Op.eqFields]
  rw [if_pos (by decide), if_pos (by decide)]
  have hq : ∀ (i j : Int) (w : World), (Op.equalIn 9999 3 (.int .i64 i) (.int .i64 j)).run Try.prog w = .ok (i == j) w := fun i j w => run_equalIn_int (d := 9998) w
  simp only [Sem.run_bind, run_part_int (vs := #[.int .i64 a, .int .i64 b]) (k := 0) rfl, run_part_int (vs := #[.int .i64 c, .int .i64 d]) (k := 0) rfl, run_part_int (vs := #[.int .i64 a, .int .i64 b]) (k := 1) rfl, run_part_int (vs := #[.int .i64 c, .int .i64 d]) (k := 1) rfl, Result.andThen_ok, Sem.run_ite]
  refine (congrArg (fun r : Result Bool => r.andThen _) (hq a c w)).trans ?_
  simp only [Result.andThen_ok]
  by_cases h1 : a = c
  · rw [if_neg (by simp [h1])]
    refine (congrArg (fun r : Result Bool => r.andThen _) (hq b d w)).trans ?_
    simp only [Result.andThen_ok]
    by_cases h2 : b = d <;> simp [h1, h2]
  · rw [if_pos (by simp [h1])]
    simp [h1]
theorem Pu.useEq {dst : Option Tmp} {ty : TypeId} {pos : String} {aft : Array Edge} {g : Option (Nat × Bool)} {x y : Operand} {t' : TypeId} {a b c d : Int} (hx : Tm.ev e x = some (.agg #[.int .i64 a, .int .i64 b])) (hy : Tm.ev e y = some (.agg #[.int .i64 c, .int .i64 d])) :
    Pu Try.prog n ⟨dst, .binOp .eql 39 x y t', ty, pos, aft, g⟩ e (.bool (decide (a = c ∧ b = d))) := by
  intro ds ac hac w
  simp only [execOp, hac.ev hx, hac.ev hy, Sem.run_bind, run_eqGuard_agg w _ _ _ _ _ _ eqg39, run_eql_struct, run_use_eq, Result.andThen_ok, Sem.run_pure]
theorem Pu.useNe {dst : Option Tmp} {ty : TypeId} {pos : String} {aft : Array Edge} {g : Option (Nat × Bool)} {x y : Operand} {t' : TypeId} {a b c d : Int} (hx : Tm.ev e x = some (.agg #[.int .i64 a, .int .i64 b])) (hy : Tm.ev e y = some (.agg #[.int .i64 c, .int .i64 d])) :
    Pu Try.prog n ⟨dst, .binOp .neq 39 x y t', ty, pos, aft, g⟩ e (.bool (!decide (a = c ∧ b = d))) := by
  intro ds ac hac w
  simp only [execOp, hac.ev hx, hac.ev hy, Sem.run_bind, run_eqGuard_agg w _ _ _ _ _ _ eqg39, run_neq_struct, run_use_eq, Result.andThen_ok, Sem.run_pure]
theorem Pu.useEqT {dst : Option Tmp} {ty : TypeId} {pos : String} {aft : Array Edge} {g : Option (Nat × Bool)} {x y : Operand} {t' : TypeId} {a b : Int} (hx : Tm.ev e x = some (.agg #[.int .i64 a, .int .i64 b])) (hy : Tm.ev e y = some (.agg #[.int .i64 a, .int .i64 b])) :
    Pu Try.prog n ⟨dst, .binOp .eql 39 x y t', ty, pos, aft, g⟩ e (.bool true) := by
  have h := Pu.useEq (n := n) (dst := dst) (ty := ty) (pos := pos) (aft := aft) (g := g) (t' := t') hx hy
  simpa using h
theorem Pu.useNeF {dst : Option Tmp} {ty : TypeId} {pos : String} {aft : Array Edge} {g : Option (Nat × Bool)} {x y : Operand} {t' : TypeId} {a b : Int} (hx : Tm.ev e x = some (.agg #[.int .i64 a, .int .i64 b])) (hy : Tm.ev e y = some (.agg #[.int .i64 a, .int .i64 b])) :
    Pu Try.prog n ⟨dst, .binOp .neq 39 x y t', ty, pos, aft, g⟩ e (.bool false) := by
  have h := Pu.useNe (n := n) (dst := dst) (ty := ty) (pos := pos) (aft := aft) (g := g) (t' := t') hx hy
  simpa using h
end
end Go.Sl
