/- The contracts of sched where the scheduler's memory stands behind other chunks. -/
import Derived.Test.YtloeicnadchkpaaLock3
namespace Go.Sl
open Go.Proofs
attribute [local irreducible] SLc SLl SLo SLf Pu Rd
theorem Ent.in3 {a b c : Chunk} {l F : List Chunk} : Ent (a :: b :: c :: (l ++ F)) (l ++ (a :: b :: c :: F)) := .swp (a := [a, b, c])
theorem Ent.out3 {a b c : Chunk} {l F : List Chunk} : Ent (l ++ (a :: b :: c :: F)) (a :: b :: c :: (l ++ F)) := .swp (b := [a, b, c])
theorem Ent.in4 {a b c d : Chunk} {l F : List Chunk} : Ent (a :: b :: c :: d :: (l ++ F)) (l ++ (a :: b :: c :: d :: F)) := .swp (a := [a, b, c, d])
theorem Ent.out4 {a b c d : Chunk} {l F : List Chunk} : Ent (l ++ (a :: b :: c :: d :: F)) (a :: b :: c :: d :: (l ++ F)) := .swp (b := [a, b, c, d])
theorem Ent.in5 {a b c d e : Chunk} {l F : List Chunk} : Ent (a :: b :: c :: d :: e :: (l ++ F)) (l ++ (a :: b :: c :: d :: e :: F)) := .swp (a := [a, b, c, d, e])
theorem Ent.out5 {a b c d e : Chunk} {l F : List Chunk} : Ent (l ++ (a :: b :: c :: d :: e :: F)) (a :: b :: c :: d :: e :: (l ++ F)) := .swp (b := [a, b, c, d, e])
section
variable (W : World) (G F : List Chunk) (b : Nat) (pv lv : Value) (m : Sch)
theorem Wake_mid (id : Int) : SLf Try.prog W 57 [ptr b, .int .i64 id] (G ++ (schC b pv lv m ++ F)) (fun r σ => r = .bool (wakeM m id).1 ∧ σ = G ++ (schC b pv lv (wakeM m id).2 ++ F)) := by
  refine SLf.ent .swp (SLf.to (Wake_ok W (G ++ F) b pv lv m id) ?_)
  rintro v σ ⟨rfl, rfl⟩
  exact ⟨_, .swp, rfl, rfl⟩
theorem Now_mid : SLf Try.prog W 55 [ptr b] (G ++ (schC b pv lv m ++ F)) (fun r σ => r = .int .i64 m.now ∧ σ = G ++ (schC b pv lv m ++ F)) := by
  refine SLf.ent .swp (SLf.to (Now_ok W (G ++ F) b pv lv m) ?_)
  rintro v σ ⟨rfl, rfl⟩
  exact ⟨_, .swp, rfl, rfl⟩
theorem Open_mid (hm : SchOk m) : SLf Try.prog W 46 [ptr b] (G ++ (schC b pv lv m ++ F)) (fun r σ => r = .int .i64 (openN m : Int) ∧ σ = G ++ (schC b pv lv m ++ F)) := by
  refine SLf.ent .swp (SLf.to (Open_ok W (G ++ F) b pv lv m hm) ?_)
  rintro v σ ⟨rfl, rfl⟩
  exact ⟨_, .swp, rfl, rfl⟩
theorem Waiting_mid (hm : SchOk m) : SLf Try.prog W 56 [ptr b] (G ++ (schC b pv lv m ++ F)) (fun r σ => σ = .row r 3 1 (natL (waitN m)) :: (G ++ (schC b pv lv m ++ F))) := by
  refine SLf.ent .swp (SLf.to (Waiting_ok W (G ++ F) b pv lv m hm) ?_)
  rintro v σ rfl
  exact ⟨_, .cons .here .swp, rfl⟩
theorem Go_mid (fn : Fn) (a1 a2 : Array Value) (hn : m.tasks.length < 128) : SLf Try.prog W 36 [ptr b, .func fn a1 a2] (G ++ (schC b pv lv m ++ F)) (fun r σ => ∃ lv', r = .tuple #[.int .i64 (m.tasks.length : Int), .int .i64 0] ∧ σ = G ++ (schC b pv lv' (addTask m ⟨.func fn a1 a2, false, false, false⟩) ++ F)) := by
  refine SLf.ent .swp (SLf.to (Go_ok W (G ++ F) b pv lv m fn a1 a2 hn) ?_)
  rintro v σ ⟨lv', rfl, rfl⟩
  exact ⟨_, .swp, lv', rfl, rfl⟩
theorem Go_fullM (fn : Fn) (a1 a2 : Array Value) (hn : 128 ≤ m.tasks.length) : SLf Try.prog W 36 [ptr b, .func fn a1 a2] (G ++ (schC b pv lv m ++ F)) (fun r σ => r = .tuple #[.int .i64 0, .int .i64 13] ∧ σ = G ++ (schC b pv lv m ++ F)) := by
  refine SLf.ent .swp (SLf.to (Go_full W (G ++ F) b pv lv m fn a1 a2 hn) ?_)
  rintro v σ ⟨rfl, rfl⟩
  exact ⟨_, .swp, rfl, rfl⟩
end
end Go.Sl
