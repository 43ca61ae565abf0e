/- backstitchlaw17: the statement's own example: the walk. -/
import Derived.Test.YtloeicnadchkpaaLatch
namespace Go.Sl
open Go.Proofs
attribute [local irreducible] SLc SLl SLo SLf Pu Rd

theorem Ent.swap {a b F : List Chunk} : Ent (a ++ (b ++ F)) (b ++ (a ++ F)) := .perm (List.perm_append_comm_assoc _ _ _)
theorem Stay17 (W : World) (F : List Chunk) : SLf Try.prog W 74 [] F (fun v σ => v = .int .i64 2 ∧ σ = F) := by
  refine SLf.enter Try.func74 rfl (Nat.le_of_ble_eq_true rfl) ?_
  (repeat' (first | (first | refine SLl.nil ?_ | ((show SLl _ _ _ _ _ (⟨⟨_, _, _, _, _, _⟩, _, _⟩ :: _) _ _ _); refine SLl.ev rfl rfl rfl rfl ?_)) | (first | refine SLc.seq ?_ | refine SLc.region rfl ?_ | refine SLc.ret ?_)))
  exact And.intro rfl (Exists.intro _ (Exists.intro _ (And.intro rfl (And.intro .refl (And.intro rfl rfl)))))
theorem Await_at (W : World) (F : List Chunk) (lb sb : Nat) (qv : Value) {L L' : Lat} {id : Int} {bv : Bool} (h : awaitM L id = (bv, L')) (hl : Nat.ble L.queue.length 100000 = true) :
    SLf Try.prog W 70 [ptr lb, .int .i64 id] (latC lb sb qv L ++ F) (fun r σ => ∃ qv', r = .bool bv ∧ σ = latC lb sb qv' L' ++ F) := by
  have := Await_ok W F lb sb qv L id (Nat.le_of_ble_eq_true hl)
  rw [h] at this
  exact this
theorem Down_at (W : World) (F : List Chunk) (lb sb : Nat) (qv pv lv : Value) {L L' : Lat} {m m' : Sch} {r : Int} (h : downM L m = (r, L', m')) (h0 : 0 ≤ L.left) (h1 : L.left ≤ 9223372036854775807) (hl : Nat.ble L.queue.length 100000 = true) :
    SLf Try.prog W 72 [ptr lb] (latC lb sb qv L ++ (schC sb pv lv m ++ F)) (fun v σ => ∃ qv', v = .int .i64 r ∧ σ = latC lb sb qv' L' ++ (schC sb pv lv m' ++ F)) := by
  have := Down_ok W F lb sb qv pv lv L m h0 h1 (Nat.le_of_ble_eq_true hl)
  rw [h] at this
  exact this
theorem Up_at (W : World) (F : List Chunk) (lb sb : Nat) (qv : Value) {L L' : Lat} {n : Int} {bv : Bool} (h : upOk L n = bv) (h' : (if bv then { L with left := L.left + n } else L) = L') (h0 : 0 ≤ L.left) (h1 : L.left ≤ 4611686018427387904) :
    SLf Try.prog W 75 [ptr lb, .int .i64 n] (latC lb sb qv L ++ F) (fun r σ => r = .bool bv ∧ σ = latC lb sb qv L' ++ F) := by
  have := Up_ok W F lb sb qv L n h0 h1
  rw [h, h'] at this
  exact this
theorem Awake17 (W : World) (F : List Chunk) : SLf Try.prog W 67 [] F (fun v σ => v = .bool true ∧ σ = F) := by
  refine SLf.enter Try.func67 rfl (Nat.le_of_ble_eq_true rfl) ?_
  (repeat' (first | (first | refine SLl.nil ?_ | ((show SLl _ _ _ _ _ (⟨⟨_, _, _, _, _, _⟩, _, _⟩ :: _) _ _ _); refine SLl.ev rfl rfl rfl rfl ?_)) | (first | refine SLc.seq ?_ | refine SLc.region rfl ?_)))
  refine SLl.seq rfl rfl (SLo.call plain35 rfl (SLf.mono (New_ok W F (.slice none 0 0) [] Rs.nil (by simp)) ?_))
  rintro v σ ⟨sb, pv, rfl, rfl⟩
  refine SLl.seq rfl rfl (SLo.call plain68 rfl (SLf.mono (LaNew_ok W _ sb 2) ?_))
  rintro v σ ⟨lb, rfl, rfl⟩
  (repeat' (first | (first | refine SLl.nil ?_ | ((show SLl _ _ _ _ _ (⟨⟨_, _, _, _, _, _⟩, _, _⟩ :: _) _ _ _); first | refine SLl.ev rfl rfl rfl rfl ?_ | ((show SLl _ _ _ _ _ (⟨⟨_, .binOp _ _ _ _ _, _, _, _, _⟩, _, _⟩ :: _) _ _ _); (refine SLl.pu rfl rfl rfl (Pu.eqPtrNil rfl rfl) ?_)))) | (first | refine SLc.seq ?_ | refine SLc.region rfl ?_ | refine SLc.condF rfl ?_ | refine SLc.skip ?_)))
  refine SLl.seq rfl rfl (SLo.call plain72 rfl (SLf.mono (Down_at W F lb sb _ pv (.slice none 0 0) (m := ⟨[], [], 0, -1, false⟩) (r := 1) (L := ⟨2, []⟩) (L' := ⟨1, []⟩) (m' := ⟨[], [], 0, -1, false⟩) rfl (by decide) (by decide) rfl) ?_))
  rintro v σ ⟨q1, rfl, rfl⟩
  (repeat' ((((show SLl _ _ _ _ _ (⟨⟨_, _, _, _, _, _⟩, _, _⟩ :: _) _ _ _); refine SLl.ev rfl rfl rfl rfl ?_))))
  refine SLl.seq rfl rfl (SLo.call plain72 rfl (SLf.mono (Down_at W F lb sb q1 pv (.slice none 0 0) (m := ⟨[], [], 0, -1, false⟩) (r := 0) (L' := ⟨0, []⟩) (m' := ⟨[], [], 0, -1, false⟩) rfl (by decide) (by decide) rfl) ?_))
  rintro v σ ⟨q2, rfl, rfl⟩
  (repeat' ((((show SLl _ _ _ _ _ (⟨⟨_, _, _, _, _, _⟩, _, _⟩ :: _) _ _ _); refine SLl.ev rfl rfl rfl rfl ?_))))
  refine SLl.seq rfl rfl (SLo.call plain72 rfl (SLf.mono (Down_at W F lb sb q2 pv (.slice none 0 0) (m := ⟨[], [], 0, -1, false⟩) (r := 0) (L' := ⟨0, []⟩) (m' := ⟨[], [], 0, -1, false⟩) rfl (by decide) (by decide) rfl) ?_))
  rintro v σ ⟨q3, rfl, rfl⟩
  (repeat' (first | (first | refine SLl.nil ?_ | ((show SLl _ _ _ _ _ (⟨⟨_, _, _, _, _, _⟩, _, _⟩ :: _) _ _ _); first | refine SLl.ev rfl rfl rfl rfl ?_ | ((show SLl _ _ _ _ _ (⟨⟨_, .binOp _ _ _ _ _, _, _, _, _⟩, _, _⟩ :: _) _ _ _); ((refine SLl.cmp rfl rfl rfl rfl rfl rfl ?_ ?_ <;> intro hq <;> simp only [cmpP] at hq <;> try (exact (hq trivial).elim)))))) | (first | refine SLc.seq ?_ | refine SLc.region rfl ?_)))
  refine SLl.seq rfl rfl (SLo.call plain70 rfl (SLf.mono (Await_at W _ lb sb q3 (bv := true) (L' := ⟨0, []⟩) rfl rfl) ?_))
  rintro v σ ⟨q4, rfl, rfl⟩
  (repeat' ((((show SLl _ _ _ _ _ (⟨⟨_, _, _, _, _, _⟩, _, _⟩ :: _) _ _ _); refine SLl.ev rfl rfl rfl rfl ?_))))
  refine SLl.seq rfl rfl (SLo.call plain75 rfl (SLf.mono (Up_at W _ lb sb q4 (bv := false) (L' := ⟨0, []⟩) rfl rfl (by decide) (by decide)) ?_))
  rintro v σ ⟨rfl, rfl⟩
  (repeat' (first | (first | refine SLl.nil ?_ | ((show SLl _ _ _ _ _ (⟨⟨_, _, _, _, _, _⟩, _, _⟩ :: _) _ _ _); refine SLl.ev rfl rfl rfl rfl ?_)) | (refine SLc.ret ?_)))
  exact And.intro rfl (Exists.intro _ (Exists.intro F (And.intro rfl (And.intro (.trans .appR .appR) (And.intro rfl rfl)))))
end Go.Sl
