/- backstitchlaw16: the statement's own example, LockKnown: the walks. -/
import Derived.Test.YtloeicnadchkpaaLock2
import Derived.Test.YtloeicnadchkpaaStay0
namespace Go.Sl
open Go.Proofs
attribute [local irreducible] SLc SLl SLo SLf Pu Rd

theorem Take_at (W : World) (F : List Chunk) (lb sb : Nat) (qv : Value) {L L' : Lck} {id : Int} {bv : Bool} (h : takeM L id = (bv, L')) (hn : qv = .slice none 0 0 → L.queue = []) (hl : Nat.ble L.queue.length 100000 = true) :
    SLf Try.prog W 41 [ptr lb, .int .i64 id] (lockC lb sb qv L ++ F) (fun r σ => ∃ qv', r = .bool bv ∧ (qv' = .slice none 0 0 → L'.queue = []) ∧ σ = lockC lb sb qv' L' ++ F) := by
  have := Take_ok W F lb sb qv L id hn (Nat.le_of_ble_eq_true hl)
  rw [h] at this
  exact this
theorem Leave_at (W : World) (F : List Chunk) (lb sb : Nat) (qv pv lv : Value) {L L' : Lck} {m m' : Sch} {id : Int} {bv : Bool} (h : leaveM L m id = (bv, L', m')) (hn : qv = .slice none 0 0 → L.queue = []) (hl : Nat.ble L.queue.length 100000 = true) :
    SLf Try.prog W 39 [ptr lb, .int .i64 id] (lockC lb sb qv L ++ (schC sb pv lv m ++ F)) (fun r σ => ∃ qv', r = .bool bv ∧ (qv' = .slice none 0 0 → L'.queue = []) ∧ σ = lockC lb sb qv' L' ++ (schC sb pv lv m' ++ F)) := by
  have := Leave_ok W F lb sb qv pv lv L m id hn (Nat.le_of_ble_eq_true hl)
  rw [h] at this
  exact this
theorem Awake16 (W : World) (F : List Chunk) : SLf Try.prog W 34 [] F (fun v σ => v = .bool true ∧ σ = F) := by
  refine SLf.enter Try.func34 rfl (Nat.le_of_ble_eq_true rfl) ?_
  (repeat' (first | (first | refine SLl.nil ?_ | ((show SLl _ _ _ _ _ (⟨⟨_, _, _, _, _, _⟩, _, _⟩ :: _) _ _ _); refine SLl.ev rfl rfl rfl rfl ?_)) | (first | refine SLc.seq ?_ | refine SLc.region rfl ?_)))
  refine SLl.seq rfl rfl (SLo.call plain35 rfl (SLf.mono (New_ok W F (.slice none 0 0) [] Rs.nil (by simp)) ?_))
  rintro v σ ⟨sb, pv, rfl, rfl⟩
  (repeat' (first | (first | refine SLl.nil ?_ | ((show SLl _ _ _ _ _ (⟨⟨_, _, _, _, _, _⟩, _, _⟩ :: _) _ _ _); refine SLl.ev rfl rfl rfl rfl ?_)) | (first | refine SLc.seq ?_ | refine SLc.region rfl ?_ | refine SLc.block ?_)))
  refine SLc.loop (ι := Nat × Value) (fun s => [(2, .int .i64 s.1), (1, ptr sb)]) (fun s => schC sb pv s.2 (stays 37 s.1) ++ F) (fun s => s.1 ≤ 3) (fun s => 3 - s.1) (0, .slice none 0 0) (Nat.zero_le _) (by (repeat' (first | exact trivial | apply And.intro | rfl))) .refl ?_
  rintro ⟨i, lv⟩ hi
  dsimp only at hi ⊢
  by_cases hlt : i < 3
  · (repeat' (first | (first | refine SLl.nil ?_ | ((show SLl _ _ _ _ _ (⟨⟨_, _, _, _, _, _⟩, _, _⟩ :: _) _ _ _); first | refine SLl.ev rfl rfl rfl rfl ?_ | ((show SLl _ _ _ _ _ (⟨⟨_, .binOp _ _ _ _ _, _, _, _, _⟩, _, _⟩ :: _) _ _ _); ((refine SLl.cmp rfl rfl rfl rfl rfl rfl ?_ ?_ <;> intro hq <;> simp only [cmpP] at hq <;> try ((exfalso; omega))))))) | (first | refine SLc.seq ?_ | refine SLc.region rfl ?_ | refine SLc.condT rfl ?_ | refine SLc.block ?_ | refine SLc.skip ?_)))
    refine SLl.seq rfl rfl (SLo.call plain36 rfl (SLf.mono (Go_ok W F sb pv lv (stays 37 i) (.func 37) #[] #[] (by rw [stays_len]; omega)) ?_))
    rintro v σ ⟨lv', rfl, rfl⟩
    rw [stays_add]
    (repeat' (first | (first | refine SLl.nil ?_ | ((show SLl _ _ _ _ _ (⟨⟨_, _, _, _, _, _⟩, _, _⟩ :: _) _ _ _); first | refine SLl.ev rfl rfl rfl rfl ?_ | ((show SLl _ _ _ _ _ (⟨⟨_, .binOp _ _ _ _ _, _, _, _, _⟩, _, _⟩ :: _) _ _ _); (refine SLl.pu rfl rfl rfl (Pu.add rfl rfl (IntWalk.i64_in _ (by omega))) ?_)))) | (refine SLc.region rfl ?_)))
    exact And.intro rfl (Exists.intro (i + 1, lv') (And.intro (by dsimp only; omega) (And.intro (by dsimp only; omega) (And.intro (by (repeat' (first | exact trivial | apply And.intro | rfl))) .refl))))
  · obtain rfl : i = 3 := by omega
    generalize stays 37 3 = m
    (repeat' (first | (first | refine SLl.nil ?_ | ((show SLl _ _ _ _ _ (⟨⟨_, _, _, _, _, _⟩, _, _⟩ :: _) _ _ _); first | refine SLl.ev rfl rfl rfl rfl ?_ | ((show SLl _ _ _ _ _ (⟨⟨_, .binOp _ _ _ _ _, _, _, _, _⟩, _, _⟩ :: _) _ _ _); ((refine SLl.cmp rfl rfl rfl rfl rfl rfl ?_ ?_ <;> intro hq <;> simp only [cmpP] at hq <;> try ((exfalso; omega))))))) | (first | refine SLc.seq ?_ | refine SLc.region rfl ?_ | refine SLc.condF rfl ?_ | refine SLc.exit ?_)))
    refine SLl.seq rfl rfl (SLo.call plain38 rfl (SLf.mono (LNew_ok W _ sb) ?_))
    rintro v σ ⟨lb, rfl, rfl⟩
    (repeat' (first | (first | refine SLl.nil ?_ | ((show SLl _ _ _ _ _ (⟨⟨_, _, _, _, _, _⟩, _, _⟩ :: _) _ _ _); first | refine SLl.ev rfl rfl rfl rfl ?_ | ((show SLl _ _ _ _ _ (⟨⟨_, .binOp _ _ _ _ _, _, _, _, _⟩, _, _⟩ :: _) _ _ _); (refine SLl.pu rfl rfl rfl (Pu.eqPtrNil rfl rfl) ?_)))) | (first | refine SLc.seq ?_ | refine SLc.region rfl ?_ | refine SLc.condF rfl ?_ | refine SLc.skip ?_)))
    refine SLl.seq rfl rfl (SLo.call plain41 rfl (SLf.mono (Take_at W _ lb sb _ (L' := ⟨true, 1, []⟩) (bv := true) rfl (fun _ => rfl) rfl) ?_))
    rintro v σ ⟨q1, rfl, h1, rfl⟩
    (repeat' ((((show SLl _ _ _ _ _ (⟨⟨_, _, _, _, _, _⟩, _, _⟩ :: _) _ _ _); refine SLl.ev rfl rfl rfl rfl ?_))))
    refine SLl.seq rfl rfl (SLo.call plain41 rfl (SLf.mono (Take_at W _ lb sb _ (L' := ⟨true, 1, [2]⟩) (bv := false) rfl h1 rfl) ?_))
    rintro v σ ⟨q2, rfl, h2, rfl⟩
    (repeat' (first | (first | refine SLl.nil ?_ | ((show SLl _ _ _ _ _ (⟨⟨_, _, _, _, _, _⟩, _, _⟩ :: _) _ _ _); refine SLl.ev rfl rfl rfl rfl ?_)) | (first | refine SLc.seq ?_ | refine SLc.region rfl ?_)))
    refine SLl.seq rfl rfl (SLo.call plain39 rfl (SLf.mono (Leave_at W _ lb sb _ pv lv (L' := ⟨true, 2, []⟩) (m' := (wakeM m 2).2) (bv := true) rfl h2 rfl) ?_))
    rintro v σ ⟨q3, rfl, h3, rfl⟩
    generalize (wakeM m 2).2 = m2
    (repeat' (first | (first | refine SLl.nil ?_ | ((show SLl _ _ _ _ _ (⟨⟨_, _, _, _, _, _⟩, _, _⟩ :: _) _ _ _); refine SLl.ev rfl rfl rfl rfl ?_)) | (first | refine SLc.seq ?_ | refine SLc.region rfl ?_)))
    refine SLl.seq rfl rfl (SLo.call plain40 rfl (SLf.mono (Owner_ok W _ lb sb q3 ⟨true, 2, []⟩) ?_))
    rintro v σ ⟨rfl, rfl⟩
    have ho : ownerM ⟨true, 2, []⟩ = 2 := rfl
    rw [ho]
    (repeat' ((((show SLl _ _ _ _ _ (⟨⟨_, _, _, _, _, _⟩, _, _⟩ :: _) _ _ _); first | refine SLl.ev rfl rfl rfl rfl ?_ | ((show SLl _ _ _ _ _ (⟨⟨_, .binOp _ _ _ _ _, _, _, _, _⟩, _, _⟩ :: _) _ _ _); ((refine SLl.cmp rfl rfl rfl rfl rfl rfl ?_ ?_ <;> intro hq <;> simp only [cmpP] at hq <;> try (exact (hq trivial).elim))))))))
    refine SLl.seq rfl rfl (SLo.call plain42 rfl (SLf.mono (Queue_ok W _ lb sb q3 ⟨true, 2, []⟩ h3 (Nat.zero_le _)) ?_))
    rintro qv σ rfl
    have hi0 : (ints []).length = 0 := rfl
    (repeat' (first | (first | refine SLl.nil ?_ | ((show SLl _ _ _ _ _ (⟨⟨_, _, _, _, _, _⟩, _, _⟩ :: _) _ _ _); first | refine SLl.ev rfl rfl rfl rfl ?_ | ((show SLl _ _ _ _ _ (⟨⟨_, .call ⟨.builtin .len, _, _⟩, _, _, _, _⟩, _, _⟩ :: _) _ _ _); refine SLl.rdSeq rfl rfl (Rd.len rfl (by ((apply Len.row; (· (repeat (apply Sel.here))))))) ?_) | ((show SLl _ _ _ _ _ (⟨⟨_, .binOp _ _ _ _ _, _, _, _, _⟩, _, _⟩ :: _) _ _ _); ((refine SLl.cmp rfl rfl rfl rfl rfl rfl ?_ ?_ <;> intro hq <;> simp only [cmpP] at hq <;> try ((exfalso; omega))))))) | (refine SLc.ret ?_)))
    refine And.intro rfl (Exists.intro _ (Exists.intro F (And.intro rfl (And.intro (.skip (.trans .appR .appR)) (And.intro rfl rfl)))))
end Go.Sl
