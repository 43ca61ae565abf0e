/- backstitchlaw16.LockWorks: what a worker does in a step. -/
import Derived.Test.YtloeicnadchkpaaZip
namespace Go.Sl
open Go.Proofs
attribute [local irreducible] SLc SLl SLo SLf Pu Rd

section
variable (W : World) (c1 c2 c3 c4 : Chunk) (F G : List Chunk) (lb sb : Nat) (qv pv lv : Value)
theorem Now_4G (m : Sch) : SLf Try.prog W 55 [ptr sb] (c1 :: c2 :: c3 :: c4 :: (G ++ (schC sb pv lv m ++ F))) (fun r σ => r = .int .i64 m.now ∧ σ = c1 :: c2 :: c3 :: c4 :: (G ++ (schC sb pv lv m ++ F))) := Now_mid W (c1 :: c2 :: c3 :: c4 :: G) F sb pv lv m
theorem Take_in4 (L : Lck) (id : Int) (hn : qv = .slice none 0 0 → L.queue = []) (hl : L.queue.length ≤ 100000) :
    SLf Try.prog W 41 [ptr lb, .int .i64 id] (c1 :: c2 :: c3 :: c4 :: (lockC lb sb qv L ++ F)) (fun r σ => ∃ qv', r = .bool (takeM L id).1 ∧ (qv' = .slice none 0 0 → (takeM L id).2.queue = []) ∧ σ = c1 :: c2 :: c3 :: c4 :: (lockC lb sb qv' (takeM L id).2 ++ F)) := by
  refine SLf.ent .in4 (SLf.to (Take_ok W (c1 :: c2 :: c3 :: c4 :: F) lb sb qv L id hn hl) ?_)
  rintro v σ ⟨q, rfl, h, rfl⟩
  exact ⟨_, .out4, q, rfl, h, rfl⟩
theorem Owner_in4 (L : Lck) : SLf Try.prog W 40 [ptr lb] (c1 :: c2 :: c3 :: c4 :: (lockC lb sb qv L ++ F)) (fun r σ => r = .int .i64 (ownerM L) ∧ σ = c1 :: c2 :: c3 :: c4 :: (lockC lb sb qv L ++ F)) := by
  refine SLf.ent .in4 (SLf.to (Owner_ok W (c1 :: c2 :: c3 :: c4 :: F) lb sb qv L) ?_)
  rintro v σ ⟨rfl, rfl⟩
  exact ⟨_, .out4, rfl, rfl⟩
theorem Leave_in4 (L : Lck) (m : Sch) (id : Int) (hn : qv = .slice none 0 0 → L.queue = []) (hl : L.queue.length ≤ 100000) :
    SLf Try.prog W 39 [ptr lb, .int .i64 id] (c1 :: c2 :: c3 :: c4 :: (lockC lb sb qv L ++ (schC sb pv lv m ++ F))) (fun r σ => ∃ qv', r = .bool (leaveM L m id).1 ∧ (qv' = .slice none 0 0 → (leaveM L m id).2.1.queue = []) ∧ σ = c1 :: c2 :: c3 :: c4 :: (lockC lb sb qv' (leaveM L m id).2.1 ++ (schC sb pv lv (leaveM L m id).2.2 ++ F))) := by
  refine SLf.ent (.trans .in4 (.left _ .in4)) (SLf.to (Leave_ok W (c1 :: c2 :: c3 :: c4 :: F) lb sb qv pv lv L m id hn hl) ?_)
  rintro v σ ⟨q, rfl, h, rfl⟩
  exact ⟨_, .trans (.left _ .out4) .out4, q, rfl, h, rfl⟩
end
def wkC (sb lb ib okb eb b : Nat) (left at_ : Int) : Chunk := .blk b 121 [ptr sb, ptr lb, .int .i64 left, .int .i64 at_, ptr ib, ptr okb, ptr eb]
section
variable (W : World) (F : List Chunk) (sb lb ib okb eb b : Nat) (qv pv lv : Value) (L : Lck) (m : Sch)
theorem Wk_end (ends : Nat) (inn : Int) (he : ends ≤ 1000000) :
    SLf Try.prog W 76 [ptr b] (wkC sb lb ib okb eb b 0 0 :: .blk ib 3 [.int .i64 inn] :: .blk okb 4 [.bool true] :: .blk eb 3 [.int .i64 (ends : Int)] :: (lockC lb sb qv L ++ (schC sb pv lv m ++ F)))
      (fun v σ => v = .int .i64 3 ∧ σ = wkC sb lb ib okb eb b 0 0 :: .blk ib 3 [.int .i64 inn] :: .blk okb 4 [.bool true] :: .blk eb 3 [.int .i64 ((ends + 1 : Nat) : Int)] :: (lockC lb sb qv L ++ (schC sb pv lv m ++ F))) := by
  refine SLf.enter Try.func76 rfl (Nat.le_of_ble_eq_true rfl) ?_
  simp only [wkC]
  (repeat' (first | (first | refine SLl.nil ?_ | ((show SLl _ _ _ _ _ (⟨⟨_, _, _, _, _, _⟩, _, _⟩ :: _) _ _ _); first | refine SLl.ev rfl rfl rfl rfl ?_ | ((show SLl _ _ _ _ _ (⟨⟨_, .load _ _, _, _, _, _⟩, _, _⟩ :: _) _ _ _); (refine SLl.rdSeq rfl rfl (Rd.load rfl rfl (by ((apply Reads.blk; (· (repeat (apply Sel.here))); (· rfl))))) ?_)) | ((show SLl _ _ _ _ _ (⟨⟨_, .fieldAddr _ _ _, _, _, _, _⟩, _, _⟩ :: _) _ _ _); (refine SLl.pu rfl rfl rfl (Pu.fieldAddr rfl) ?_)) | ((show SLl _ _ _ _ _ (⟨⟨_, .binOp _ _ _ _ _, _, _, _, _⟩, _, _⟩ :: _) _ _ _); ((refine SLl.cmp rfl rfl rfl rfl rfl rfl ?_ ?_ <;> intro hq <;> simp only [cmpP] at hq <;> try (exact (hq trivial).elim)))))) | (first | refine SLc.seq ?_ | refine SLc.region rfl ?_ | refine SLc.condT rfl ?_ | refine SLc.block ?_)))
  refine SLc.draws [.blk b 121 [ptr sb, ptr lb, .int .i64 0, .int .i64 0, ptr ib, ptr okb, ptr eb], .blk eb 3 [.int .i64 (ends : Int)]] [(0, .take), (1, .take), (2, .take), (3, .take), (4, .take), (5, .take), (6, .take), (7, .take), (8, .take), (9, .take), (10, .take), (11, .take), (12, .eff false)] mixed (by kernel_rfl) (.cons .here (.cons (.there (.there .here)) .drop)) ?_
  (repeat' ((((show SLl _ _ _ _ _ (⟨⟨_, _, _, _, _, _⟩, _, _⟩ :: _) _ _ _); first | refine SLl.ev rfl rfl rfl rfl ?_ | ((show SLl _ _ _ _ _ (⟨⟨_, .load _ _, _, _, _, _⟩, _, _⟩ :: _) _ _ _); (refine SLl.rdTake rfl rfl (Rd.load rfl rfl (by ((apply Reads.blk; (· (repeat (first | apply Sel.here | apply Sel.there))); (· rfl))))) ?_)) | ((show SLl _ _ _ _ _ (⟨⟨_, .fieldAddr _ _ _, _, _, _, _⟩, _, _⟩ :: _) _ _ _); (refine SLl.pu rfl rfl rfl (Pu.fieldAddr rfl) ?_)) | ((show SLl _ _ _ _ _ (⟨⟨_, .binOp _ _ _ _ _, _, _, _, _⟩, _, _⟩ :: _) _ _ _); (refine SLl.pu rfl rfl rfl (Pu.add rfl rfl (IntWalk.i64_in _ (by omega))) ?_))))))
  refine SLl.eff0 rfl (SLo.store rfl rfl rfl (One.lit rfl) (Wr.blk (.there (.there (.there .here))) (Nat.le_of_ble_eq_true rfl)) ?_)
  refine And.intro (fun h => by cases h) ?_
  (repeat' (first | (first | refine SLl.nil ?_ | ((show SLl _ _ _ _ _ (⟨⟨_, _, _, _, _, _⟩, _, _⟩ :: _) _ _ _); refine SLl.ev rfl rfl rfl rfl ?_)) | (first | refine SLc.seq ?_ | refine SLc.region rfl ?_ | refine SLc.ret ?_)))
  exact And.intro rfl (Exists.intro _ (Exists.intro _ (And.intro rfl (And.intro .refl (And.intro rfl rfl)))))
theorem Wk_take (left : Nat) (c2 c3 c4 : Chunk) (i : Nat) (hnow : m.now = (i : Int)) (hl : 0 < left) (hn : qv = .slice none 0 0 → L.queue = []) (hql : L.queue.length ≤ 100000) :
    SLf Try.prog W 76 [ptr b] (wkC sb lb ib okb eb b left 0 :: c2 :: c3 :: c4 :: (lockC lb sb qv L ++ (schC sb pv lv m ++ F)))
      (fun v σ => ∃ qv', v = .int .i64 (if (takeM L i).1 then 1 else 2) ∧ (qv' = .slice none 0 0 → (takeM L i).2.queue = []) ∧ σ = wkC sb lb ib okb eb b left 1 :: c2 :: c3 :: c4 :: (lockC lb sb qv' (takeM L i).2 ++ (schC sb pv lv m ++ F))) := by
  refine SLf.enter Try.func76 rfl (Nat.le_of_ble_eq_true rfl) ?_
  simp only [wkC]
  (repeat' (first | (first | refine SLl.nil ?_ | ((show SLl _ _ _ _ _ (⟨⟨_, _, _, _, _, _⟩, _, _⟩ :: _) _ _ _); first | refine SLl.ev rfl rfl rfl rfl ?_ | ((show SLl _ _ _ _ _ (⟨⟨_, .load _ _, _, _, _, _⟩, _, _⟩ :: _) _ _ _); (refine SLl.rdSeq rfl rfl (Rd.load rfl rfl (by ((apply Reads.blk; (· (repeat (apply Sel.here))); (· rfl))))) ?_)) | ((show SLl _ _ _ _ _ (⟨⟨_, .fieldAddr _ _ _, _, _, _, _⟩, _, _⟩ :: _) _ _ _); (refine SLl.pu rfl rfl rfl (Pu.fieldAddr rfl) ?_)) | ((show SLl _ _ _ _ _ (⟨⟨_, .binOp _ _ _ _ _, _, _, _, _⟩, _, _⟩ :: _) _ _ _); ((refine SLl.cmp rfl rfl rfl rfl rfl rfl ?_ ?_ <;> intro hq <;> simp only [cmpP] at hq <;> try (first | exact (hq trivial).elim | (exfalso; omega))))) | ((show SLl _ _ _ _ _ (⟨⟨_, .store _ _ _, _, _, _, _⟩, _, _⟩ :: _) _ _ _); ((refine SLl.seq0 rfl (SLo.store rfl rfl rfl (by (exact One.lit rfl)) (by ((apply Wr.blk; (· (repeat (apply Upd.here))); (· exact Nat.le_of_ble_eq_true rfl)))) ?_)))))) | (first | refine SLc.seq ?_ | refine SLc.region rfl ?_ | refine SLc.condT rfl ?_ | refine SLc.condF rfl ?_ | refine SLc.block ?_ | refine SLc.skip ?_)))
  refine SLc.draws [.blk b 121 [ptr sb, ptr lb, .int .i64 (left : Int), .int .i64 1, ptr ib, ptr okb, ptr eb]] [(0, .take), (1, .take), (2, .take), (3, .take), (4, .take), (5, .take), (6, .take), (7, .take), (8, .eff true), (9, .eff true), (10, .take)] mixed (by kernel_rfl) (.cons .here .drop) ?_
  (repeat' ((((show SLl _ _ _ _ _ (⟨⟨_, _, _, _, _, _⟩, _, _⟩ :: _) _ _ _); first | refine SLl.ev rfl rfl rfl rfl ?_ | ((show SLl _ _ _ _ _ (⟨⟨_, .load _ _, _, _, _, _⟩, _, _⟩ :: _) _ _ _); (refine SLl.rdTake rfl rfl (Rd.load rfl rfl (by ((apply Reads.blk; (· (repeat (apply Sel.here))); (· rfl))))) ?_)) | ((show SLl _ _ _ _ _ (⟨⟨_, .fieldAddr _ _ _, _, _, _, _⟩, _, _⟩ :: _) _ _ _); (refine SLl.pu rfl rfl rfl (Pu.fieldAddr rfl) ?_))))))
  refine SLl.eff rfl rfl (SLo.call plain55 rfl (SLf.mono (Now_4G W _ _ _ _ F _ sb pv lv m) ?_))
  rintro v σ ⟨rfl, rfl⟩
  refine And.intro (fun _ => .cons .here .drop) ?_
  rw [hnow]
  refine SLl.eff rfl rfl (SLo.call plain41 rfl (SLf.mono (Take_in4 W _ _ _ _ _ lb sb qv L (i : Int) hn hql) ?_))
  rintro v σ ⟨qv', rfl, hq', rfl⟩
  refine And.intro (fun _ => .cons .here .drop) ?_
  cases (takeM L i).1
  all_goals
    (repeat' (first | (first | refine SLl.nil ?_ | ((show SLl _ _ _ _ _ (⟨⟨_, _, _, _, _, _⟩, _, _⟩ :: _) _ _ _); refine SLl.ev rfl rfl rfl rfl ?_)) | (first | refine SLc.seq ?_ | refine SLc.region rfl ?_ | refine SLc.condT rfl ?_ | refine SLc.condF rfl ?_ | refine SLc.skip ?_ | refine SLc.ret ?_)))
    (repeat' (fail))
    exact And.intro rfl (Exists.intro _ (Exists.intro _ (And.intro rfl (And.intro .refl (Exists.intro qv' (And.intro rfl (And.intro hq' rfl)))))))
set_option maxHeartbeats 1000000 in
theorem Wk_in (left : Int) (c4 : Chunk) (i : Nat) (hnow : m.now = (i : Int)) (ho : ownerM L = (i : Int)) :
    SLf Try.prog W 76 [ptr b] (wkC sb lb ib okb eb b left 1 :: .blk ib 3 [.int .i64 0] :: .blk okb 4 [.bool true] :: c4 :: (lockC lb sb qv L ++ (schC sb pv lv m ++ F)))
      (fun v σ => v = .int .i64 1 ∧ σ = wkC sb lb ib okb eb b left 2 :: .blk ib 3 [.int .i64 1] :: .blk okb 4 [.bool true] :: c4 :: (lockC lb sb qv L ++ (schC sb pv lv m ++ F))) := by
  refine SLf.enter Try.func76 rfl (Nat.le_of_ble_eq_true rfl) ?_
  simp only [wkC]
  (repeat' (first | (first | refine SLl.nil ?_ | ((show SLl _ _ _ _ _ (⟨⟨_, _, _, _, _, _⟩, _, _⟩ :: _) _ _ _); first | refine SLl.ev rfl rfl rfl rfl ?_ | ((show SLl _ _ _ _ _ (⟨⟨_, .load _ _, _, _, _, _⟩, _, _⟩ :: _) _ _ _); (refine SLl.rdSeq rfl rfl (Rd.load rfl rfl (by ((apply Reads.blk; (· (repeat (apply Sel.here))); (· rfl))))) ?_)) | ((show SLl _ _ _ _ _ (⟨⟨_, .fieldAddr _ _ _, _, _, _, _⟩, _, _⟩ :: _) _ _ _); (refine SLl.pu rfl rfl rfl (Pu.fieldAddr rfl) ?_)) | ((show SLl _ _ _ _ _ (⟨⟨_, .binOp _ _ _ _ _, _, _, _, _⟩, _, _⟩ :: _) _ _ _); ((refine SLl.cmp rfl rfl rfl rfl rfl rfl ?_ ?_ <;> intro hq <;> simp only [cmpP] at hq <;> try (first | exact (hq trivial).elim | (exfalso; omega))))))) | (first | refine SLc.seq ?_ | refine SLc.region rfl ?_ | refine SLc.condT rfl ?_ | refine SLc.condF rfl ?_ | refine SLc.block ?_)))
  refine SLc.draws [.blk b 121 [ptr sb, ptr lb, .int .i64 left, .int .i64 1, ptr ib, ptr okb, ptr eb], .blk ib 3 [.int .i64 0]] [(0, .take), (1, .take), (2, .take), (3, .take), (4, .take), (5, .take), (6, .take), (7, .take), (8, .take), (9, .take), (10, .take), (11, .take), (12, .eff false)] mixed (by kernel_rfl) (.cons .here (.cons .here .drop)) ?_
  (repeat' ((((show SLl _ _ _ _ _ (⟨⟨_, _, _, _, _, _⟩, _, _⟩ :: _) _ _ _); first | refine SLl.ev rfl rfl rfl rfl ?_ | ((show SLl _ _ _ _ _ (⟨⟨_, .load _ _, _, _, _, _⟩, _, _⟩ :: _) _ _ _); (refine SLl.rdTake rfl rfl (Rd.load rfl rfl (by ((apply Reads.blk; (· (repeat (first | apply Sel.here | apply Sel.there))); (· rfl))))) ?_)) | ((show SLl _ _ _ _ _ (⟨⟨_, .fieldAddr _ _ _, _, _, _, _⟩, _, _⟩ :: _) _ _ _); (refine SLl.pu rfl rfl rfl (Pu.fieldAddr rfl) ?_)) | ((show SLl _ _ _ _ _ (⟨⟨_, .binOp _ _ _ _ _, _, _, _, _⟩, _, _⟩ :: _) _ _ _); (refine SLl.pu rfl rfl rfl (Pu.add rfl rfl (IntWalk.i64_in _ (by omega))) ?_))))))
  refine SLl.eff0 rfl (SLo.store rfl rfl rfl (One.lit rfl) (Wr.blk (.there .here) (Nat.le_of_ble_eq_true rfl)) ?_)
  refine And.intro (fun h => by cases h) ?_
  (repeat' (first | (refine SLl.nil ?_) | (refine SLc.seq ?_)))
  refine SLc.draws [.blk b 121 [ptr sb, ptr lb, .int .i64 left, .int .i64 1, ptr ib, ptr okb, ptr eb], .blk ib 3 [.int .i64 1], .blk okb 4 [.bool true]] [(0, .take), (1, .take), (2, .take), (3, .take), (4, .take), (5, .take), (6, .take), (7, .take), (8, .take), (9, .take), (10, .take), (11, .take), (12, .take), (13, .take), (14, .take), (15, .take), (16, .take), (17, .take), (18, .take), (19, .take), (20, .take), (21, .take), (22, .take), (23, .take), (25, .take), (26, .take), (27, .take), (28, .take), (24, .eff true), (29, .eff true), (30, .take), (31, .take), (32, .take), (33, .eff false)] mixed (by kernel_rfl) (.cons .here (.cons .here (.cons .here .drop))) ?_
  (repeat' ((((show SLl _ _ _ _ _ (⟨⟨_, _, _, _, _, _⟩, _, _⟩ :: _) _ _ _); first | refine SLl.ev rfl rfl rfl rfl ?_ | ((show SLl _ _ _ _ _ (⟨⟨_, .load _ _, _, _, _, _⟩, _, _⟩ :: _) _ _ _); (refine SLl.rdTake rfl rfl (Rd.load rfl rfl (by ((apply Reads.blk; (· (repeat (first | apply Sel.here | apply Sel.there))); (· rfl))))) ?_)) | ((show SLl _ _ _ _ _ (⟨⟨_, .fieldAddr _ _ _, _, _, _, _⟩, _, _⟩ :: _) _ _ _); (refine SLl.pu rfl rfl rfl (Pu.fieldAddr rfl) ?_)) | ((show SLl _ _ _ _ _ (⟨⟨_, .binOp _ _ _ _ _, _, _, _, _⟩, _, _⟩ :: _) _ _ _); ((refine SLl.cmp rfl rfl rfl rfl rfl rfl ?_ ?_ <;> intro hq <;> simp only [cmpP] at hq <;> try (exact (hq trivial).elim))))))))
  refine SLl.eff rfl rfl (SLo.call plain40 rfl (SLf.mono (Owner_in4 W _ _ _ _ _ lb sb qv L) ?_))
  rintro v σ ⟨rfl, rfl⟩
  refine And.intro (fun _ => .cons .here (.cons .here (.cons .here .drop))) ?_
  rw [ho]
  refine SLl.eff rfl rfl (SLo.call plain55 rfl (SLf.mono (Now_4G W _ _ _ _ F _ sb pv lv m) ?_))
  rintro v σ ⟨rfl, rfl⟩
  refine And.intro (fun _ => .cons .here (.cons .here (.cons .here .drop))) ?_
  rw [hnow]
  (repeat' ((((show SLl _ _ _ _ _ (⟨⟨_, _, _, _, _, _⟩, _, _⟩ :: _) _ _ _); first | refine SLl.ev rfl rfl rfl rfl ?_ | ((show SLl _ _ _ _ _ (⟨⟨_, .binOp _ _ _ _ _, _, _, _, _⟩, _, _⟩ :: _) _ _ _); ((refine SLl.cmp rfl rfl rfl rfl rfl rfl ?_ ?_ <;> intro hq <;> simp only [cmpP] at hq <;> try (exact (hq trivial).elim))))))))
  refine SLl.eff0 rfl (SLo.store rfl rfl rfl (One.lit rfl) (Wr.blk (.there (.there .here)) (Nat.le_of_ble_eq_true rfl)) ?_)
  refine And.intro (fun h => by cases h) ?_
  (repeat' (first | (first | refine SLl.nil ?_ | ((show SLl _ _ _ _ _ (⟨⟨_, _, _, _, _, _⟩, _, _⟩ :: _) _ _ _); first | refine SLl.ev rfl rfl rfl rfl ?_ | ((show SLl _ _ _ _ _ (⟨⟨_, .fieldAddr _ _ _, _, _, _, _⟩, _, _⟩ :: _) _ _ _); (refine SLl.pu rfl rfl rfl (Pu.fieldAddr rfl) ?_)) | ((show SLl _ _ _ _ _ (⟨⟨_, .store _ _ _, _, _, _, _⟩, _, _⟩ :: _) _ _ _); ((refine SLl.seq0 rfl (SLo.store rfl rfl rfl (by (exact One.lit rfl)) (by ((apply Wr.blk; (· (repeat (apply Upd.here))); (· exact Nat.le_of_ble_eq_true rfl)))) ?_)))))) | (first | refine SLc.seq ?_ | refine SLc.region rfl ?_ | refine SLc.ret ?_)))
  exact And.intro rfl (Exists.intro _ (Exists.intro _ (And.intro rfl (And.intro .refl (And.intro rfl rfl)))))
set_option maxHeartbeats 1000000 in
theorem Wk_out (left : Nat) (c4 : Chunk) (i : Nat) (hnow : m.now = (i : Int)) (hl : left ≤ 1000000) (ho : (leaveM L m (i : Int)).1 = true) (hn : qv = .slice none 0 0 → L.queue = []) (hql : L.queue.length ≤ 100000) :
    SLf Try.prog W 76 [ptr b] (wkC sb lb ib okb eb b ((left + 1 : Nat) : Int) 2 :: .blk ib 3 [.int .i64 1] :: .blk okb 4 [.bool true] :: c4 :: (lockC lb sb qv L ++ (schC sb pv lv m ++ F)))
      (fun v σ => ∃ qv', v = .int .i64 1 ∧ (qv' = .slice none 0 0 → (leaveM L m (i : Int)).2.1.queue = []) ∧ σ = wkC sb lb ib okb eb b (left : Int) 0 :: .blk ib 3 [.int .i64 0] :: .blk okb 4 [.bool true] :: c4 :: (lockC lb sb qv' (leaveM L m (i : Int)).2.1 ++ (schC sb pv lv (leaveM L m (i : Int)).2.2 ++ F))) := by
  refine SLf.enter Try.func76 rfl (Nat.le_of_ble_eq_true rfl) ?_
  simp only [wkC]
  (repeat' (first | (first | refine SLl.nil ?_ | ((show SLl _ _ _ _ _ (⟨⟨_, _, _, _, _, _⟩, _, _⟩ :: _) _ _ _); first | refine SLl.ev rfl rfl rfl rfl ?_ | ((show SLl _ _ _ _ _ (⟨⟨_, .load _ _, _, _, _, _⟩, _, _⟩ :: _) _ _ _); (refine SLl.rdSeq rfl rfl (Rd.load rfl rfl (by ((apply Reads.blk; (· (repeat (apply Sel.here))); (· rfl))))) ?_)) | ((show SLl _ _ _ _ _ (⟨⟨_, .fieldAddr _ _ _, _, _, _, _⟩, _, _⟩ :: _) _ _ _); (refine SLl.pu rfl rfl rfl (Pu.fieldAddr rfl) ?_)) | ((show SLl _ _ _ _ _ (⟨⟨_, .binOp _ _ _ _ _, _, _, _, _⟩, _, _⟩ :: _) _ _ _); ((refine SLl.cmp rfl rfl rfl rfl rfl rfl ?_ ?_ <;> intro hq <;> simp only [cmpP] at hq <;> try ((exfalso; omega))))))) | (first | refine SLc.seq ?_ | refine SLc.region rfl ?_ | refine SLc.condF rfl ?_ | refine SLc.block ?_)))
  refine SLc.draws [.blk b 121 [ptr sb, ptr lb, .int .i64 ((left + 1 : Nat) : Int), .int .i64 2, ptr ib, ptr okb, ptr eb], .blk ib 3 [.int .i64 1], .blk okb 4 [.bool true]] [(0, .take), (1, .take), (2, .take), (3, .take), (4, .take), (5, .take), (6, .take), (7, .take), (8, .take), (9, .take), (10, .take), (11, .take), (12, .take), (13, .take), (14, .take), (15, .take), (16, .take), (17, .take), (18, .take), (19, .take), (20, .take), (21, .take), (22, .take), (23, .take), (24, .take), (25, .take), (26, .take), (27, .take), (28, .eff true), (29, .eff true), (30, .take), (31, .take), (32, .eff false)] mixed (by kernel_rfl) (.cons .here (.cons .here (.cons .here .drop))) ?_
  (repeat' ((((show SLl _ _ _ _ _ (⟨⟨_, _, _, _, _, _⟩, _, _⟩ :: _) _ _ _); first | refine SLl.ev rfl rfl rfl rfl ?_ | ((show SLl _ _ _ _ _ (⟨⟨_, .load _ _, _, _, _, _⟩, _, _⟩ :: _) _ _ _); (refine SLl.rdTake rfl rfl (Rd.load rfl rfl (by ((apply Reads.blk; (· (repeat (first | apply Sel.here | apply Sel.there))); (· rfl))))) ?_)) | ((show SLl _ _ _ _ _ (⟨⟨_, .fieldAddr _ _ _, _, _, _, _⟩, _, _⟩ :: _) _ _ _); (refine SLl.pu rfl rfl rfl (Pu.fieldAddr rfl) ?_)) | ((show SLl _ _ _ _ _ (⟨⟨_, .binOp _ _ _ _ _, _, _, _, _⟩, _, _⟩ :: _) _ _ _); ((refine SLl.cmp rfl rfl rfl rfl rfl rfl ?_ ?_ <;> intro hq <;> simp only [cmpP] at hq <;> try (exact (hq trivial).elim))))))))
  refine SLl.eff rfl rfl (SLo.call plain55 rfl (SLf.mono (Now_4G W _ _ _ _ F _ sb pv lv m) ?_))
  rintro v σ ⟨rfl, rfl⟩
  refine And.intro (fun _ => .cons .here (.cons .here (.cons .here .drop))) ?_
  rw [hnow]
  refine SLl.eff rfl rfl (SLo.call plain39 rfl (SLf.mono (Leave_in4 W _ _ _ _ F lb sb qv pv lv L m (i : Int) hn hql) ?_))
  rintro v σ ⟨qv', rfl, hq', rfl⟩
  refine And.intro (fun _ => .cons .here (.cons .here (.cons .here .drop))) ?_
  rw [ho]
  (repeat' ((((show SLl _ _ _ _ _ (⟨⟨_, _, _, _, _, _⟩, _, _⟩ :: _) _ _ _); refine SLl.ev rfl rfl rfl rfl ?_))))
  refine SLl.eff0 rfl (SLo.store rfl rfl rfl (One.lit rfl) (Wr.blk (.there (.there .here)) (Nat.le_of_ble_eq_true rfl)) ?_)
  refine And.intro (fun h => by cases h) ?_
  (repeat' (first | (refine SLl.nil ?_) | (refine SLc.seq ?_)))
  refine SLc.draws [.blk b 121 [ptr sb, ptr lb, .int .i64 ((left + 1 : Nat) : Int), .int .i64 2, ptr ib, ptr okb, ptr eb], .blk ib 3 [.int .i64 1]] [(0, .take), (1, .take), (2, .take), (3, .take), (4, .take), (5, .take), (6, .take), (7, .take), (8, .take), (9, .take), (10, .take), (11, .take), (12, .eff false)] mixed (by kernel_rfl) (.cons .here (.cons .here .drop)) ?_
  (repeat' ((((show SLl _ _ _ _ _ (⟨⟨_, _, _, _, _, _⟩, _, _⟩ :: _) _ _ _); first | refine SLl.ev rfl rfl rfl rfl ?_ | ((show SLl _ _ _ _ _ (⟨⟨_, .load _ _, _, _, _, _⟩, _, _⟩ :: _) _ _ _); (refine SLl.rdTake rfl rfl (Rd.load rfl rfl (by ((apply Reads.blk; (· (repeat (first | apply Sel.here | apply Sel.there))); (· rfl))))) ?_)) | ((show SLl _ _ _ _ _ (⟨⟨_, .fieldAddr _ _ _, _, _, _, _⟩, _, _⟩ :: _) _ _ _); (refine SLl.pu rfl rfl rfl (Pu.fieldAddr rfl) ?_)) | ((show SLl _ _ _ _ _ (⟨⟨_, .binOp _ _ _ _ _, _, _, _, _⟩, _, _⟩ :: _) _ _ _); (refine SLl.pu rfl rfl rfl (Pu.sub rfl rfl (IntWalk.i64_in _ (by omega))) ?_))))))
  refine SLl.eff0 rfl (SLo.store rfl rfl rfl (One.lit rfl) (Wr.blk (.there .here) (Nat.le_of_ble_eq_true rfl)) ?_)
  refine And.intro (fun h => by cases h) ?_
  (repeat' (first | (first | refine SLl.nil ?_ | ((show SLl _ _ _ _ _ (⟨⟨_, _, _, _, _, _⟩, _, _⟩ :: _) _ _ _); first | refine SLl.ev rfl rfl rfl rfl ?_ | ((show SLl _ _ _ _ _ (⟨⟨_, .load _ _, _, _, _, _⟩, _, _⟩ :: _) _ _ _); (refine SLl.rdSeq rfl rfl (Rd.load rfl rfl (by ((apply Reads.blk; (· (repeat (apply Sel.here))); (· rfl))))) ?_)) | ((show SLl _ _ _ _ _ (⟨⟨_, .fieldAddr _ _ _, _, _, _, _⟩, _, _⟩ :: _) _ _ _); (refine SLl.pu rfl rfl rfl (Pu.fieldAddr rfl) ?_)) | ((show SLl _ _ _ _ _ (⟨⟨_, .binOp _ _ _ _ _, _, _, _, _⟩, _, _⟩ :: _) _ _ _); (refine SLl.pu rfl rfl rfl (Pu.sub rfl rfl (IntWalk.i64_in _ (by omega))) ?_)) | ((show SLl _ _ _ _ _ (⟨⟨_, .store _ _ _, _, _, _, _⟩, _, _⟩ :: _) _ _ _); ((refine SLl.seq0 rfl (SLo.store rfl rfl rfl (by (exact One.lit rfl)) (by ((apply Wr.blk; (· (repeat (apply Upd.here))); (· exact Nat.le_of_ble_eq_true rfl)))) ?_)))))) | (first | refine SLc.seq ?_ | refine SLc.region rfl ?_ | refine SLc.ret ?_)))
  refine And.intro rfl (Exists.intro _ (Exists.intro _ (And.intro rfl (And.intro ?_ (Exists.intro qv' (And.intro rfl (And.intro hq' rfl)))))))
  have e : ((left + 1 : Nat) : Int) - 1 = left := by omega
  dsimp only [List.set_cons_zero, List.set_cons_succ]
  rw [e]
  exact .refl
end
end Go.Sl
