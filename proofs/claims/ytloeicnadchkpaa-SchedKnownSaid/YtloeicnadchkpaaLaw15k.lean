/- backstitchlaw15.SchedKnown: the walk. -/
import Derived.Test.YtloeicnadchkpaaTask15c
namespace Go.Sl
open Go.Proofs
attribute [local irreducible] SLc SLl SLo SLf Pu Rd

section
variable (W : World) (c1 c2 c3 : Chunk) (F : List Chunk) (b : Nat) (pv lv : Value) (m : Sch)
theorem Go_in2 (fn : Fn) (a1 a2 : Array Value) (hn : m.tasks.length < 128) : SLf Try.prog W 36 [ptr b, .func fn a1 a2] (c1 :: c2 :: (schC b pv lv m ++ F)) (fun r σ => ∃ lv', r = .tuple #[.int .i64 (m.tasks.length : Int), .int .i64 0] ∧ σ = c1 :: c2 :: (schC b pv lv' (addTask m ⟨.func fn a1 a2, false, false, false⟩) ++ F)) := Go_mid W [c1, c2] F b pv lv m fn a1 a2 hn
theorem Wake_in2 (id : Int) : SLf Try.prog W 57 [ptr b, .int .i64 id] (c1 :: c2 :: (schC b pv lv m ++ F)) (fun r σ => r = .bool (wakeM m id).1 ∧ σ = c1 :: c2 :: (schC b pv lv (wakeM m id).2 ++ F)) := Wake_mid W [c1, c2] F b pv lv m id
theorem Wake_in3 (id : Int) : SLf Try.prog W 57 [ptr b, .int .i64 id] (c1 :: c2 :: c3 :: (schC b pv lv m ++ F)) (fun r σ => r = .bool (wakeM m id).1 ∧ σ = c1 :: c2 :: c3 :: (schC b pv lv (wakeM m id).2 ++ F)) := Wake_mid W [c1, c2, c3] F b pv lv m id
theorem Waiting_in2b (hm : SchOk m) : SLf Try.prog W 56 [ptr b] (c1 :: c2 :: (schC b pv lv m ++ F)) (fun r σ => σ = .row r 3 1 (natL (waitN m)) :: c1 :: c2 :: (schC b pv lv m ++ F)) := Waiting_mid W [c1, c2] F b pv lv m hm
theorem Open_in3 (hm : SchOk m) : SLf Try.prog W 46 [ptr b] (c1 :: c2 :: c3 :: (schC b pv lv m ++ F)) (fun r σ => r = .int .i64 (openN m : Int) ∧ σ = c1 :: c2 :: c3 :: (schC b pv lv m ++ F)) := Open_mid W [c1, c2, c3] F b pv lv m hm
theorem Run_arg3 (most : Int) (h : m.runs = true ∨ most < 0 ∨ 1048576 < most) :
    SLf Try.prog W 45 [ptr b, .int .i64 most] (c1 :: c2 :: c3 :: (schC b pv lv m ++ F)) (fun r σ => r = .tuple #[.int .i64 0, .int .i64 1] ∧ σ = c1 :: c2 :: c3 :: (schC b pv lv m ++ F)) := by
  refine SLf.ent .in3 (SLf.to (Run_arg W (c1 :: c2 :: c3 :: F) b pv lv m most h) ?_)
  rintro v σ ⟨rfl, rfl⟩
  exact ⟨_, .out3, rfl, rfl⟩
end
theorem Kn1_ok (W : World) (F : List Chunk) (nb xb sb : Nat) (pv lv : Value) (m : Sch) (n : Nat) (hn : n ≤ 1000000) :
    SLf Try.prog W 59 [ptr nb, ptr xb] (.blk nb 3 [.int .i64 (n : Int)] :: .blk xb 49 [ptr sb] :: (schC sb pv lv m ++ F)) (fun v σ => v = .int .i64 (if n + 1 < 3 then 2 else 3) ∧ σ = .blk nb 3 [.int .i64 ((n + 1 : Nat) : Int)] :: .blk xb 49 [ptr sb] :: (schC sb pv lv (wakeM m 0).2 ++ F)) := by
  refine SLf.enter Try.func59 rfl (Nat.le_of_ble_eq_true rfl) ?_
  (repeat' (first | (first | refine SLl.nil ?_ | ((show SLl _ _ _ _ _ (⟨⟨_, _, _, _, _, _⟩, _, _⟩ :: _) _ _ _); first | refine SLl.ev rfl rfl rfl rfl ?_ | ((show SLl _ _ _ _ _ (⟨⟨_, .load _ _, _, _, _, _⟩, _, _⟩ :: _) _ _ _); (refine SLl.rdSeq rfl rfl (Rd.load rfl rfl (by ((apply Reads.blk; (· (repeat (first | apply Sel.here | apply Sel.there))); (· rfl))))) ?_)) | ((show SLl _ _ _ _ _ (⟨⟨_, .binOp _ _ _ _ _, _, _, _, _⟩, _, _⟩ :: _) _ _ _); (refine SLl.pu rfl rfl rfl (Pu.add rfl rfl (IntWalk.i64_in _ (by omega))) ?_)) | ((show SLl _ _ _ _ _ (⟨⟨_, .store _ _ _, _, _, _, _⟩, _, _⟩ :: _) _ _ _); ((refine SLl.seq0 rfl (SLo.store rfl rfl rfl (by (exact One.lit rfl)) (by ((apply Wr.blk; (· (repeat (apply Upd.here))); (· exact Nat.le_of_ble_eq_true rfl)))) ?_)))))) | (first | refine SLc.seq ?_ | refine SLc.region rfl ?_)))
  refine SLl.seq rfl rfl (SLo.call plain57 rfl (SLf.mono (Wake_in2 W _ _ _ sb pv lv m 0) ?_))
  rintro v σ ⟨rfl, rfl⟩
  by_cases h3 : n + 1 < 3
  · rw [if_pos h3]
    (repeat' (first | (first | refine SLl.nil ?_ | ((show SLl _ _ _ _ _ (⟨⟨_, _, _, _, _, _⟩, _, _⟩ :: _) _ _ _); first | refine SLl.ev rfl rfl rfl rfl ?_ | ((show SLl _ _ _ _ _ (⟨⟨_, .load _ _, _, _, _, _⟩, _, _⟩ :: _) _ _ _); (refine SLl.rdSeq rfl rfl (Rd.load rfl rfl (by ((apply Reads.blk; (· (repeat (apply Sel.here))); (· rfl))))) ?_)) | ((show SLl _ _ _ _ _ (⟨⟨_, .binOp _ _ _ _ _, _, _, _, _⟩, _, _⟩ :: _) _ _ _); ((refine SLl.cmp rfl rfl rfl rfl rfl rfl ?_ ?_ <;> intro hq <;> simp only [cmpP] at hq <;> try ((exfalso; omega))))))) | (first | refine SLc.seq ?_ | refine SLc.region rfl ?_ | refine SLc.condT rfl ?_ | refine SLc.ret ?_)))
    exact And.intro rfl (Exists.intro _ (Exists.intro _ (And.intro rfl (And.intro .refl (And.intro rfl rfl)))))
  · rw [if_neg h3]
    (repeat' (first | (first | refine SLl.nil ?_ | ((show SLl _ _ _ _ _ (⟨⟨_, _, _, _, _, _⟩, _, _⟩ :: _) _ _ _); first | refine SLl.ev rfl rfl rfl rfl ?_ | ((show SLl _ _ _ _ _ (⟨⟨_, .load _ _, _, _, _, _⟩, _, _⟩ :: _) _ _ _); (refine SLl.rdSeq rfl rfl (Rd.load rfl rfl (by ((apply Reads.blk; (· (repeat (apply Sel.here))); (· rfl))))) ?_)) | ((show SLl _ _ _ _ _ (⟨⟨_, .binOp _ _ _ _ _, _, _, _, _⟩, _, _⟩ :: _) _ _ _); ((refine SLl.cmp rfl rfl rfl rfl rfl rfl ?_ ?_ <;> intro hq <;> simp only [cmpP] at hq <;> try ((exfalso; omega))))))) | (first | refine SLc.seq ?_ | refine SLc.region rfl ?_ | refine SLc.condF rfl ?_ | refine SLc.skip ?_ | refine SLc.ret ?_)))
    exact And.intro rfl (Exists.intro _ (Exists.intro _ (And.intro rfl (And.intro .refl (And.intro rfl rfl)))))
theorem Kn2_ok (W : World) (F : List Chunk) : SLf Try.prog W 60 [] F (fun v σ => v = .int .i64 2 ∧ σ = F) := by
  refine SLf.enter Try.func60 rfl (Nat.le_of_ble_eq_true rfl) ?_
  (repeat' (first | (first | refine SLl.nil ?_ | ((show SLl _ _ _ _ _ (⟨⟨_, _, _, _, _, _⟩, _, _⟩ :: _) _ _ _); refine SLl.ev rfl rfl rfl rfl ?_)) | (first | refine SLc.seq ?_ | refine SLc.region rfl ?_ | refine SLc.ret ?_)))
  exact And.intro rfl (Exists.intro _ (Exists.intro _ (And.intro rfl (And.intro .refl (And.intro rfl rfl)))))
def k1V (nb xb : Nat) : Value := .func (.func 59) #[] #[ptr nb, ptr xb]
def k2V : Value := .func (.func 60) #[] #[]
def kn1 (nb xb : Nat) : Nat → Sch
  | 3 => ⟨[], [⟨k1V nb xb, false, true, true⟩], 3, -1, true⟩
  | a => ⟨[], [⟨k1V nb xb, false, false, false⟩], a, -1, true⟩
def kn1I (nb xb : Nat) (m : Sch) (a : Nat) : Prop := a ≤ 3 ∧ m = kn1 nb xb a
def kn1S (m : Sch) (a : Nat) (i : Nat) (said : Int) (m' : Sch) (a' : Nat) : Prop := said = (if a + 1 < 3 then 2 else 3) ∧ m' = (wakeM (setNow m i) 0).2 ∧ a' = a + 1
theorem kn1_picked {nb xb a i : Nat} (ha : a ≤ 3) (hp : picked (kn1 nb xb a) i) : i = 0 ∧ a < 3 := by
  match a, ha with
  | 0, _ => have h : some 0 = some i := hp; exact ⟨by simpa using h.symm, by omega⟩
  | 1, _ => have h : some 0 = some i := hp; exact ⟨by simpa using h.symm, by omega⟩
  | 2, _ => have h : some 0 = some i := hp; exact ⟨by simpa using h.symm, by omega⟩
  | 3, _ => have h : none = some i := hp; cases h
theorem kn1_step {nb xb a : Nat} (ha : a < 3) : afterStep (wakeM (setNow (kn1 nb xb a) 0) 0).2 0 (if a + 1 < 3 then 2 else 3) = kn1 nb xb (a + 1) := by
  match a, ha with
  | 0, _ => rfl
  | 1, _ => rfl
  | 2, _ => rfl
theorem kn1_ok {nb xb a : Nat} (ha : a ≤ 3) : SchOk (kn1 nb xb a) ∧ (∀ n ∈ (kn1 nb xb a).picks, n < 256) := by
  match a, ha with
  | 0, _ | 1, _ | 2, _ | 3, _ => exact ⟨⟨fun t ht => by simp only [kn1, List.mem_singleton] at ht; subst ht; rfl, Nat.le_of_ble_eq_true rfl⟩, fun n hn => by simp [kn1] at hn⟩
theorem kn1_client {nb xb : Nat} : Client (kn1I nb xb) kn1S := by
  refine ⟨?_, ?_⟩
  · rintro m a ⟨ha, rfl⟩
    exact kn1_ok ha
  · rintro m a i said m' a' ⟨ha, rfl⟩ hp ⟨rfl, rfl, rfl⟩
    obtain ⟨rfl, h3⟩ := kn1_picked ha hp
    refine ⟨?_, ?_, by omega, kn1_step h3⟩
    · match a, h3 with
      | 0, _ | 1, _ | 2, _ => exact Nat.le_of_ble_eq_true rfl
    · match a, h3 with
      | 0, _ | 1, _ | 2, _ => exact Nat.le_of_ble_eq_true rfl
theorem kn1_runs {nb xb n : Nat} {m : Sch} {a : Nat} (h : RunTo kn1S (kn1 nb xb 0) 0 n m a) : n ≤ 3 ∧ m = kn1 nb xb n ∧ a = n := by
  generalize hm : kn1 nb xb 0 = m0 at h
  generalize ha : 0 = a0 at h
  induction h with
  | zero => exact ⟨Nat.zero_le _, hm.symm, ha.symm⟩
  | step _ hp hs ih =>
    obtain ⟨hn, rfl, rfl⟩ := ih ha
    obtain ⟨rfl, rfl, rfl⟩ := hs
    obtain ⟨rfl, h3⟩ := kn1_picked hn hp
    exact ⟨by omega, kn1_step h3, rfl⟩
theorem kn1_spec (W : World) (sb nb xb : Nat) (pv : Value) (F : List Chunk) : StepSpec W sb pv (fun a : Nat => [.blk nb 3 [.int .i64 (a : Int)], .blk xb 49 [ptr sb]] ++ F) (kn1I nb xb) kn1S := by
  rintro m a lv i t ⟨ha, rfl⟩ hpi hti htr
  obtain ⟨rfl, h3⟩ := kn1_picked ha hpi
  have hst : t.step = k1V nb xb := by
    match a, h3 with
    | 0, _ | 1, _ | 2, _ => simp only [kn1, List.getElem?_cons_zero, Option.some.injEq] at hti; subst hti; rfl
  refine ⟨59, [], [ptr nb, ptr xb], hst, plain59, SLf.ent .out2 (SLf.to (Kn1_ok W F nb xb sb pv lv (setNow (kn1 nb xb a) 0) a (by omega)) ?_)⟩
  rintro v σ ⟨rfl, rfl⟩
  exact ⟨_, .in2, _, lv, _, a + 1, rfl, rfl, rfl, rfl, rfl⟩
theorem RunKn1 (W : World) (F : List Chunk) (sb nb xb : Nat) (pv lv : Value) :
    SLf Try.prog W 45 [ptr sb, .int .i64 10] (.blk nb 3 [.int .i64 0] :: .blk xb 49 [ptr sb] :: (schC sb pv lv ⟨[], [⟨k1V nb xb, false, false, false⟩], 0, -1, false⟩ ++ F)) (fun r σ => ∃ lv', r = .tuple #[.int .i64 3, .int .i64 0] ∧ σ = .blk nb 3 [.int .i64 3] :: .blk xb 49 [ptr sb] :: (schC sb pv lv' ⟨[], [⟨k1V nb xb, false, true, true⟩], 3, -1, false⟩ ++ F)) := by
  refine SLf.ent .in2 (SLf.to (Run_ok W F sb pv lv (fun a : Nat => [.blk nb 3 [.int .i64 (a : Int)], .blk xb 49 [ptr sb]]) (kn1I nb xb) kn1S (kn1_spec W sb nb xb pv) kn1_client ⟨[], [⟨k1V nb xb, false, false, false⟩], 0, -1, false⟩ 0 10 ⟨Nat.zero_le _, rfl⟩ rfl (by decide)) ?_)
  rintro r σ ⟨n, lv', m, a, hrun, hIm, hend, hn, rfl, rfl⟩
  obtain ⟨hn3, rfl, ha⟩ := kn1_runs hrun
  subst ha
  have h3 : a = 3 := by
    rcases hend with h | h
    · match a, hn3 with
      | 0, _ | 1, _ | 2, _ => cases h
      | 3, _ => rfl
    · omega
  subst h3
  exact ⟨_, .out2, lv', rfl, rfl⟩
/-- The second one waits, or has to. -/
def kn2 (nb xb : Nat) (k : Nat) (wa : Bool) : Sch := ⟨[], [⟨k1V nb xb, false, true, true⟩, ⟨k2V, wa, false, false⟩], k, -1, true⟩
def kn2I (nb xb : Nat) (m : Sch) (_ : Unit) : Prop := ∃ k wa, k ≤ 10 ∧ (wa = false → k ≤ 9) ∧ m = kn2 nb xb k wa
theorem kn2_picked {nb xb k i : Nat} {wa : Bool} (hp : picked (kn2 nb xb k wa) i) : i = 1 ∧ wa = false := by
  unfold picked pickM at hp
  cases wa with
  | true => have h : none = some i := hp; cases h
  | false =>
    have h0 : canN (kn2 nb xb k false) = [1] := rfl
    rw [h0] at hp
    simp [kn2] at hp
    exact ⟨hp.symm, rfl⟩
theorem kn2_client {nb xb : Nat} : Client (kn2I nb xb) stayS := by
  refine ⟨?_, ?_⟩
  · rintro m _ ⟨k, wa, _, _, rfl⟩
    refine ⟨⟨fun t ht => ?_, Nat.le_of_ble_eq_true rfl⟩, fun n hn => by simp [kn2] at hn⟩
    simp only [kn2, List.mem_cons, List.not_mem_nil, or_false] at ht
    rcases ht with rfl | rfl <;> rfl
  · rintro m _ i said m' _ ⟨k, wa, hk, hw, rfl⟩ hp ⟨rfl, rfl⟩
    obtain ⟨rfl, rfl⟩ := kn2_picked hp
    have := hw rfl
    exact ⟨Nat.le_of_ble_eq_true rfl, by simp only [setNow, kn2]; omega, k + 1, true, by omega, (fun h => (by cases h)), rfl⟩
theorem kn2_runs {nb xb k n : Nat} {wa : Bool} {m : Sch} {a : Unit} (h : RunTo stayS (kn2 nb xb k wa) () n m a) : (n = 0 ∧ m = kn2 nb xb k wa) ∨ (n = 1 ∧ wa = false ∧ m = kn2 nb xb (k + 1) true) := by
  generalize hm : kn2 nb xb k wa = m0 at h
  generalize () = a0 at h
  induction h with
  | zero => exact .inl ⟨rfl, rfl⟩
  | step _ hp hs ih =>
    rcases ih with ⟨rfl, rfl⟩ | ⟨rfl, rfl, rfl⟩
    · rw [← hm] at hp hs
      obtain ⟨rfl, rfl⟩ := hs
      obtain ⟨rfl, rfl⟩ := kn2_picked hp
      exact .inr ⟨rfl, rfl, rfl⟩
    · obtain ⟨_, h⟩ := kn2_picked hp
      cases h
theorem kn2_spec (W : World) (sb nb xb : Nat) (pv : Value) (F : List Chunk) : StepSpec W sb pv (fun _ : Unit => [] ++ F) (kn2I nb xb) stayS := by
  rintro m a lv i t ⟨k, wa, hk, hw, rfl⟩ hpi hti htr
  obtain ⟨rfl, rfl⟩ := kn2_picked hpi
  have hst : t.step = k2V := by simp only [kn2, List.getElem?_cons_succ, List.getElem?_cons_zero, Option.some.injEq] at hti; subst hti; rfl
  refine ⟨60, [], [], hst, plain60, SLf.mono (Kn2_ok W _) ?_⟩
  rintro v σ ⟨rfl, rfl⟩
  exact ⟨2, lv, _, (), rfl, rfl, rfl, rfl⟩
/-- Run with one that can step. -/
theorem RunKn2 (W : World) (c1 c2 : Chunk) (F : List Chunk) (sb nb xb : Nat) (pv lv : Value) :
    SLf Try.prog W 45 [ptr sb, .int .i64 10] (c1 :: c2 :: (schC sb pv lv (setRuns (kn2 nb xb 3 false) false) ++ F)) (fun r σ => ∃ lv', r = .tuple #[.int .i64 1, .int .i64 12] ∧ σ = c1 :: c2 :: (schC sb pv lv' (setRuns (kn2 nb xb 4 true) false) ++ F)) := by
  refine SLf.ent .in2 (SLf.to (Run_ok W (c1 :: c2 :: F) sb pv lv (fun _ : Unit => []) (kn2I nb xb) stayS (kn2_spec W sb nb xb pv) kn2_client (setRuns (kn2 nb xb 3 false) false) () 10 ⟨3, false, by omega, fun _ => by omega, rfl⟩ rfl (by decide)) ?_)
  rintro r σ ⟨n, lv', m, a, hrun, hIm, hend, hn, rfl, rfl⟩
  rcases kn2_runs hrun with ⟨rfl, rfl⟩ | ⟨rfl, _, rfl⟩
  · rcases hend with h | h
    · cases h
    · omega
  · exact ⟨_, .out2, lv', rfl, rfl⟩
theorem RunKn0 (W : World) (c1 c2 c3 : Chunk) (F : List Chunk) (sb nb xb : Nat) (pv lv : Value) :
    SLf Try.prog W 45 [ptr sb, .int .i64 0] (c1 :: c2 :: c3 :: (schC sb pv lv (setRuns (kn2 nb xb 4 false) false) ++ F)) (fun r σ => ∃ lv', r = .tuple #[.int .i64 0, .int .i64 13] ∧ σ = c1 :: c2 :: c3 :: (schC sb pv lv' (setRuns (kn2 nb xb 4 false) false) ++ F)) := by
  refine SLf.ent .in3 (SLf.to (Run_ok W (c1 :: c2 :: c3 :: F) sb pv lv (fun _ : Unit => []) (kn2I nb xb) stayS (kn2_spec W sb nb xb pv) kn2_client (setRuns (kn2 nb xb 4 false) false) () 0 ⟨4, false, by omega, fun _ => by omega, rfl⟩ rfl (by decide)) ?_)
  rintro r σ ⟨n, lv', m, a, hrun, hIm, hend, hn, rfl, rfl⟩
  rcases kn2_runs hrun with ⟨rfl, rfl⟩ | ⟨rfl, _, rfl⟩
  · exact ⟨_, .out3, lv', rfl, rfl⟩
  · omega
set_option maxRecDepth 4000 in
set_option maxHeartbeats 2000000 in
theorem Known15 (W : World) : SLf Try.prog W 14 [] [] (fun v _ => v = .bool true) := by
  refine SLf.enter Try.func14 rfl (Nat.le_of_ble_eq_true rfl) ?_
  (repeat' (first | (first | refine SLl.nil ?_ | ((show SLl _ _ _ _ _ (⟨⟨_, _, _, _, _, _⟩, _, _⟩ :: _) _ _ _); refine SLl.ev rfl rfl rfl rfl ?_)) | (first | refine SLc.seq ?_ | refine SLc.region rfl ?_)))
  refine SLl.seq rfl rfl (SLo.call plain43 rfl (SLf.mono (Awake15 W []) ?_))
  rintro v σ ⟨rfl, rfl⟩
  (repeat' (first | (first | refine SLl.nil ?_ | ((show SLl _ _ _ _ _ (⟨⟨_, _, _, _, _, _⟩, _, _⟩ :: _) _ _ _); refine SLl.ev rfl rfl rfl rfl ?_)) | (first | refine SLc.seq ?_ | refine SLc.region rfl ?_ | refine SLc.condF rfl ?_ | refine SLc.skip ?_)))
  refine SLl.seq rfl rfl (SLo.call plain35 rfl (SLf.mono (New_ok W [] (.slice none 0 0) [] Rs.nil (by simp)) ?_))
  rintro v σ ⟨sb, pv, rfl, rfl⟩
  (repeat' (first | (first | refine SLl.nil ?_ | ((show SLl _ _ _ _ _ (⟨⟨_, _, _, _, _, _⟩, _, _⟩ :: _) _ _ _); first | refine SLl.ev rfl rfl rfl rfl ?_ | ((show SLl _ _ _ _ _ (⟨⟨_, .load _ _, _, _, _, _⟩, _, _⟩ :: _) _ _ _); (refine SLl.rdSeq rfl rfl (Rd.load rfl rfl (by ((apply Reads.blk; (· (repeat (first | apply Sel.here | apply Sel.there))); (· rfl))))) ?_)) | ((show SLl _ _ _ _ _ (⟨⟨_, .binOp _ _ _ _ _, _, _, _, _⟩, _, _⟩ :: _) _ _ _); (refine SLl.pu rfl rfl rfl (Pu.eqPtrNil rfl rfl) ?_)) | ((show SLl _ _ _ _ _ (⟨⟨_, .store _ _ _, _, _, _, _⟩, _, _⟩ :: _) _ _ _); ((refine SLl.seq0 rfl (SLo.store rfl rfl rfl (by (exact One.lit rfl)) (by ((apply Wr.blk; (· (repeat (apply Upd.here))); (· exact Nat.le_of_ble_eq_true rfl)))) ?_)))) | ((show SLl _ _ _ _ _ (⟨⟨_, .alloc _, _, _, _, _⟩, _, _⟩ :: _) _ _ _); refine SLl.seq rfl rfl (SLo.alloc ?_); intro b))) | (first | refine SLc.seq ?_ | refine SLc.region rfl ?_ | refine SLc.condF rfl ?_ | refine SLc.skip ?_)))
  rename_i xb
  refine SLl.seq rfl rfl (SLo.call plain36 rfl (SLf.mono (Go_in2 W _ _ _ sb pv _ _ (.func 59) #[] #[ptr b, ptr xb] (by decide)) ?_))
  rintro v σ ⟨lv1, hv, rfl⟩
  have hv : v = .tuple #[.int .i64 0, .int .i64 0] := hv
  subst hv
  (repeat' (first | (first | refine SLl.nil ?_ | ((show SLl _ _ _ _ _ (⟨⟨_, _, _, _, _, _⟩, _, _⟩ :: _) _ _ _); first | refine SLl.ev rfl rfl rfl rfl ?_ | ((show SLl _ _ _ _ _ (⟨⟨_, .load _ _, _, _, _, _⟩, _, _⟩ :: _) _ _ _); (refine SLl.rdSeq rfl rfl (Rd.load rfl rfl (by ((apply Reads.blk; (· (repeat (first | apply Sel.here | apply Sel.there))); (· rfl))))) ?_)))) | (first | refine SLc.seq ?_ | refine SLc.region rfl ?_)))
  refine SLl.seq rfl rfl (SLo.call plain36 rfl (SLf.mono (Go_nil W _ sb) ?_))
  rintro v σ ⟨rfl, rfl⟩
  (repeat' (first | (first | refine SLl.nil ?_ | ((show SLl _ _ _ _ _ (⟨⟨_, _, _, _, _, _⟩, _, _⟩ :: _) _ _ _); first | refine SLl.ev rfl rfl rfl rfl ?_ | ((show SLl _ _ _ _ _ (⟨⟨_, .load _ _, _, _, _, _⟩, _, _⟩ :: _) _ _ _); (refine SLl.rdSeq rfl rfl (Rd.load rfl rfl (by ((apply Reads.blk; (· (repeat (first | apply Sel.here | apply Sel.there))); (· rfl))))) ?_)))) | (first | refine SLc.seq ?_ | refine SLc.region rfl ?_)))
  refine SLl.seq rfl rfl (SLo.call plain45 rfl (SLf.mono (RunKn1 W _ sb b xb pv lv1) ?_))
  rintro v σ ⟨lv2, rfl, rfl⟩
  (repeat' (first | (first | refine SLl.nil ?_ | ((show SLl _ _ _ _ _ (⟨⟨_, _, _, _, _, _⟩, _, _⟩ :: _) _ _ _); first | refine SLl.ev rfl rfl rfl rfl ?_ | ((show SLl _ _ _ _ _ (⟨⟨_, .load _ _, _, _, _, _⟩, _, _⟩ :: _) _ _ _); (refine SLl.rdSeq rfl rfl (Rd.load rfl rfl (by ((apply Reads.blk; (· (repeat (first | apply Sel.here | apply Sel.there))); (· rfl))))) ?_)))) | (first | refine SLc.seq ?_ | refine SLc.region rfl ?_)))
  refine SLl.seq rfl rfl (SLo.call plain36 rfl (SLf.mono (Go_in2 W _ _ _ sb pv _ _ (.func 60) #[] #[] (Nat.le_of_ble_eq_true rfl)) ?_))
  rintro v σ ⟨lv3, hv, rfl⟩
  have hv : v = .tuple #[.int .i64 1, .int .i64 0] := hv
  subst hv
  (repeat' (first | (first | refine SLl.nil ?_ | ((show SLl _ _ _ _ _ (⟨⟨_, _, _, _, _, _⟩, _, _⟩ :: _) _ _ _); first | refine SLl.ev rfl rfl rfl rfl ?_ | ((show SLl _ _ _ _ _ (⟨⟨_, .load _ _, _, _, _, _⟩, _, _⟩ :: _) _ _ _); (refine SLl.rdSeq rfl rfl (Rd.load rfl rfl (by ((apply Reads.blk; (· (repeat (first | apply Sel.here | apply Sel.there))); (· rfl))))) ?_)))) | (first | refine SLc.seq ?_ | refine SLc.region rfl ?_)))
  refine SLl.seq rfl rfl (SLo.call plain45 rfl (SLf.mono (RunKn2 W _ _ _ sb b xb pv lv3) ?_))
  rintro v σ ⟨lv4, rfl, rfl⟩
  (repeat' (first | (first | refine SLl.nil ?_ | ((show SLl _ _ _ _ _ (⟨⟨_, _, _, _, _, _⟩, _, _⟩ :: _) _ _ _); first | refine SLl.ev rfl rfl rfl rfl ?_ | ((show SLl _ _ _ _ _ (⟨⟨_, .load _ _, _, _, _, _⟩, _, _⟩ :: _) _ _ _); (refine SLl.rdSeq rfl rfl (Rd.load rfl rfl (by ((apply Reads.blk; (· (repeat (first | apply Sel.here | apply Sel.there))); (· rfl))))) ?_)))) | (first | refine SLc.seq ?_ | refine SLc.region rfl ?_)))
  have hok : ∀ wa : Bool, SchOk (setRuns (kn2 b xb 4 wa) false) := fun wa => ⟨fun t ht => by
    simp only [setRuns, kn2, List.mem_cons, List.not_mem_nil, or_false] at ht
    rcases ht with rfl | rfl <;> rfl, Nat.le_of_ble_eq_true rfl⟩
  refine SLl.seq rfl rfl (SLo.call plain56 rfl (SLf.mono (Waiting_in2b W _ _ _ sb pv lv4 _ (hok true)) ?_))
  rintro wv σ rfl
  have hw1 : waitN (setRuns (kn2 b xb 4 true) false) = [1] := rfl
  rw [hw1]
  (repeat' (first | (first | refine SLl.nil ?_ | ((show SLl _ _ _ _ _ (⟨⟨_, _, _, _, _, _⟩, _, _⟩ :: _) _ _ _); refine SLl.ev rfl rfl rfl rfl ?_)) | (refine SLc.seq ?_)))
  have e1 : (wakeM (setRuns (kn2 b xb 4 true) false) 1).2 = setRuns (kn2 b xb 4 false) false := rfl
  have e2 : (wakeM (setRuns (kn2 b xb 4 false) false) 0).2 = setRuns (kn2 b xb 4 false) false := rfl
  have e3 : (wakeM (setRuns (kn2 b xb 4 false) false) 9).2 = setRuns (kn2 b xb 4 false) false := rfl
  have hnl : (natL [1]).length = 1 := rfl
  have hn0 : (natL [1])[0]? = some [.int .i64 1] := rfl
  generalize natL [1] = N1 at hnl hn0
  refine SLc.draws [.blk xb 49 [ptr sb]] [(0, .take), (1, .take), (3, .take), (4, .take), (6, .take), (2, .eff true), (5, .eff true), (7, .eff true), (8, .take), (9, .take), (10, .take)] mixed (by kernel_rfl) (.cons (.there (.there .here)) .drop) ?_
  (repeat' ((((show SLl _ _ _ _ _ (⟨⟨_, _, _, _, _, _⟩, _, _⟩ :: _) _ _ _); first | refine SLl.ev rfl rfl rfl rfl ?_ | ((show SLl _ _ _ _ _ (⟨⟨_, .load _ _, _, _, _, _⟩, _, _⟩ :: _) _ _ _); (refine SLl.rdTake rfl rfl (Rd.load rfl rfl (by ((apply Reads.blk; (· (repeat (apply Sel.here))); (· rfl))))) ?_))))))
  refine SLl.eff rfl rfl (SLo.call plain57 rfl (SLf.mono (Wake_in3 W _ _ _ _ sb pv lv4 _ 1) ?_))
  rintro v σ ⟨hv, rfl⟩
  have hv : v = .bool true := hv
  subst hv
  rw [e1]
  refine And.intro (fun _ => .cons (.there (.there .here)) .drop) ?_
  (repeat' (fail))
  refine SLl.eff rfl rfl (SLo.call plain57 rfl (SLf.mono (Wake_in3 W _ _ _ _ sb pv lv4 _ 0) ?_))
  rintro v σ ⟨hv, rfl⟩
  have hv : v = .bool false := hv
  subst hv
  rw [e2]
  refine And.intro (fun _ => .cons (.there (.there .here)) .drop) ?_
  (repeat' (fail))
  refine SLl.eff rfl rfl (SLo.call plain57 rfl (SLf.mono (Wake_in3 W _ _ _ _ sb pv lv4 _ 9) ?_))
  rintro v σ ⟨hv, rfl⟩
  have hv : v = .bool false := hv
  subst hv
  rw [e3]
  refine And.intro (fun _ => .cons (.there (.there .here)) .drop) ?_
  (repeat' (first | (first | refine SLl.nil ?_ | ((show SLl _ _ _ _ _ (⟨⟨_, _, _, _, _, _⟩, _, _⟩ :: _) _ _ _); refine SLl.ev rfl rfl rfl rfl ?_)) | (first | refine SLc.seq ?_ | refine SLc.region rfl ?_)))
  (repeat' ((((show SLl _ _ _ _ _ (⟨⟨_, _, _, _, _, _⟩, _, _⟩ :: _) _ _ _); ((show SLl _ _ _ _ _ (⟨⟨_, .load _ _, _, _, _, _⟩, _, _⟩ :: _) _ _ _); (refine SLl.rdSeq rfl rfl (Rd.load rfl rfl (by ((apply Reads.blk; (· (repeat (first | apply Sel.here | apply Sel.there))); (· rfl))))) ?_))))))
  refine SLl.seq rfl rfl (SLo.call plain45 rfl (SLf.mono (Run_arg3 W _ _ _ _ sb pv lv4 _ (-1) (.inr (.inl (by decide)))) ?_))
  rintro v σ ⟨rfl, rfl⟩
  (repeat' (first | (first | refine SLl.nil ?_ | ((show SLl _ _ _ _ _ (⟨⟨_, _, _, _, _, _⟩, _, _⟩ :: _) _ _ _); first | refine SLl.ev rfl rfl rfl rfl ?_ | ((show SLl _ _ _ _ _ (⟨⟨_, .load _ _, _, _, _, _⟩, _, _⟩ :: _) _ _ _); (refine SLl.rdSeq rfl rfl (Rd.load rfl rfl (by ((apply Reads.blk; (· (repeat (first | apply Sel.here | apply Sel.there))); (· rfl))))) ?_)))) | (first | refine SLc.seq ?_ | refine SLc.region rfl ?_)))
  refine SLl.seq rfl rfl (SLo.call plain45 rfl (SLf.mono (Run_arg3 W _ _ _ _ sb pv lv4 _ 1048577 (.inr (.inr (by decide)))) ?_))
  rintro v σ ⟨rfl, rfl⟩
  (repeat' (first | (first | refine SLl.nil ?_ | ((show SLl _ _ _ _ _ (⟨⟨_, _, _, _, _, _⟩, _, _⟩ :: _) _ _ _); first | refine SLl.ev rfl rfl rfl rfl ?_ | ((show SLl _ _ _ _ _ (⟨⟨_, .load _ _, _, _, _, _⟩, _, _⟩ :: _) _ _ _); (refine SLl.rdSeq rfl rfl (Rd.load rfl rfl (by ((apply Reads.blk; (· (repeat (first | apply Sel.here | apply Sel.there))); (· rfl))))) ?_)))) | (first | refine SLc.seq ?_ | refine SLc.region rfl ?_)))
  refine SLl.seq rfl rfl (SLo.call plain45 rfl (SLf.mono (RunKn0 W _ _ _ _ sb b xb pv lv4) ?_))
  rintro v σ ⟨lv5, rfl, rfl⟩
  (repeat' (first | (first | refine SLl.nil ?_ | ((show SLl _ _ _ _ _ (⟨⟨_, _, _, _, _, _⟩, _, _⟩ :: _) _ _ _); first | refine SLl.ev rfl rfl rfl rfl ?_ | ((show SLl _ _ _ _ _ (⟨⟨_, .load _ _, _, _, _, _⟩, _, _⟩ :: _) _ _ _); (refine SLl.rdSeq rfl rfl (Rd.load rfl rfl (by (first | (apply Reads.blk; (· (repeat (first | apply Sel.here | apply Sel.there))); (· rfl)) | (apply Reads.row; (· (repeat (apply Sel.here))); (· (assumption)); (· rfl))))) ?_)) | ((show SLl _ _ _ _ _ (⟨⟨_, .indexAddr _ _ _, _, _, _, _⟩, _, _⟩ :: _) _ _ _); (refine SLl.rdSeq rfl rfl (Rd.indexAddr rfl rfl (by ((apply Len.row; (· (repeat (apply Sel.here)))))) (by (exact ij0)) (by omega)) ?_)) | ((show SLl _ _ _ _ _ (⟨⟨_, .call ⟨.builtin .len, _, _⟩, _, _, _, _⟩, _, _⟩ :: _) _ _ _); refine SLl.rdSeq rfl rfl (Rd.len rfl (by ((apply Len.row; (· (repeat (apply Sel.here))))))) ?_) | ((show SLl _ _ _ _ _ (⟨⟨_, .binOp _ _ _ _ _, _, _, _, _⟩, _, _⟩ :: _) _ _ _); ((refine SLl.cmp rfl rfl rfl rfl rfl rfl ?_ ?_ <;> intro hq <;> simp only [cmpP] at hq <;> try (first | exact (hq trivial).elim | (exfalso; omega))))))) | (first | refine SLc.seq ?_ | refine SLc.region rfl ?_)))
  refine SLl.seq rfl rfl (SLo.call plain46 rfl (SLf.mono (Open_in3 W _ _ _ _ sb pv lv5 _ (hok false)) ?_))
  rintro v σ ⟨hv, rfl⟩
  have hv : v = .int .i64 1 := hv
  subst hv
  (repeat' ((((show SLl _ _ _ _ _ (⟨⟨_, _, _, _, _, _⟩, _, _⟩ :: _) _ _ _); first | refine SLl.ev rfl rfl rfl rfl ?_ | ((show SLl _ _ _ _ _ (⟨⟨_, .load _ _, _, _, _, _⟩, _, _⟩ :: _) _ _ _); (refine SLl.rdSeq rfl rfl (Rd.load rfl rfl (by ((apply Reads.blk; (· (repeat (first | apply Sel.here | apply Sel.there))); (· rfl))))) ?_)) | ((show SLl _ _ _ _ _ (⟨⟨_, .binOp _ _ _ _ _, _, _, _, _⟩, _, _⟩ :: _) _ _ _); ((refine SLl.cmp rfl rfl rfl rfl rfl rfl ?_ ?_ <;> intro hq <;> simp only [cmpP] at hq <;> try (exact (hq trivial).elim))))))))
  refine SLl.seq rfl rfl (SLo.call plain55 rfl (SLf.mono (Now_in3 W _ _ _ _ sb pv lv5 _) ?_))
  rintro v σ ⟨hv, rfl⟩
  have hv : v = .int .i64 (-1) := hv
  subst hv
  (repeat' (first | (first | refine SLl.nil ?_ | ((show SLl _ _ _ _ _ (⟨⟨_, _, _, _, _, _⟩, _, _⟩ :: _) _ _ _); first | refine SLl.ev rfl rfl rfl rfl ?_ | ((show SLl _ _ _ _ _ (⟨⟨_, .binOp _ _ _ _ _, _, _, _, _⟩, _, _⟩ :: _) _ _ _); ((refine SLl.cmp rfl rfl rfl rfl rfl rfl ?_ ?_ <;> intro hq <;> simp only [cmpP] at hq <;> try (exact (hq trivial).elim)))))) | (refine SLc.ret ?_)))
  exact And.intro rfl (Exists.intro _ (Exists.intro [] (And.intro rfl (And.intro .drop rfl))))
end Go.Sl
