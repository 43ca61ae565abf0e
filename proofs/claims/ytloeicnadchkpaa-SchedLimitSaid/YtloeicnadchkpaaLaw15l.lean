/- backstitchlaw15.SchedLimit: the walk. -/
import Derived.Test.YtloeicnadchkpaaTask15c
namespace Go.Sl
open Go.Proofs
attribute [local irreducible] SLc SLl SLo SLf Pu Rd

def frT (st : Value) : Task := ⟨st, false, false, false⟩
def doT (st : Value) : Task := ⟨st, false, true, false⟩
/-- So many of them are done already. -/
def midD (st : Value) (N n : Nat) : Sch := ⟨[], List.replicate n (doT st) ++ List.replicate (N - n) (frT st), n, -1, true⟩
theorem midD_len {st : Value} {N n : Nat} (h : n ≤ N) : (midD st N n).tasks.length = N := by simp [midD]; omega
theorem midD_at {st : Value} {N n i : Nat} (hi : i < N) : (midD st N n).tasks[i]? = some (if i < n then doT st else frT st) := by
  simp only [midD, List.getElem?_append, List.length_replicate, List.getElem?_replicate]
  split
  · rfl
  · rw [if_pos (by omega)]
theorem midD_can {st : Value} {N n : Nat} (h : n ≤ N) : canN (midD st N n) = (List.range N).drop n := by
  unfold canN pickN
  rw [midD_len h]
  have key : ∀ i ∈ List.range N, (((midD st N n).tasks[i]?).map runsT).getD false = decide (n ≤ i) := by
    intro i hi
    rw [List.mem_range] at hi
    rw [midD_at hi]
    by_cases hin : i < n
    · simp [hin, runsT, doT]
    · simp [hin, runsT, frT]; omega
  rw [List.filter_congr key]
  have h2 : List.range N = List.range n ++ (List.range N).drop n := by
    have := List.take_append_drop n (List.range N)
    rw [List.take_range, Nat.min_eq_left h] at this
    exact this.symm
  conv => lhs; rw [h2]
  rw [List.filter_append]
  have h3 : (List.range n).filter (fun i => decide (n ≤ i)) = [] := by
    rw [List.filter_eq_nil_iff]
    intro i hi
    rw [List.mem_range] at hi
    simp; omega
  have h4 : ((List.range N).drop n).filter (fun i => decide (n ≤ i)) = (List.range N).drop n := by
    rw [List.filter_eq_self]
    intro i hi
    obtain ⟨j, hj⟩ := List.mem_iff_getElem?.1 hi
    rw [List.getElem?_drop] at hj
    have := (List.getElem?_eq_some_iff.1 hj).2
    simp at this
    simp; omega
  rw [h3, h4, List.nil_append]
theorem midD_picked {st : Value} {N n i : Nat} (h : n ≤ N) (hp : picked (midD st N n) i) : i = n ∧ n < N := by
  unfold picked at hp
  rw [midD_can h] at hp
  have h0 : pickM (midD st N n) ((List.range N).drop n).length = 0 := by simp [pickM, midD]
  rw [h0, List.getElem?_drop] at hp
  have hlt := (List.getElem?_eq_some_iff.1 hp).1
  have hv := (List.getElem?_eq_some_iff.1 hp).2
  simp at hlt hv
  omega
theorem midD_step {st : Value} {N n : Nat} (h : n < N) : afterStep (setNow (midD st N n) n) n 3 = midD st N (n + 1) := by
  have hat : (setNow (midD st N n) n).tasks[n]? = some (frT st) := by
    have := midD_at (st := st) (n := n) h
    simpa [setNow] using this
  unfold afterStep
  rw [hat]
  simp only [setNow, midD]
  congr 1
  obtain ⟨d, rfl⟩ : ∃ d, N = n + (d + 1) := ⟨N - n - 1, by omega⟩
  rw [show n + (d + 1) - n = d + 1 by omega, show n + (d + 1) - (n + 1) = d by omega]
  have h1 : List.replicate (d + 1) (frT st) = frT st :: List.replicate d (frT st) := List.replicate_succ
  have h2 : List.replicate (n + 1) (doT st) = List.replicate n (doT st) ++ [doT st] := List.replicate_succ'
  have h3 : saidT 3 (frT st) = doT st := rfl
  rw [h1, h2, h3, List.set_append_right _ _ (by simp)]
  simp
def limI (st : Value) (N : Nat) (m : Sch) (a : Nat) : Prop := a ≤ N ∧ m = midD st N a
def limS (m : Sch) (a : Nat) (i : Nat) (said : Int) (m' : Sch) (a' : Nat) : Prop := said = 3 ∧ m' = setNow m i ∧ a' = a + 1
theorem lim_client {st : Value} {N : Nat} (hst : st.oneCell' = true) (hN : N ≤ 128) : Client (limI st N) limS := by
  refine ⟨?_, ?_⟩
  · rintro m a ⟨hn, rfl⟩
    refine ⟨⟨fun t ht => ?_, by rw [midD_len hn]; exact hN⟩, by simp [midD]⟩
    simp only [midD, List.mem_append, List.mem_replicate] at ht
    rcases ht with ⟨_, rfl⟩ | ⟨_, rfl⟩ <;> exact hst
  · rintro m a i said m' a' ⟨hn, rfl⟩ hp ⟨rfl, rfl, rfl⟩
    obtain ⟨rfl, hlt⟩ := midD_picked hn hp
    refine ⟨by simp only [setNow]; rw [midD_len hn]; exact hlt, by simp only [setNow, midD]; omega, hlt, midD_step hlt⟩
theorem lim_runs {st : Value} {N n : Nat} {m : Sch} {a : Nat} (h : RunTo limS (midD st N 0) 0 n m a) : n ≤ N ∧ m = midD st N n ∧ a = n := by
  generalize hm : midD st N 0 = m0 at h
  generalize ha : 0 = a0 at h
  induction h with
  | zero => exact ⟨Nat.zero_le _, hm.symm, ha.symm⟩
  | step _ hp hs ih =>
    obtain ⟨hn, rfl, rfl⟩ := ih ha
    obtain ⟨rfl, rfl, rfl⟩ := hs
    obtain ⟨rfl, hlt⟩ := midD_picked hn hp
    exact ⟨hlt, midD_step hlt, rfl⟩
theorem midD_err {st : Value} {N : Nat} : errM (midD st N N) = 0 := by
  have h1 : canN (midD st N N) = [] := by rw [midD_can (Nat.le_refl _)]; simp
  have h2 : openN (midD st N N) = 0 := by
    unfold openN openUp
    rw [List.take_length]
    simp [midD, doT]
  simp [errM, h1, h2]
theorem Inc_ok (W : World) (F : List Chunk) (mb n : Nat) (hn : n ≤ 1000000) : SLf Try.prog W 47 [ptr mb] (.blk mb 3 [.int .i64 (n : Int)] :: F) (fun v σ => v = .int .i64 3 ∧ σ = .blk mb 3 [.int .i64 ((n + 1 : Nat) : Int)] :: F) := by
  refine SLf.enter Try.func47 rfl (Nat.le_of_ble_eq_true rfl) ?_
  (repeat' (first | (first | refine SLl.nil ?_ | ((show SLl _ _ _ _ _ (⟨⟨_, _, _, _, _, _⟩, _, _⟩ :: _) _ _ _); first | refine SLl.ev rfl rfl rfl rfl ?_ | ((show SLl _ _ _ _ _ (⟨⟨_, .load _ _, _, _, _, _⟩, _, _⟩ :: _) _ _ _); (refine SLl.rdSeq rfl rfl (Rd.load rfl rfl (by ((apply Reads.blk; (· (repeat (apply Sel.here))); (· rfl))))) ?_)) | ((show SLl _ _ _ _ _ (⟨⟨_, .binOp _ _ _ _ _, _, _, _, _⟩, _, _⟩ :: _) _ _ _); (refine SLl.pu rfl rfl rfl (Pu.add rfl rfl (IntWalk.i64_in _ (by omega))) ?_)) | ((show SLl _ _ _ _ _ (⟨⟨_, .store _ _ _, _, _, _, _⟩, _, _⟩ :: _) _ _ _); ((refine SLl.seq0 rfl (SLo.store rfl rfl rfl (by (exact One.lit rfl)) (by ((apply Wr.blk; (· (repeat (apply Upd.here))); (· exact Nat.le_of_ble_eq_true rfl)))) ?_)))))) | (first | refine SLc.seq ?_ | refine SLc.region rfl ?_ | refine SLc.ret ?_)))
  exact And.intro rfl (Exists.intro _ (Exists.intro _ (And.intro rfl (And.intro .refl (And.intro rfl rfl)))))
def incV (mb : Nat) : Value := .func (.func 47) #[] #[ptr mb]
def fresh (st : Value) (N : Nat) : Sch := ⟨[], List.replicate N (frT st), 0, -1, false⟩
theorem fresh_add {st : Value} {N : Nat} : addTask (fresh st N) ⟨st, false, false, false⟩ = fresh st (N + 1) := by
  simp [addTask, fresh, List.replicate_succ', frT]
theorem fresh_len {st : Value} {N : Nat} : (fresh st N).tasks.length = N := by simp [fresh]
theorem RunLim (W : World) (F : List Chunk) (sb mb : Nat) (pv lv : Value) :
    SLf Try.prog W 45 [ptr sb, .int .i64 1048576] (schC sb pv lv (fresh (incV mb) 128) ++ (.blk mb 3 [.int .i64 0] :: F)) (fun r σ => ∃ lv' m, m.tasks.length = 128 ∧ r = .tuple #[.int .i64 128, .int .i64 0] ∧ σ = .blk mb 3 [.int .i64 128] :: (schC sb pv lv' m ++ F)) := by
  have hspec : ∀ F : List Chunk, StepSpec W sb pv (fun a : Nat => [.blk mb 3 [.int .i64 (a : Int)]] ++ F) (limI (incV mb) 128) limS := by
    rintro F m a lv i t ⟨ha, rfl⟩ hpi hti htr
    obtain ⟨rfl, hlt⟩ := midD_picked ha hpi
    rw [midD_at hlt, if_neg (Nat.lt_irrefl i)] at hti
    simp only [Option.some.injEq] at hti
    subst hti
    refine ⟨47, [], [ptr mb], rfl, plain47, SLf.ent .out (SLf.to (Inc_ok W _ mb i (by omega)) ?_)⟩
    rintro v σ ⟨rfl, rfl⟩
    exact ⟨_, .into, 3, lv, _, i + 1, rfl, rfl, rfl, rfl, rfl⟩
  have h0 : setRuns (fresh (incV mb) 128) true = midD (incV mb) 128 0 := by simp [setRuns, fresh, midD]
  refine SLf.to (Run_ok W F sb pv lv (fun a : Nat => [.blk mb 3 [.int .i64 (a : Int)]]) (limI (incV mb) 128) limS hspec (lim_client rfl (Nat.le_refl _)) (fresh (incV mb) 128) 0 1048576 ⟨Nat.zero_le _, h0⟩ rfl (Nat.le_refl _)) ?_
  rintro r σ ⟨n, lv', m, a, hrun, hIm, hend, hn, rfl, rfl⟩
  rw [h0] at hrun
  obtain ⟨hnN, rfl, ha⟩ := lim_runs hrun
  have hnn : n = 128 := by
    rcases hend with h | h
    · rw [midD_can hnN] at h
      have := congrArg List.length h
      simp at this
      omega
    · omega
  rw [hnn] at ha
  subst hnn ha
  refine ⟨_, .out, lv', setRuns (midD (incV mb) 128 128) false, by simp [setRuns, midD], ?_, rfl⟩
  rw [midD_err]
  rfl
theorem Go_c1 (W : World) (c : Chunk) (F : List Chunk) (b : Nat) (pv lv : Value) (m : Sch) (fn : Fn) (a1 a2 : Array Value) (hn : m.tasks.length < 128) : SLf Try.prog W 36 [ptr b, .func fn a1 a2] (c :: (schC b pv lv m ++ F)) (fun r σ => ∃ lv', r = .tuple #[.int .i64 (m.tasks.length : Int), .int .i64 0] ∧ σ = c :: (schC b pv lv' (addTask m ⟨.func fn a1 a2, false, false, false⟩) ++ F)) := Go_mid W [c] F b pv lv m fn a1 a2 hn
theorem Go_f1 (W : World) (c : Chunk) (F : List Chunk) (b : Nat) (pv lv : Value) (m : Sch) (fn : Fn) (a1 a2 : Array Value) (hn : 128 ≤ m.tasks.length) : SLf Try.prog W 36 [ptr b, .func fn a1 a2] (c :: (schC b pv lv m ++ F)) (fun r σ => r = .tuple #[.int .i64 0, .int .i64 13] ∧ σ = c :: (schC b pv lv m ++ F)) := Go_fullM W [c] F b pv lv m fn a1 a2 hn
set_option maxHeartbeats 1000000 in
theorem Limit15 (W : World) (n : Nat) (hn : n < 256) : SLf Try.prog W 10 [.int .u8 (n : Int)] [] (fun v _ => v = .bool true) := by
  refine SLf.enter Try.func10 rfl (Nat.le_of_ble_eq_true rfl) ?_
  (repeat' (first | (first | refine SLl.nil ?_ | ((show SLl _ _ _ _ _ (⟨⟨_, _, _, _, _, _⟩, _, _⟩ :: _) _ _ _); refine SLl.ev rfl rfl rfl rfl ?_)) | (first | refine SLc.seq ?_ | refine SLc.region rfl ?_)))
  refine SLl.seq rfl rfl (SLo.call plain43 rfl (SLf.mono (Awake15 W []) ?_))
  rintro v σ ⟨rfl, rfl⟩
  (repeat' (first | (first | refine SLl.nil ?_ | ((show SLl _ _ _ _ _ (⟨⟨_, _, _, _, _, _⟩, _, _⟩ :: _) _ _ _); refine SLl.ev rfl rfl rfl rfl ?_)) | (first | refine SLc.seq ?_ | refine SLc.region rfl ?_ | refine SLc.condF rfl ?_ | refine SLc.skip ?_)))
  refine SLl.seq rfl rfl (SLo.call plain35 rfl (SLf.mono (New_ok W [] (.slice none 0 0) [] Rs.nil (by simp)) ?_))
  rintro v σ2 ⟨sb, pv, rfl, rfl⟩
  (repeat' (first | (first | refine SLl.nil ?_ | ((show SLl _ _ _ _ _ (⟨⟨_, _, _, _, _, _⟩, _, _⟩ :: _) _ _ _); first | refine SLl.ev rfl rfl rfl rfl ?_ | ((show SLl _ _ _ _ _ (⟨⟨_, .binOp _ _ _ _ _, _, _, _, _⟩, _, _⟩ :: _) _ _ _); (refine SLl.pu rfl rfl rfl (Pu.eqPtrNil rfl rfl) ?_)) | ((show SLl _ _ _ _ _ (⟨⟨_, .store _ _ _, _, _, _, _⟩, _, _⟩ :: _) _ _ _); ((refine SLl.seq0 rfl (SLo.store rfl rfl rfl (by (exact One.lit rfl)) (by ((apply Wr.blk; (· (repeat (apply Upd.here))); (· exact Nat.le_of_ble_eq_true rfl)))) ?_)))) | ((show SLl _ _ _ _ _ (⟨⟨_, .alloc _, _, _, _, _⟩, _, _⟩ :: _) _ _ _); refine SLl.seq rfl rfl (SLo.alloc ?_); intro b))) | (first | refine SLc.seq ?_ | refine SLc.region rfl ?_ | refine SLc.condF rfl ?_ | refine SLc.block ?_ | refine SLc.skip ?_)))
  refine SLc.loop (ι := Nat × Value) (fun s => [(5, .int .i64 s.1), (4, ptr b), (3, ptr sb), (0, .int .u8 (n : Int))]) (fun s => .blk b 3 [.int .i64 0] :: (schC sb pv s.2 (fresh (incV b) (min s.1 128)) ++ [])) (fun s => s.1 ≤ 128 + n) (fun s => 128 + n - s.1) (0, .slice none 0 0) (Nat.zero_le _) (by (repeat' (first | exact trivial | apply And.intro | rfl))) .refl ?_
  rintro ⟨i, lv⟩ hi
  dsimp only at hi ⊢
  by_cases hlt : i < 128 + n
  · (repeat' (first | (((show SLl _ _ _ _ _ (⟨⟨_, _, _, _, _, _⟩, _, _⟩ :: _) _ _ _); refine SLl.ev rfl rfl rfl rfl ?_)) | (first | refine SLc.seq ?_ | refine SLc.region rfl ?_)))
    refine SLl.pu rfl rfl rfl (Pu.convInt rfl (IntWalk.i64_in _ (by omega))) ?_
    (repeat' (first | (first | refine SLl.nil ?_ | ((show SLl _ _ _ _ _ (⟨⟨_, _, _, _, _, _⟩, _, _⟩ :: _) _ _ _); first | refine SLl.ev rfl rfl rfl rfl ?_ | ((show SLl _ _ _ _ _ (⟨⟨_, .binOp _ _ _ _ _, _, _, _, _⟩, _, _⟩ :: _) _ _ _); (first | refine SLl.pu rfl rfl rfl (Pu.add rfl rfl (IntWalk.i64_in _ (by omega))) ?_ | (refine SLl.cmp rfl rfl rfl rfl rfl rfl ?_ ?_ <;> intro hq <;> simp only [cmpP] at hq <;> try ((exfalso; omega))))))) | (first | refine SLc.seq ?_ | refine SLc.region rfl ?_ | refine SLc.condT rfl ?_ | refine SLc.block ?_ | refine SLc.skip ?_)))
    by_cases h128 : i < 128
    · rw [Nat.min_eq_left (by omega)]
      refine SLl.seq rfl rfl (SLo.call plain36 rfl (SLf.mono (Go_c1 W _ _ sb pv lv (fresh (incV b) i) (.func 47) #[] #[ptr b] (by rw [fresh_len]; omega)) ?_))
      rintro v σ2 ⟨lv', rfl, rfl⟩
      have ha : addTask (fresh (incV b) i) ⟨.func (.func 47) #[] #[ptr b], false, false, false⟩ = fresh (incV b) (min (i + 1) 128) := by rw [Nat.min_eq_left (by omega)]; exact fresh_add
      rw [ha, fresh_len]
      (repeat' (first | (first | refine SLl.nil ?_ | ((show SLl _ _ _ _ _ (⟨⟨_, _, _, _, _, _⟩, _, _⟩ :: _) _ _ _); first | refine SLl.ev rfl rfl rfl rfl ?_ | ((show SLl _ _ _ _ _ (⟨⟨_, .binOp _ _ _ _ _, _, _, _, _⟩, _, _⟩ :: _) _ _ _); (first | refine SLl.pu rfl rfl rfl (Pu.add rfl rfl (IntWalk.i64_in _ (by omega))) ?_ | (refine SLl.cmp rfl rfl rfl rfl rfl rfl ?_ ?_ <;> intro hq <;> simp only [cmpP] at hq <;> try ((exfalso; omega))))) | refine SLl.skip rfl rfl ?_)) | (first | refine SLc.seq ?_ | refine SLc.region rfl ?_ | refine SLc.condF rfl ?_ | refine SLc.skip ?_)))
      exact And.intro rfl (Exists.intro (i + 1, lv') (And.intro (by dsimp only; omega) (And.intro (by dsimp only; omega) (And.intro (by (repeat' (first | exact trivial | apply And.intro | rfl))) .refl))))
    · refine SLl.seq rfl rfl (SLo.call plain36 rfl (SLf.mono (Go_f1 W _ _ sb pv lv _ (.func 47) #[] #[ptr b] (by rw [fresh_len]; omega)) ?_))
      rintro v σ2 ⟨rfl, rfl⟩
      have hm : min i 128 = min (i + 1) 128 := by omega
      rw [hm]
      (repeat' (first | (first | refine SLl.nil ?_ | ((show SLl _ _ _ _ _ (⟨⟨_, _, _, _, _, _⟩, _, _⟩ :: _) _ _ _); first | refine SLl.ev rfl rfl rfl rfl ?_ | ((show SLl _ _ _ _ _ (⟨⟨_, .binOp _ _ _ _ _, _, _, _, _⟩, _, _⟩ :: _) _ _ _); (first | refine SLl.pu rfl rfl rfl (Pu.add rfl rfl (IntWalk.i64_in _ (by omega))) ?_ | (refine SLl.cmp rfl rfl rfl rfl rfl rfl ?_ ?_ <;> intro hq <;> simp only [cmpP] at hq <;> try ((exfalso; omega))))) | refine SLl.skip rfl rfl ?_)) | (first | refine SLc.seq ?_ | refine SLc.region rfl ?_ | refine SLc.condF rfl ?_ | refine SLc.skip ?_)))
      exact And.intro rfl (Exists.intro (i + 1, lv) (And.intro (by dsimp only; omega) (And.intro (by dsimp only; omega) (And.intro (by (repeat' (first | exact trivial | apply And.intro | rfl))) .refl))))
  obtain rfl : i = 128 + n := by omega
  rw [Nat.min_eq_right (by omega)]
  (repeat' (first | (((show SLl _ _ _ _ _ (⟨⟨_, _, _, _, _, _⟩, _, _⟩ :: _) _ _ _); refine SLl.ev rfl rfl rfl rfl ?_)) | (first | refine SLc.seq ?_ | refine SLc.region rfl ?_)))
  refine SLl.pu rfl rfl rfl (Pu.convInt rfl (IntWalk.i64_in _ (by omega))) ?_
  (repeat' (first | (first | refine SLl.nil ?_ | ((show SLl _ _ _ _ _ (⟨⟨_, _, _, _, _, _⟩, _, _⟩ :: _) _ _ _); first | refine SLl.ev rfl rfl rfl rfl ?_ | ((show SLl _ _ _ _ _ (⟨⟨_, .binOp _ _ _ _ _, _, _, _, _⟩, _, _⟩ :: _) _ _ _); (first | refine SLl.pu rfl rfl rfl (Pu.add rfl rfl (IntWalk.i64_in _ (by omega))) ?_ | (refine SLl.cmp rfl rfl rfl rfl rfl rfl ?_ ?_ <;> intro hq <;> simp only [cmpP] at hq <;> try ((exfalso; omega))))))) | (first | refine SLc.seq ?_ | refine SLc.region rfl ?_ | refine SLc.condF rfl ?_ | refine SLc.exit ?_)))
  refine SLl.seq rfl rfl (SLo.call plain45 rfl (SLf.ent .into (SLf.mono (RunLim W [] sb b pv lv) ?_)))
  rintro v σ2 ⟨lv', m, hm, rfl, rfl⟩
  (repeat' (first | (first | refine SLl.nil ?_ | ((show SLl _ _ _ _ _ (⟨⟨_, _, _, _, _, _⟩, _, _⟩ :: _) _ _ _); refine SLl.ev rfl rfl rfl rfl ?_)) | (first | refine SLc.seq ?_ | refine SLc.region rfl ?_)))
  refine SLl.seq rfl rfl (SLo.call plain36 rfl (SLf.mono (Go_f1 W _ _ sb pv lv' m (.func 48) #[] #[] (by omega)) ?_))
  rintro v σ2 ⟨rfl, rfl⟩
  (repeat' (first | (first | refine SLl.nil ?_ | ((show SLl _ _ _ _ _ (⟨⟨_, _, _, _, _, _⟩, _, _⟩ :: _) _ _ _); first | refine SLl.ev rfl rfl rfl rfl ?_ | ((show SLl _ _ _ _ _ (⟨⟨_, .load _ _, _, _, _, _⟩, _, _⟩ :: _) _ _ _); (refine SLl.rdSeq rfl rfl (Rd.load rfl rfl (by ((apply Reads.blk; (· (repeat (apply Sel.here))); (· rfl))))) ?_)) | ((show SLl _ _ _ _ _ (⟨⟨_, .binOp _ _ _ _ _, _, _, _, _⟩, _, _⟩ :: _) _ _ _); ((refine SLl.cmp rfl rfl rfl rfl rfl rfl ?_ ?_ <;> intro hq <;> simp only [cmpP] at hq <;> try (exact (hq trivial).elim)))))) | (first | refine SLc.seq ?_ | refine SLc.region rfl ?_ | refine SLc.ret ?_)))
  exact And.intro rfl (Exists.intro _ (Exists.intro [] (And.intro rfl (And.intro .drop rfl))))
end Go.Sl
