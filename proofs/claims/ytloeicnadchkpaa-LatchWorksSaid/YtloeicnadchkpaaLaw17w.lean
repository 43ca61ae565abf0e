/- backstitchlaw17.LatchWorks: what the tasks do; how they run. -/
import Derived.Test.YtloeicnadchkpaaLaw17a
import Derived.Test.YtloeicnadchkpaaZip
namespace Go.Sl
open Go.Proofs
attribute [local irreducible] SLc SLl SLo SLf Pu Rd

theorem Down_in3 (W : World) (c1 c2 c3 : Chunk) (F : List Chunk) (lb sb : Nat) (qv pv lv : Value) (L : Lat) (m : Sch) (h0 : 0 ≤ L.left) (h1 : L.left ≤ 9223372036854775807) (hl : L.queue.length ≤ 100000) :
    SLf Try.prog W 72 [ptr lb] (c1 :: c2 :: c3 :: (latC lb sb qv L ++ (schC sb pv lv m ++ F))) (fun r σ => ∃ qv', r = .int .i64 (downM L m).1 ∧ σ = c1 :: c2 :: c3 :: (latC lb sb qv' (downM L m).2.1 ++ (schC sb pv lv (downM L m).2.2 ++ F))) := by
  refine SLf.ent (.trans .in3 (.left _ .in3)) (SLf.to (Down_ok W (c1 :: c2 :: c3 :: F) lb sb qv pv lv L m h0 h1 hl) ?_)
  rintro v σ ⟨q, rfl, rfl⟩
  exact ⟨_, .trans (.left _ .out3) .out3, q, rfl, rfl⟩
theorem Await_in4 (W : World) (c1 c2 c3 c4 : Chunk) (F : List Chunk) (lb sb : Nat) (qv : Value) (L : Lat) (id : Int) (hl : L.queue.length ≤ 100000) :
    SLf Try.prog W 70 [ptr lb, .int .i64 id] (c1 :: c2 :: c3 :: c4 :: (latC lb sb qv L ++ F)) (fun r σ => ∃ qv', r = .bool (awaitM L id).1 ∧ σ = c1 :: c2 :: c3 :: c4 :: (latC lb sb qv' (awaitM L id).2 ++ F)) := by
  refine SLf.ent .in4 (SLf.to (Await_ok W (c1 :: c2 :: c3 :: c4 :: F) lb sb qv L id hl) ?_)
  rintro v σ ⟨q, rfl, rfl⟩
  exact ⟨_, .out4, q, rfl, rfl⟩
theorem Now_in4L (W : World) (c1 c2 c3 c4 : Chunk) (G F : List Chunk) (b : Nat) (pv lv : Value) (m : Sch) : SLf Try.prog W 55 [ptr b] (c1 :: c2 :: c3 :: c4 :: (G ++ (schC b pv lv m ++ F))) (fun r σ => r = .int .i64 m.now ∧ σ = c1 :: c2 :: c3 :: c4 :: (G ++ (schC b pv lv m ++ F))) := Now_mid W (c1 :: c2 :: c3 :: c4 :: G) F b pv lv m
theorem Wait17_ok (W : World) (F : List Chunk) (xl xs db ab lb sb : Nat) (q pv lv : Value) (L : Lat) (m : Sch) (done : Nat) (at_ : Int) (hl : L.queue.length ≤ 100000) (hnow : m.now = 0) :
    SLf Try.prog W 69 [ptr xl, ptr xs, ptr db, ptr ab] (.blk xl 108 [ptr lb] :: .blk xs 49 [ptr sb] :: .blk db 3 [.int .i64 (done : Int)] :: .blk ab 3 [.int .i64 at_] :: (latC lb sb q L ++ (schC sb pv lv m ++ F)))
      (fun v σ => ∃ q', v = .int .i64 (if (awaitM L 0).1 then 3 else 2) ∧ σ = .blk xl 108 [ptr lb] :: .blk xs 49 [ptr sb] :: .blk db 3 [.int .i64 (done : Int)] :: .blk ab 3 [.int .i64 (if (awaitM L 0).1 then (done : Int) else at_)] :: (latC lb sb q' (awaitM L 0).2 ++ (schC sb pv lv m ++ F))) := by
  refine SLf.enter Try.func69 rfl (Nat.le_of_ble_eq_true rfl) ?_
  (repeat' (first | (first | refine SLl.nil ?_ | ((show SLl _ _ _ _ _ (⟨⟨_, _, _, _, _, _⟩, _, _⟩ :: _) _ _ _); refine SLl.ev rfl rfl rfl rfl ?_)) | (first | refine SLc.seq ?_ | refine SLc.region rfl ?_)))
  refine SLc.draws [.blk xl 108 [ptr lb], .blk xs 49 [ptr sb]] [(0, .take), (1, .take), (2, .eff true), (3, .eff true), (4, .take)] mixed (by kernel_rfl) (.cons .here (.cons .here .drop)) ?_
  (repeat' ((((show SLl _ _ _ _ _ (⟨⟨_, _, _, _, _, _⟩, _, _⟩ :: _) _ _ _); ((show SLl _ _ _ _ _ (⟨⟨_, .load _ _, _, _, _, _⟩, _, _⟩ :: _) _ _ _); (refine SLl.rdTake rfl rfl (Rd.load rfl rfl (by ((apply Reads.blk; (· (repeat (first | apply Sel.here | apply Sel.there))); (· rfl))))) ?_))))))
  refine SLl.eff rfl rfl (SLo.call plain55 rfl (SLf.mono (Now_in4L W _ _ _ _ _ F sb pv lv m) ?_))
  rintro v σ ⟨rfl, rfl⟩
  refine And.intro (fun _ => .cons .here (.cons .here .drop)) ?_
  rw [hnow]
  refine SLl.eff rfl rfl (SLo.call plain70 rfl (SLf.mono (Await_in4 W _ _ _ _ _ lb sb q L 0 hl) ?_))
  rintro v σ ⟨q', rfl, rfl⟩
  refine And.intro (fun _ => .cons .here (.cons .here .drop)) ?_
  cases (awaitM L 0).1
  all_goals
    (repeat' (first | (first | refine SLl.nil ?_ | ((show SLl _ _ _ _ _ (⟨⟨_, _, _, _, _, _⟩, _, _⟩ :: _) _ _ _); refine SLl.ev rfl rfl rfl rfl ?_)) | (first | refine SLc.seq ?_ | refine SLc.region rfl ?_ | refine SLc.condT rfl ?_ | refine SLc.condF rfl ?_ | refine SLc.skip ?_ | refine SLc.ret ?_)))
    (repeat' (first | (first | refine SLl.nil ?_ | ((show SLl _ _ _ _ _ (⟨⟨_, _, _, _, _, _⟩, _, _⟩ :: _) _ _ _); first | refine SLl.ev rfl rfl rfl rfl ?_ | ((show SLl _ _ _ _ _ (⟨⟨_, .load _ _, _, _, _, _⟩, _, _⟩ :: _) _ _ _); (refine SLl.rdSeq rfl rfl (Rd.load rfl rfl (by ((apply Reads.blk; (· (repeat (first | apply Sel.here | apply Sel.there))); (· rfl))))) ?_)) | ((show SLl _ _ _ _ _ (⟨⟨_, .store _ _ _, _, _, _, _⟩, _, _⟩ :: _) _ _ _); ((refine SLl.seq0 rfl (SLo.store rfl rfl rfl (by (exact One.lit rfl)) (by ((apply Wr.blk; (· (repeat (first | apply Upd.here | apply Upd.there))); (· exact Nat.le_of_ble_eq_true rfl)))) ?_)))))) | (first | refine SLc.seq ?_ | refine SLc.region rfl ?_ | refine SLc.ret ?_)))
    exact And.intro rfl (Exists.intro _ (Exists.intro _ (And.intro rfl (And.intro .refl (Exists.intro q' (And.intro rfl rfl))))))
theorem Work17_ok (W : World) (F : List Chunk) (xl db b lb sb : Nat) (q pv lv : Value) (L : Lat) (m : Sch) (done x : Nat) (h0 : 0 ≤ L.left) (h1 : L.left ≤ 9223372036854775807) (hl : L.queue.length ≤ 100000) (hd : done ≤ 1000000) (hx : x ≤ 1000000) :
    SLf Try.prog W 71 [ptr db, ptr xl, ptr b] (.blk db 3 [.int .i64 (done : Int)] :: .blk xl 108 [ptr lb] :: .blk b 3 [.int .i64 ((x + 1 : Nat) : Int)] :: (latC lb sb q L ++ (schC sb pv lv m ++ F)))
      (fun v σ => ∃ q', v = .int .i64 (if x = 0 then 3 else 1) ∧ σ = .blk db 3 [.int .i64 ((done + 1 : Nat) : Int)] :: .blk xl 108 [ptr lb] :: .blk b 3 [.int .i64 (x : Int)] :: (latC lb sb q' (downM L m).2.1 ++ (schC sb pv lv (downM L m).2.2 ++ F))) := by
  refine SLf.enter Try.func71 rfl (Nat.le_of_ble_eq_true rfl) ?_
  (repeat' (first | (first | refine SLl.nil ?_ | ((show SLl _ _ _ _ _ (⟨⟨_, _, _, _, _, _⟩, _, _⟩ :: _) _ _ _); first | refine SLl.ev rfl rfl rfl rfl ?_ | ((show SLl _ _ _ _ _ (⟨⟨_, .load _ _, _, _, _, _⟩, _, _⟩ :: _) _ _ _); (refine SLl.rdSeq rfl rfl (Rd.load rfl rfl (by ((apply Reads.blk; (· (repeat (first | apply Sel.here | apply Sel.there))); (· rfl))))) ?_)) | ((show SLl _ _ _ _ _ (⟨⟨_, .binOp _ _ _ _ _, _, _, _, _⟩, _, _⟩ :: _) _ _ _); (refine SLl.pu rfl rfl rfl (Pu.add rfl rfl (IntWalk.i64_in _ (by omega))) ?_)) | ((show SLl _ _ _ _ _ (⟨⟨_, .store _ _ _, _, _, _, _⟩, _, _⟩ :: _) _ _ _); ((refine SLl.seq0 rfl (SLo.store rfl rfl rfl (by (exact One.lit rfl)) (by ((apply Wr.blk; (· (repeat (apply Upd.here))); (· exact Nat.le_of_ble_eq_true rfl)))) ?_)))))) | (first | refine SLc.seq ?_ | refine SLc.region rfl ?_)))
  refine SLl.seq rfl rfl (SLo.call plain72 rfl (SLf.mono (Down_in3 W _ _ _ F lb sb q pv lv L m h0 h1 hl) ?_))
  rintro v σ ⟨q', rfl, rfl⟩
  have e : ((x + 1 : Nat) : Int) - 1 = x := by omega
  by_cases hx0 : x = 0
  all_goals
    first | rw [if_pos hx0] | rw [if_neg hx0]
    (repeat' (first | (first | refine SLl.nil ?_ | ((show SLl _ _ _ _ _ (⟨⟨_, _, _, _, _, _⟩, _, _⟩ :: _) _ _ _); first | refine SLl.ev rfl rfl rfl rfl ?_ | ((show SLl _ _ _ _ _ (⟨⟨_, .load _ _, _, _, _, _⟩, _, _⟩ :: _) _ _ _); (refine SLl.rdSeq rfl rfl (Rd.load rfl rfl (by ((apply Reads.blk; (· (repeat (first | apply Sel.here | apply Sel.there))); (· rfl))))) ?_)) | ((show SLl _ _ _ _ _ (⟨⟨_, .binOp _ _ _ _ _, _, _, _, _⟩, _, _⟩ :: _) _ _ _); (first | refine SLl.pu rfl rfl rfl (Pu.sub rfl rfl (IntWalk.i64_in _ (by omega))) ?_ | (refine SLl.cmp rfl rfl rfl rfl rfl rfl ?_ ?_ <;> intro hq <;> simp only [cmpP] at hq <;> try ((exfalso; omega))))) | ((show SLl _ _ _ _ _ (⟨⟨_, .store _ _ _, _, _, _, _⟩, _, _⟩ :: _) _ _ _); ((refine SLl.seq0 rfl (SLo.store rfl rfl rfl (by (exact One.lit rfl)) (by ((apply Wr.blk; (· (repeat (first | apply Upd.here | apply Upd.there))); (· exact Nat.le_of_ble_eq_true rfl)))) ?_)))))) | (first | refine SLc.seq ?_ | refine SLc.region rfl ?_ | refine SLc.condT rfl ?_ | refine SLc.condF rfl ?_ | refine SLc.skip ?_ | refine SLc.ret ?_)))
    refine And.intro rfl (Exists.intro _ (Exists.intro _ (And.intro rfl (And.intro ?_ (Exists.intro q' (And.intro rfl rfl))))))
    dsimp only [List.set_cons_zero]
    rw [e]
    exact .refl
structure LW where
  q : Value
  L : Lat
  done : Nat
  at_ : Int
  lefts : List Nat
  c0 : Nat
def lfC (p : Nat × Nat) : Chunk := .blk p.1 3 [.int .i64 (p.2 : Int)]
def lwC (xl xs db ab lb sb : Nat) (B : List Nat) (a : LW) : List Chunk :=
  .blk xl 108 [ptr lb] :: .blk xs 49 [ptr sb] :: .blk db 3 [.int .i64 (a.done : Int)] :: .blk ab 3 [.int .i64 a.at_] :: (latC lb sb a.q a.L ++ (List.zipWith Prod.mk B a.lefts).map lfC)
def mkW (wv : Nat → Value) (b x : Nat) : Task := ⟨wv b, false, decide (x = 0), false⟩
def lwM (P : List Nat) (v0 : Value) (wv : Nat → Value) (B : List Nat) (wa dn : Bool) (a : LW) : Sch := ⟨P, ⟨v0, wa, dn, false⟩ :: List.zipWith (mkW wv) B a.lefts, a.done + a.c0, -1, true⟩
structure LwI (P : List Nat) (v0 : Value) (wv : Nat → Value) (B : List Nat) (T : Nat) (m : Sch) (a : LW) : Prop where
  len : a.lefts.length = B.length
  few : B.length ≤ 40
  picks : ∀ n ∈ P, n < 256
  sum : a.done + a.lefts.sum = T
  tot : T ≤ 1000
  left : a.L.left = (a.lefts.sum : Nat)
  ql : a.L.queue.length ≤ 1
  st : (m = lwM P v0 wv B false false a ∧ a.L.queue = [] ∧ (a.c0 = 0 ∨ a.c0 = 1 ∧ a.lefts.sum = 0)) ∨ (m = lwM P v0 wv B true false a ∧ a.L.queue = [0] ∧ 0 < a.lefts.sum ∧ a.c0 = 1) ∨ (m = lwM P v0 wv B false true a ∧ a.at_ = (T : Int) ∧ a.lefts.sum = 0 ∧ a.c0 ≤ 2)
def lwS (m : Sch) (a : LW) (i : Nat) (said : Int) (m' : Sch) (a' : LW) : Prop :=
  (i = 0 ∧ a.L.left = 0 ∧ said = 3 ∧ m' = setNow m i ∧ ∃ q', a' = ⟨q', a.L, a.done, a.done, a.lefts, a.c0 + 1⟩) ∨
  (i = 0 ∧ a.L.left ≠ 0 ∧ said = 2 ∧ m' = setNow m i ∧ ∃ q', a' = ⟨q', (awaitM a.L 0).2, a.done, a.at_, a.lefts, a.c0 + 1⟩) ∨
  (∃ j x q', i = j + 1 ∧ a.lefts[j]? = some (x + 1) ∧ said = (if x = 0 then 3 else 1) ∧ m' = (downM a.L (setNow m i)).2.2 ∧ a' = ⟨q', (downM a.L (setNow m i)).2.1, a.done + 1, a.at_, a.lefts.set j x, a.c0⟩)
section
variable {P : List Nat} {v0 : Value} {wv : Nat → Value} {B : List Nat} {T : Nat} {m : Sch} {a : LW}
theorem lw_form (h : LwI P v0 wv B T m a) : ∃ wa dn, m = lwM P v0 wv B wa dn a ∧ a.c0 ≤ 2 := by
  rcases h.st with ⟨e, _, h1⟩ | ⟨e, _, _, h1⟩ | ⟨e, _, _, h1⟩
  · exact ⟨_, _, e, by omega⟩
  · exact ⟨_, _, e, by omega⟩
  · exact ⟨_, _, e, h1⟩
theorem lw_len (h : LwI P v0 wv B T m a) : m.tasks.length = B.length + 1 := by
  obtain ⟨wa, dn, rfl, _⟩ := lw_form h
  have := h.len
  simp only [lwM, List.length_cons, List.length_zipWith]
  omega
theorem lw_ok (hv : v0.oneCell' = true) (hw : ∀ b, (wv b).oneCell' = true) (h : LwI P v0 wv B T m a) : SchOk m ∧ ∀ n ∈ m.picks, n < 256 := by
  refine ⟨⟨fun t ht => ?_, by rw [lw_len h]; have := h.few; omega⟩, ?_⟩
  · obtain ⟨wa, dn, rfl, _⟩ := lw_form h
    simp only [lwM, List.mem_cons] at ht
    rcases ht with rfl | ht
    · exact hv
    · obtain ⟨j, hj⟩ := List.mem_iff_getElem?.1 ht
      obtain ⟨b, x, _, _, rfl⟩ := zip_get hj
      exact hw b
  · obtain ⟨wa, dn, rfl, _⟩ := lw_form h
    exact h.picks
/-- One of the workers steps. -/
theorem lw_work {wa dn : Bool} {a' : LW} {j x b : Nat} (hj : a.lefts[j]? = some (x + 1)) (hb : B[j]? = some b) (hd : a'.done = a.done + 1) (hc : a'.c0 = a.c0) (hl : a'.lefts = a.lefts.set j x) :
    afterStep (setNow (lwM P v0 wv B wa dn a) (j + 1)) (j + 1) (if x = 0 then 3 else 1) = lwM P v0 wv B wa dn a' := by
  have ht : (setNow (lwM P v0 wv B wa dn a) (j + 1)).tasks[j + 1]? = some (mkW wv b (x + 1)) := zip_at hb hj
  have hs : saidT (if x = 0 then 3 else 1) (mkW wv b (x + 1)) = mkW wv b x := by cases x <;> simp [saidT, mkW]
  unfold afterStep
  rw [ht]
  dsimp only
  rw [hs]
  simp only [setNow, lwM, List.set_cons_succ, hd, hc, hl]
  rw [zip_set hb]
  simp only [show a.done + a.c0 + 1 = a.done + 1 + a.c0 by omega]
theorem lw_client (hv : v0.oneCell' = true) (hw : ∀ b, (wv b).oneCell' = true) : Client (LwI P v0 wv B T) lwS := by
  refine ⟨fun m a h => lw_ok hv hw h, ?_⟩
  intro m a i said m' a' h hp hS
  obtain ⟨t, hti, htr⟩ := picked_runs hp
  have hlen := h.len
  have hsum := h.sum
  have htot := h.tot
  have hleft := h.left
  have hml := lw_len h
  obtain ⟨_, _, hform, hc2⟩ := lw_form h
  have hmade : m.made = a.done + a.c0 := by rw [hform]; rfl
  rcases hS with ⟨rfl, hl, rfl, rfl, q', rfl⟩ | ⟨rfl, hl, rfl, rfl, q', rfl⟩ | ⟨j, x, q', rfl, hj, rfl, rfl, rfl⟩
  · refine ⟨by simp only [setNow]; omega, by simp only [setNow]; omega, h.len, h.few, h.picks, h.sum, h.tot, h.left, h.ql, ?_⟩
    rcases h.st with ⟨rfl, hq, hc⟩ | ⟨rfl, hq, hs, hc⟩ | ⟨rfl, _⟩
    · refine .inr (.inr ⟨?_, ?_, ?_, ?_⟩)
      · rfl
      · dsimp only; omega
      · dsimp only; omega
      · dsimp only; omega
    · omega
    · simp only [lwM, List.getElem?_cons_zero, Option.some.injEq] at hti
      subst hti
      simp [runsT] at htr
  · rcases h.st with ⟨rfl, hq, hc⟩ | ⟨rfl, hq, hs, hc⟩ | ⟨rfl, _⟩
    · have haw : (awaitM a.L 0).2 = ⟨a.L.left, [0]⟩ := by simp [awaitM, hl, hq]
      refine ⟨by simp only [setNow]; omega, by simp only [setNow]; omega, h.len, h.few, h.picks, h.sum, h.tot, ?_, by dsimp only; rw [haw]; exact Nat.le_refl _, ?_⟩
      · dsimp only; rw [haw]; exact h.left
      · refine .inr (.inl ⟨?_, ?_, ?_, ?_⟩)
        · rfl
        · dsimp only; rw [haw]
        · dsimp only; omega
        · dsimp only; omega
    · simp only [lwM, List.getElem?_cons_zero, Option.some.injEq] at hti
      subst hti
      simp [runsT] at htr
    · simp only [lwM, List.getElem?_cons_zero, Option.some.injEq] at hti
      subst hti
      simp [runsT] at htr
  · have hjl := (List.getElem?_eq_some_iff.1 hj).1
    have hb : B[j]? = some (B[j]'(by omega)) := List.getElem?_eq_getElem (by omega)
    generalize B[j]'(by omega) = b at hb
    have hs := sum_upd (b := x) hj
    have hpos := sum_mem (List.mem_of_getElem? hj)
    by_cases h1 : 1 < a.L.left
    · have hd : downM a.L (setNow m (j + 1)) = (a.L.left - 1, ⟨a.L.left - 1, a.L.queue⟩, setNow m (j + 1)) := by
        have : ¬ a.L.left = 0 := by omega
        simp [downM, h1, this]
      rw [hd]
      dsimp only
      refine ⟨by simp only [setNow]; omega, by simp only [setNow]; omega, by simpa using h.len, h.few, h.picks, by dsimp only; omega, h.tot, by dsimp only; omega, h.ql, ?_⟩
      rcases h.st with ⟨rfl, hq, hc⟩ | ⟨rfl, hq, hs', hc⟩ | ⟨rfl, _, hz, _⟩
      · exact .inl ⟨lw_work hj hb rfl rfl rfl, hq, by dsimp only; omega⟩
      · exact .inr (.inl ⟨lw_work hj hb rfl rfl rfl, hq, by dsimp only; omega, hc⟩)
      · omega
    · have hd : downM a.L (setNow m (j + 1)) = (0, ⟨0, []⟩, wakeAll (setNow m (j + 1)) a.L.queue) := by
        have : ¬ a.L.left = 0 := by omega
        simp [downM, h1, this]
      rw [hd]
      dsimp only
      rcases h.st with ⟨rfl, hq, hc⟩ | ⟨rfl, hq, hs', hc⟩ | ⟨rfl, _, hz, _⟩
      · rw [hq]
        have hwk : wakeAll (setNow (lwM P v0 wv B false false a) (j + 1)) [] = setNow (lwM P v0 wv B false false a) (j + 1) := rfl
        rw [hwk]
        refine ⟨by simp only [setNow]; omega, by simp only [setNow]; omega, by simpa using h.len, h.few, h.picks, by dsimp only; omega, h.tot, by dsimp only; omega, Nat.zero_le _, ?_⟩
        exact .inl ⟨lw_work hj hb rfl rfl rfl, rfl, by dsimp only; omega⟩
      · rw [hq]
        have hwk : wakeAll (setNow (lwM P v0 wv B true false a) (j + 1)) [0] = setNow (lwM P v0 wv B false false a) (j + 1) := by
          have hth : thereM (setNow (lwM P v0 wv B true false a) (j + 1)) 0 = true := by simp [thereM, setNow, lwM]
          simp only [wakeAll, List.foldl_cons, List.foldl_nil, wakeM, hth, if_true]
          rfl
        rw [hwk]
        refine ⟨by simp only [setNow, lwM, List.length_cons, List.length_zipWith]; omega, by simp only [setNow, lwM]; omega, by simpa using h.len, h.few, h.picks, by dsimp only; omega, h.tot, by dsimp only; omega, Nat.zero_le _, ?_⟩
        exact .inl ⟨lw_work hj hb rfl rfl rfl, rfl, by dsimp only; omega⟩
      · omega
theorem lw_runs {m0 : Sch} {a0 : LW} {n : Nat} (h : RunTo lwS m0 a0 n m a) : a.done + a.c0 = a0.done + a0.c0 + n := by
  induction h with
  | zero => rfl
  | step _ _ hs ih =>
    rcases hs with ⟨_, _, _, _, q', rfl⟩ | ⟨_, _, _, _, q', rfl⟩ | ⟨j, x, q', _, _, _, _, rfl⟩
    all_goals
      dsimp only
      omega
theorem lw_ends (h : LwI P v0 wv B T m a) (hc : canN m = []) : a.done = T ∧ a.at_ = (T : Int) ∧ a.L.left = 0 ∧ openN m = 0 ∧ errM m = 0 := by
  have hz : ∀ y ∈ a.lefts, y = 0 := by
    intro y hy
    obtain ⟨j, hj⟩ := List.mem_iff_getElem?.1 hy
    cases y with
    | zero => rfl
    | succ y =>
      have hjl := (List.getElem?_eq_some_iff.1 hj).1
      have hlen := h.len
      have hb : B[j]? = some (B[j]'(by omega)) := List.getElem?_eq_getElem (by omega)
      obtain ⟨wa, dn, rfl, _⟩ := lw_form h
      have h1 : (lwM P v0 wv B wa dn a).tasks[j + 1]? = some (mkW wv (B[j]'(by omega)) (y + 1)) := zip_at hb hj
      exact absurd hc (can_has h1 (by simp [runsT, mkW]))
  have hs := sum_noughts hz
  have hsum := h.sum
  have hleft := h.left
  rcases h.st with ⟨rfl, hq, hc0⟩ | ⟨rfl, hq, hs', hc0⟩ | ⟨rfl, ha, _, _⟩
  · exact absurd hc (can_has (i := 0) rfl rfl)
  · omega
  · have ho : openN (lwM P v0 wv B false true a) = 0 := open_none fun t ht => by
      simp only [lwM, List.mem_cons] at ht
      rcases ht with rfl | ht
      · rfl
      · obtain ⟨j, hj⟩ := List.mem_iff_getElem?.1 ht
        obtain ⟨b, x, _, hx, rfl⟩ := zip_get hj
        have := hz x (List.mem_of_getElem? hx)
        simp [mkW, this]
    exact ⟨by omega, ha, by omega, ho, by simp [errM, hc, ho]⟩
end
end Go.Sl
