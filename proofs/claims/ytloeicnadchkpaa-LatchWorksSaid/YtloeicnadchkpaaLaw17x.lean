/- backstitchlaw17.LatchWorks: the law's walk. -/
import Derived.Test.YtloeicnadchkpaaLaw17w
namespace Go.Sl
open Go.Proofs
attribute [local irreducible] SLc SLl SLo SLf Pu Rd

def waitV (xl xs db ab : Nat) : Value := .func (.func 69) #[] #[ptr xl, ptr xs, ptr db, ptr ab]
def workV (db xl b : Nat) : Value := .func (.func 71) #[] #[ptr db, ptr xl, ptr b]
theorem lw_spec (W : World) (xl xs db ab lb sb : Nat) (pv : Value) (P B : List Nat) (T : Nat) (F : List Chunk) :
    StepSpec W sb pv (fun a => lwC xl xs db ab lb sb B a ++ F) (LwI P (waitV xl xs db ab) (workV db xl) B T) lwS := by
  intro m a lv i t h hpi hti htr
  have hlen := h.len
  have hsum := h.sum
  have htot := h.tot
  have hleft := h.left
  have hql := h.ql
  cases i with
  | zero =>
    have hst : t.step = waitV xl xs db ab := by
      obtain ⟨wa, dn, rfl, _⟩ := lw_form h
      simp only [lwM, List.getElem?_cons_zero, Option.some.injEq] at hti
      subst hti
      rfl
    refine ⟨69, [], [ptr xl, ptr xs, ptr db, ptr ab], hst, plain69, ?_⟩
    refine SLf.ent (σ' := .blk xl 108 [ptr lb] :: .blk xs 49 [ptr sb] :: .blk db 3 [.int .i64 (a.done : Int)] :: .blk ab 3 [.int .i64 a.at_] :: (latC lb sb a.q a.L ++ (schC sb pv lv (setNow m 0) ++ ((List.zipWith Prod.mk B a.lefts).map lfC ++ F)))) ?_ (SLf.to (Wait17_ok W _ xl xs db ab lb sb a.q pv lv a.L (setNow m 0) a.done a.at_ (by omega) rfl) ?_)
    · refine .trans (b := schC sb pv lv (setNow m 0) ++ (.blk xl 108 [ptr lb] :: .blk xs 49 [ptr sb] :: .blk db 3 [.int .i64 (a.done : Int)] :: .blk ab 3 [.int .i64 a.at_] :: (latC lb sb a.q a.L ++ ((List.zipWith Prod.mk B a.lefts).map lfC ++ F)))) (.left _ (.perm ?_)) (.trans .out4 (.cons .here (.cons .here (.cons .here (.cons .here .swp)))))
      simp only [lwC, List.cons_append, List.append_assoc]
      exact .refl _
    rintro v σ ⟨q', rfl, rfl⟩
    have hback : ∀ (at2 : Int) (L2 : Lat), Ent (.blk xl 108 [ptr lb] :: .blk xs 49 [ptr sb] :: .blk db 3 [.int .i64 (a.done : Int)] :: .blk ab 3 [.int .i64 at2] :: (latC lb sb q' L2 ++ (schC sb pv lv (setNow m 0) ++ ((List.zipWith Prod.mk B a.lefts).map lfC ++ F)))) (schC sb pv lv (setNow m 0) ++ (lwC xl xs db ab lb sb B ⟨q', L2, a.done, at2, a.lefts, a.c0 + 1⟩ ++ F)) := fun at2 L2 => by
      refine .trans (.cons .here (.cons .here (.cons .here (.cons .here .swp)))) (.trans .in4 (.left _ (.perm ?_)))
      simp only [lwC, List.cons_append, List.append_assoc]
      exact .refl _
    by_cases hz : a.L.left = 0
    · have haw : awaitM a.L 0 = (true, a.L) := by simp [awaitM, hz]
      rw [haw]
      exact ⟨_, hback _ _, 3, lv, _, ⟨q', a.L, a.done, a.done, a.lefts, a.c0 + 1⟩, rfl, rfl, .inl ⟨rfl, hz, rfl, rfl, q', rfl⟩⟩
    · have haw : (awaitM a.L 0).1 = false := by simp only [awaitM, if_neg hz]; split <;> rfl
      rw [haw]
      exact ⟨_, hback _ _, 2, lv, _, ⟨q', (awaitM a.L 0).2, a.done, a.at_, a.lefts, a.c0 + 1⟩, rfl, rfl, .inr (.inl ⟨rfl, hz, rfl, rfl, q', rfl⟩)⟩
  | succ j =>
    have hjl : j < B.length := by have := (List.getElem?_eq_some_iff.1 hti).1; rw [lw_len h] at this; omega
    have hb : B[j]? = some B[j] := List.getElem?_eq_getElem hjl
    have hx : a.lefts[j]? = some (a.lefts[j]'(by omega)) := List.getElem?_eq_getElem (by omega)
    generalize B[j] = b at hb
    generalize a.lefts[j]'(by omega) = y at hx
    have htt : t = mkW (workV db xl) b y := by
      obtain ⟨wa, dn, rfl, _⟩ := lw_form h
      simp only [lwM, List.getElem?_cons_succ] at hti
      rw [zip_at hb hx] at hti
      simpa using hti.symm
    subst htt
    cases y with
    | zero => simp [runsT, mkW] at htr
    | succ x =>
    have hp : (List.zipWith Prod.mk B a.lefts)[j]? = some (b, x + 1) := zip_at hb hx
    have hpl := (List.getElem?_eq_some_iff.1 hp).1
    have hpos := sum_mem (List.mem_of_getElem? hx)
    have hzs : (List.zipWith Prod.mk B a.lefts).set j (b, x) = List.zipWith Prod.mk B (a.lefts.set j x) := zip_set hb
    refine ⟨71, [], [ptr db, ptr xl, ptr b], rfl, plain71, ?_⟩
    refine SLf.ent (σ' := .blk db 3 [.int .i64 (a.done : Int)] :: .blk xl 108 [ptr lb] :: .blk b 3 [.int .i64 ((x + 1 : Nat) : Int)] :: (latC lb sb a.q a.L ++ (schC sb pv lv (setNow m (j + 1)) ++ (.blk xs 49 [ptr sb] :: .blk ab 3 [.int .i64 a.at_] :: (((List.zipWith Prod.mk B a.lefts).eraseIdx j).map lfC ++ F))))) ?_
      (SLf.to (Work17_ok W _ xl db b lb sb a.q pv lv a.L (setNow m (j + 1)) a.done x (by omega) (by omega) (by omega) (by omega) (by omega)) ?_)
    · refine .trans (b := schC sb pv lv (setNow m (j + 1)) ++ (.blk xl 108 [ptr lb] :: .blk xs 49 [ptr sb] :: .blk db 3 [.int .i64 (a.done : Int)] :: .blk ab 3 [.int .i64 a.at_] :: (latC lb sb a.q a.L ++ ((List.zipWith Prod.mk B a.lefts).map lfC ++ F)))) (.left _ (.perm ?_)) (.trans .out4 ?_)
      · simp only [lwC, List.cons_append, List.append_assoc]
        exact .refl _
      · refine .cons (.there (.there .here)) (.cons .here (.cons (.there (.there (Sel.right _ (Sel.right _ (Sel.app (Sel.many (f := lfC) hp)))))) ?_))
        exact .trans .in2 (.trans (.left _ .in2) .swp)
    rintro v σ ⟨q', rfl, rfl⟩
    refine ⟨schC sb pv lv (downM a.L (setNow m (j + 1))).2.2 ++ (lwC xl xs db ab lb sb B ⟨q', (downM a.L (setNow m (j + 1))).2.1, a.done + 1, a.at_, a.lefts.set j x, a.c0⟩ ++ F), ?_, _, lv, _, ⟨q', (downM a.L (setNow m (j + 1))).2.1, a.done + 1, a.at_, a.lefts.set j x, a.c0⟩, rfl, rfl, .inr (.inr ⟨j, x, q', rfl, hx, rfl, rfl, rfl⟩)⟩
    generalize (downM a.L (setNow m (j + 1))).2.2 = m2
    generalize (downM a.L (setNow m (j + 1))).2.1 = L2
    refine .trans (b := schC sb pv lv m2 ++ (.blk xl 108 [ptr lb] :: .blk xs 49 [ptr sb] :: .blk db 3 [.int .i64 ((a.done + 1 : Nat) : Int)] :: .blk ab 3 [.int .i64 a.at_] :: (latC lb sb q' L2 ++ ((List.zipWith Prod.mk B (a.lefts.set j x)).map lfC ++ F)))) ?_ (.left _ (.perm ?_))
    · refine .trans (.cons .here (.cons .here (.cons .here (.trans .swp (.left _ .out2))))) (.trans .in3 (.left _ ?_))
      refine .cons (.there .here) (.cons (.there (.there .here)) (.cons .here (.cons (.there .here) ?_)))
      refine .trans .into (.left _ (.perm ?_))
      rw [← hzs]
      exact (perm_many (f := lfC) (p' := (b, x)) hpl).append_right F
    · simp only [lwC, List.cons_append, List.append_assoc]
      exact .refl _
theorem zip_rep {α β : Type} {y : β} : ∀ (B : List α), List.zipWith Prod.mk B (List.replicate B.length y) = B.map fun b => (b, y)
  | [] => rfl
  | b :: r => by
    rw [List.length_cons, List.replicate_succ, List.zipWith_cons_cons, zip_rep r]
    rfl
theorem zip_repW {wv : Nat → Value} {t : Nat} (ht : 0 < t) : ∀ (B : List Nat), List.zipWith (mkW wv) B (List.replicate B.length t) = B.map fun b => ⟨wv b, false, false, false⟩
  | [] => rfl
  | b :: r => by
    have : decide (t = 0) = false := by simp; omega
    rw [List.length_cons, List.replicate_succ, List.zipWith_cons_cons, zip_repW ht r, List.map_cons, mkW, this]
def iniW (P : List Nat) (v0 : Value) (wv : Nat → Value) (B : List Nat) : Sch := ⟨P, ⟨v0, false, false, false⟩ :: B.map fun b => ⟨wv b, false, false, false⟩, 0, -1, false⟩
theorem RunLw (W : World) (F : List Chunk) (xl xs db ab lb sb : Nat) (pv lv : Value) (P B : List Nat) (t : Nat) (hB : B.length ≤ 20) (ht : 0 < t) (ht5 : t ≤ 5) (hP : ∀ n ∈ P, n < 256) :
    SLf Try.prog W 45 [ptr sb, .int .i64 10000] (.blk xl 108 [ptr lb] :: .blk xs 49 [ptr sb] :: .blk db 3 [.int .i64 0] :: .blk ab 3 [.int .i64 (-1)] :: (latC lb sb (.slice none 0 0) ⟨((B.length * t : Nat) : Int), []⟩ ++ ((B.map fun b => (b, t)).map lfC ++ (schC sb pv lv (iniW P (waitV xl xs db ab) (workV db xl) B) ++ F))))
      (fun r σ => ∃ lv' m q L n, SchOk m ∧ openN m = 0 ∧ L.left = 0 ∧ r = .tuple #[.int .i64 n, .int .i64 0] ∧ σ = .blk xl 108 [ptr lb] :: .blk xs 49 [ptr sb] :: .blk db 3 [.int .i64 ((B.length * t : Nat) : Int)] :: .blk ab 3 [.int .i64 ((B.length * t : Nat) : Int)] :: (latC lb sb q L ++ (schC sb pv lv' m ++ F))) := by
  have hT : B.length * t ≤ 100 := Nat.mul_le_mul hB ht5
  generalize ha : (⟨.slice none 0 0, ⟨((B.length * t : Nat) : Int), []⟩, 0, -1, List.replicate B.length t, 0⟩ : LW) = a0
  have h0 : setRuns (iniW P (waitV xl xs db ab) (workV db xl) B) true = lwM P (waitV xl xs db ab) (workV db xl) B false false a0 := by
    subst ha
    simp only [setRuns, iniW, lwM]
    rw [zip_repW ht]
  have hsum : (List.replicate B.length t).sum = B.length * t := by simp
  have hI : LwI P (waitV xl xs db ab) (workV db xl) B (B.length * t) (setRuns (iniW P (waitV xl xs db ab) (workV db xl) B) true) a0 := by
    rw [h0]
    subst ha
    exact ⟨by simp, by omega, hP, by dsimp only; omega, by omega, by dsimp only; rw [hsum], Nat.zero_le _, .inl ⟨rfl, rfl, .inl rfl⟩⟩
  refine SLf.ent (σ' := schC sb pv lv (iniW P (waitV xl xs db ab) (workV db xl) B) ++ (lwC xl xs db ab lb sb B a0 ++ F)) ?_ (SLf.to (Run_ok W F sb pv lv (lwC xl xs db ab lb sb B) (LwI P (waitV xl xs db ab) (workV db xl) B (B.length * t)) lwS (lw_spec W xl xs db ab lb sb pv P B (B.length * t)) (lw_client rfl fun _ => rfl) (iniW P (waitV xl xs db ab) (workV db xl) B) a0 10000 hI rfl (by decide)) ?_)
  · subst ha
    refine .trans (.cons .here (.cons .here (.cons .here (.cons .here (.trans (.left _ .swp) .swp))))) (.trans .in4 (.left _ (.perm ?_)))
    simp only [lwC, zip_rep, List.cons_append, List.append_assoc]
    exact .refl _
  rintro r σ ⟨n, lv', m, a, hrun, hIm, hend, hn, rfl, rfl⟩
  have hat := lw_runs hrun
  have hc2 : a.c0 ≤ 2 := by obtain ⟨_, _, _, h⟩ := lw_form hIm; exact h
  have hs := hIm.sum
  have h00 : a0.done + a0.c0 = 0 := by subst ha; rfl
  have hcan : canN m = [] := by
    rcases hend with h | h
    · exact h
    · omega
  obtain ⟨e1, e2, e3, e4, e5⟩ := lw_ends hIm hcan
  have hok := (lw_ok rfl (fun _ => rfl) hIm).1
  refine ⟨_, ?_, lv', setRuns m false, a.q, a.L, (n : Int), ⟨hok.steps, hok.few⟩, e4, e3, by rw [e5], rfl⟩
  refine .trans (b := schC sb pv lv' (setRuns m false) ++ (.blk xl 108 [ptr lb] :: .blk xs 49 [ptr sb] :: .blk db 3 [.int .i64 ((B.length * t : Nat) : Int)] :: .blk ab 3 [.int .i64 ((B.length * t : Nat) : Int)] :: (latC lb sb a.q a.L ++ ((List.zipWith Prod.mk B a.lefts).map lfC ++ F)))) (.left _ (.perm ?_)) (.trans .out4 (.cons .here (.cons .here (.cons .here (.cons .here (.trans (.left _ (.left _ .appR)) .swp))))))
  simp only [lwC, e1, e2, List.cons_append, List.append_assoc]
  exact .refl _
theorem Go_4G (W : World) (c1 c2 c3 c4 : Chunk) (G H F : List Chunk) (b : Nat) (pv lv : Value) (m : Sch) (fn : Fn) (a1 a2 : Array Value) (hn : m.tasks.length < 128) :
    SLf Try.prog W 36 [ptr b, .func fn a1 a2] (c1 :: c2 :: c3 :: c4 :: (G ++ (H ++ (schC b pv lv m ++ F)))) (fun r σ => ∃ lv', r = .tuple #[.int .i64 (m.tasks.length : Int), .int .i64 0] ∧ σ = c1 :: c2 :: c3 :: c4 :: (G ++ (H ++ (schC b pv lv' (addTask m ⟨.func fn a1 a2, false, false, false⟩) ++ F)))) := by
  refine SLf.ent (.cons .here (.cons .here (.cons .here (.cons .here (.perm (List.append_assoc G H _ ▸ .refl _)))))) (SLf.to (Go_mid W (c1 :: c2 :: c3 :: c4 :: (G ++ H)) F b pv lv m fn a1 a2 hn) ?_)
  rintro v σ ⟨lv', rfl, rfl⟩
  exact ⟨_, .cons .here (.cons .here (.cons .here (.cons .here (.perm (List.append_assoc G H _ ▸ .refl _))))), lv', rfl, rfl⟩
theorem Go_5G (W : World) (c0 c1 c2 c3 c4 : Chunk) (G H F : List Chunk) (b : Nat) (pv lv : Value) (m : Sch) (fn : Fn) (a1 a2 : Array Value) (hn : m.tasks.length < 128) :
    SLf Try.prog W 36 [ptr b, .func fn a1 a2] (c0 :: c1 :: c2 :: c3 :: c4 :: (G ++ (H ++ (schC b pv lv m ++ F)))) (fun r σ => ∃ lv', r = .tuple #[.int .i64 (m.tasks.length : Int), .int .i64 0] ∧ σ = c0 :: c1 :: c2 :: c3 :: c4 :: (G ++ (H ++ (schC b pv lv' (addTask m ⟨.func fn a1 a2, false, false, false⟩) ++ F)))) := by
  refine SLf.ent (.cons .here (.cons .here (.cons .here (.cons .here (.cons .here (.perm (List.append_assoc G H _ ▸ .refl _))))))) (SLf.to (Go_mid W (c0 :: c1 :: c2 :: c3 :: c4 :: (G ++ H)) F b pv lv m fn a1 a2 hn) ?_)
  rintro v σ ⟨lv', rfl, rfl⟩
  exact ⟨_, .cons .here (.cons .here (.cons .here (.cons .here (.cons .here (.perm (List.append_assoc G H _ ▸ .refl _)))))), lv', rfl, rfl⟩
theorem Left_in4 (W : World) (c1 c2 c3 c4 : Chunk) (F : List Chunk) (lb sb : Nat) (qv : Value) (L : Lat) : SLf Try.prog W 73 [ptr lb] (c1 :: c2 :: c3 :: c4 :: (latC lb sb qv L ++ F)) (fun r σ => r = .int .i64 L.left ∧ σ = c1 :: c2 :: c3 :: c4 :: (latC lb sb qv L ++ F)) := by
  refine SLf.ent .in4 (SLf.to (Left_ok W (c1 :: c2 :: c3 :: c4 :: F) lb sb qv L) ?_)
  rintro v σ ⟨rfl, rfl⟩
  exact ⟨_, .out4, rfl, rfl⟩
theorem Open_4G (W : World) (c1 c2 c3 c4 : Chunk) (G F : List Chunk) (b : Nat) (pv lv : Value) (m : Sch) (hm : SchOk m) : SLf Try.prog W 46 [ptr b] (c1 :: c2 :: c3 :: c4 :: (G ++ (schC b pv lv m ++ F))) (fun r σ => r = .int .i64 (openN m : Int) ∧ σ = c1 :: c2 :: c3 :: c4 :: (G ++ (schC b pv lv m ++ F))) := Open_mid W (c1 :: c2 :: c3 :: c4 :: G) F b pv lv m hm
set_option pp.maxSteps 1000000 in
set_option pp.deepTerms true in
set_option maxHeartbeats 2000000 in
theorem Works17 (W : World) (n tn : Nat) (pv : Value) (P : List Nat) (hn : n < 256) (htn : tn < 256) (hp : Rs W [] pv 1 (u8L P)) (hP : ∀ n ∈ P, n < 256) (hpl : P.length ≤ 140737488355328) :
    SLf Try.prog W 20 [.int .u8 (n : Int), .int .u8 (tn : Int), pv] [] (fun v _ => v = .bool true) := by
  have hul := @u8L_len P
  refine SLf.enter Try.func20 rfl (Nat.le_of_ble_eq_true rfl) ?_
  (repeat' (first | (first | refine SLl.nil ?_ | ((show SLl _ _ _ _ _ (⟨⟨_, _, _, _, _, _⟩, _, _⟩ :: _) _ _ _); refine SLl.ev rfl rfl rfl rfl ?_)) | (first | refine SLc.seq ?_ | refine SLc.region rfl ?_)))
  refine SLl.seq rfl rfl (SLo.call plain67 rfl (SLf.mono (Awake17 W []) ?_))
  rintro v σ ⟨rfl, rfl⟩
  (repeat' (first | (first | refine SLl.nil ?_ | ((show SLl _ _ _ _ _ (⟨⟨_, _, _, _, _, _⟩, _, _⟩ :: _) _ _ _); first | refine SLl.ev rfl rfl rfl rfl ?_ | ((show SLl _ _ _ _ _ (⟨⟨_, .call ⟨.builtin .len, _, _⟩, _, _, _, _⟩, _, _⟩ :: _) _ _ _); refine SLl.rdSeq rfl rfl (Rd.len rfl (by ((apply Len.rs; exact Rs.mono (by assumption) (by (repeat' (exact Ent.refl))))))) ?_) | ((show SLl _ _ _ _ _ (⟨⟨_, .binOp _ _ _ _ _, _, _, _, _⟩, _, _⟩ :: _) _ _ _); ((refine SLl.cmp rfl rfl rfl rfl rfl rfl ?_ ?_ <;> intro hq <;> simp only [cmpP] at hq <;> try (fail)))))) | (first | refine SLc.seq ?_ | refine SLc.region rfl ?_ | refine SLc.condT rfl ?_ | refine SLc.condF rfl ?_ | refine SLc.skip ?_ | refine SLc.ret ?_)))
  · exact And.intro rfl (Exists.intro _ (Exists.intro [] (And.intro rfl (And.intro .drop rfl))))
  refine SLl.pu rfl rfl rfl (Pu.convInt rfl (IntWalk.i64_in _ (by omega))) ?_
  refine SLl.pu rfl rfl rfl (Pu.remN (j := 20) rfl rfl (by omega)) ?_
  refine SLl.pu rfl rfl rfl (Pu.add (r := ((1 + n % 20 : Nat) : Int)) rfl rfl (by rw [IntWalk.i64_in _ (by omega)]; omega)) ?_
  (repeat' ((((show SLl _ _ _ _ _ (⟨⟨_, _, _, _, _, _⟩, _, _⟩ :: _) _ _ _); refine SLl.ev rfl rfl rfl rfl ?_))))
  refine SLl.pu rfl rfl rfl (Pu.convInt rfl (IntWalk.i64_in _ (by omega))) ?_
  refine SLl.pu rfl rfl rfl (Pu.remN (j := 5) rfl rfl (by omega)) ?_
  refine SLl.pu rfl rfl rfl (Pu.add (r := ((1 + tn % 5 : Nat) : Int)) rfl rfl (by rw [IntWalk.i64_in _ (by omega)]; omega)) ?_
  have hk1 : 1 ≤ 1 + n % 20 := by omega
  have hk2 : 1 + n % 20 ≤ 20 := by omega
  have ht1 : 0 < 1 + tn % 5 := by omega
  have ht2 : 1 + tn % 5 ≤ 5 := by omega
  generalize 1 + n % 20 = k at hk1 hk2
  generalize 1 + tn % 5 = t at ht1 ht2
  have hkt : k * t ≤ 100 := Nat.mul_le_mul hk2 ht2
  have hmul : IntKind.i64.wrap ((k : Int) * (t : Int)) = ((k * t : Nat) : Int) := by
    rw [← Int.natCast_mul]
    exact IntWalk.i64_in _ (by omega)
  (repeat' (first | (first | refine SLl.nil ?_ | ((show SLl _ _ _ _ _ (⟨⟨_, _, _, _, _, _⟩, _, _⟩ :: _) _ _ _); refine SLl.ev rfl rfl rfl rfl ?_)) | (first | refine SLc.seq ?_ | refine SLc.region rfl ?_)))
  refine SLl.seq rfl rfl (SLo.call plain35 rfl (SLf.mono (New_ok W [] pv P hp hpl) ?_))
  rintro v σ ⟨sb, qv, rfl, rfl⟩
  (repeat' (first | (first | refine SLl.nil ?_ | ((show SLl _ _ _ _ _ (⟨⟨_, _, _, _, _, _⟩, _, _⟩ :: _) _ _ _); first | refine SLl.ev rfl rfl rfl rfl ?_ | ((show SLl _ _ _ _ _ (⟨⟨_, .load _ _, _, _, _, _⟩, _, _⟩ :: _) _ _ _); (refine SLl.rdSeq rfl rfl (Rd.load rfl rfl (by ((apply Reads.blk; (· (repeat (apply Sel.here))); (· rfl))))) ?_)) | ((show SLl _ _ _ _ _ (⟨⟨_, .store _ _ _, _, _, _, _⟩, _, _⟩ :: _) _ _ _); ((refine SLl.seq0 rfl (SLo.store rfl rfl rfl (by (exact One.lit rfl)) (by ((apply Wr.blk; (· (repeat (apply Upd.here))); (· exact Nat.le_of_ble_eq_true rfl)))) ?_)))) | ((show SLl _ _ _ _ _ (⟨⟨_, .alloc _, _, _, _, _⟩, _, _⟩ :: _) _ _ _); refine SLl.seq rfl rfl (SLo.alloc ?_); intro b))) | (first | refine SLc.seq ?_ | refine SLc.region rfl ?_)))
  rename Nat => xs
  refine SLl.pu rfl rfl rfl (Pu.mul rfl rfl hmul) ?_
  refine SLl.seq rfl rfl (SLo.call plain68 rfl (SLf.mono (LaNew_ok W _ sb ((k * t : Nat) : Int)) ?_))
  rintro v σ ⟨lb, rfl, rfl⟩
  rw [show max ((k * t : Nat) : Int) 0 = ((k * t : Nat) : Int) by omega]
  (repeat' (first | (first | refine SLl.nil ?_ | ((show SLl _ _ _ _ _ (⟨⟨_, _, _, _, _, _⟩, _, _⟩ :: _) _ _ _); first | refine SLl.ev rfl rfl rfl rfl ?_ | ((show SLl _ _ _ _ _ (⟨⟨_, .load _ _, _, _, _, _⟩, _, _⟩ :: _) _ _ _); (refine SLl.rdSeq rfl rfl (Rd.load rfl rfl (by ((apply Reads.blk; (· (repeat (first | apply Sel.here | apply Sel.there))); (· rfl))))) ?_)) | ((show SLl _ _ _ _ _ (⟨⟨_, .binOp _ _ _ _ _, _, _, _, _⟩, _, _⟩ :: _) _ _ _); (refine SLl.pu rfl rfl rfl (Pu.eqPtrNil rfl rfl) ?_)) | ((show SLl _ _ _ _ _ (⟨⟨_, .store _ _ _, _, _, _, _⟩, _, _⟩ :: _) _ _ _); ((refine SLl.seq0 rfl (SLo.store rfl rfl rfl (by (exact One.lit rfl)) (by ((apply Wr.blk; (· (repeat (first | apply Upd.here | apply Upd.there))); (· exact Nat.le_of_ble_eq_true rfl)))) ?_)))) | ((show SLl _ _ _ _ _ (⟨⟨_, .alloc _, _, _, _, _⟩, _, _⟩ :: _) _ _ _); refine SLl.seq rfl rfl (SLo.alloc ?_); intro b))) | (first | refine SLc.seq ?_ | refine SLc.region rfl ?_ | refine SLc.condF rfl ?_ | refine SLc.skip ?_)))
  rename_i xl db
  rename Nat => ab
  refine SLl.seq rfl rfl (SLo.call plain36 rfl (SLf.mono (SLf.ent (σ' := .blk xl 108 [ptr lb] :: .blk xs 49 [ptr sb] :: .blk db 3 [.int .i64 0] :: .blk ab 3 [.int .i64 (-1)] :: (latC lb sb (.slice none 0 0) ⟨((k * t : Nat) : Int), []⟩ ++ ([] ++ (schC sb qv (.slice none 0 0) ⟨P, [], 0, -1, false⟩ ++ [])))) ?_ (Go_4G W _ _ _ _ _ [] [] sb qv _ _ (.func 69) #[] #[ptr xl, ptr xs, ptr db, ptr ab] (Nat.le_of_ble_eq_true rfl))) ?_))
  · exact .cons (.there (.there .here)) (.cons (.there (.there (Sel.right _ .here))) (.cons (.there .here) (.cons .here .refl)))
  rintro v σ ⟨lv1, _, rfl⟩
  (repeat' (first | (first | refine SLl.nil ?_ | ((show SLl _ _ _ _ _ (⟨⟨_, _, _, _, _, _⟩, _, _⟩ :: _) _ _ _); refine SLl.ev rfl rfl rfl rfl ?_)) | (first | refine SLc.seq ?_ | refine SLc.region rfl ?_ | refine SLc.block ?_)))
  refine SLc.loop (ι := Nat × Value × List Nat) (fun s => [(13, .int .i64 s.1), (7, .int .i64 k), (8, .int .i64 t), (9, ptr xs), (10, ptr xl), (11, ptr db), (12, ptr ab)])
    (fun s => .blk xl 108 [ptr lb] :: .blk xs 49 [ptr sb] :: .blk db 3 [.int .i64 0] :: .blk ab 3 [.int .i64 (-1)] :: (latC lb sb (.slice none 0 0) ⟨((k * t : Nat) : Int), []⟩ ++ ((s.2.2.map fun b => (b, t)).map lfC ++ (schC sb qv s.2.1 (iniW P (waitV xl xs db ab) (workV db xl) s.2.2) ++ []))))
    (fun s => s.1 ≤ k ∧ s.2.2.length = s.1) (fun s => k - s.1) (0, lv1, []) ⟨Nat.zero_le _, rfl⟩ (by (repeat' (first | exact trivial | apply And.intro | rfl))) .refl ?_
  rintro ⟨i, lw, B⟩ ⟨hi, hBl⟩
  dsimp only at hi hBl ⊢
  by_cases hlt : i < k
  · (repeat' (first | (first | refine SLl.nil ?_ | ((show SLl _ _ _ _ _ (⟨⟨_, _, _, _, _, _⟩, _, _⟩ :: _) _ _ _); first | refine SLl.ev rfl rfl rfl rfl ?_ | ((show SLl _ _ _ _ _ (⟨⟨_, .load _ _, _, _, _, _⟩, _, _⟩ :: _) _ _ _); (refine SLl.rdSeq rfl rfl (Rd.load rfl rfl (by ((apply Reads.blk; (· (repeat (first | apply Sel.here | apply Sel.there))); (· rfl))))) ?_)) | ((show SLl _ _ _ _ _ (⟨⟨_, .binOp _ _ _ _ _, _, _, _, _⟩, _, _⟩ :: _) _ _ _); ((refine SLl.cmp rfl rfl rfl rfl rfl rfl ?_ ?_ <;> intro hq <;> simp only [cmpP] at hq <;> try ((exfalso; omega))))) | ((show SLl _ _ _ _ _ (⟨⟨_, .store _ _ _, _, _, _, _⟩, _, _⟩ :: _) _ _ _); ((refine SLl.seq0 rfl (SLo.store rfl rfl rfl (by (exact One.lit rfl)) (by ((apply Wr.blk; (· (repeat (apply Upd.here))); (· exact Nat.le_of_ble_eq_true rfl)))) ?_)))) | ((show SLl _ _ _ _ _ (⟨⟨_, .alloc _, _, _, _, _⟩, _, _⟩ :: _) _ _ _); refine SLl.seq rfl rfl (SLo.alloc ?_); intro b))) | (first | refine SLc.seq ?_ | refine SLc.region rfl ?_ | refine SLc.condT rfl ?_ | refine SLc.block ?_ | refine SLc.skip ?_)))
    refine SLl.seq rfl rfl (SLo.call plain36 rfl (SLf.mono (Go_5G W _ _ _ _ _ _ _ [] sb qv lw (iniW P (waitV xl xs db ab) (workV db xl) B) (.func 71) #[] #[ptr db, ptr xl, ptr b] (by simp only [iniW, List.length_cons, List.length_map]; omega)) ?_))
    rintro v σ ⟨lw', _, rfl⟩
    have hadd : addTask (iniW P (waitV xl xs db ab) (workV db xl) B) ⟨.func (.func 71) #[] #[ptr db, ptr xl, ptr b], false, false, false⟩ = iniW P (waitV xl xs db ab) (workV db xl) (B ++ [b]) := by simp [addTask, iniW, workV]
    rw [hadd]
    (repeat' (first | (first | refine SLl.nil ?_ | ((show SLl _ _ _ _ _ (⟨⟨_, _, _, _, _, _⟩, _, _⟩ :: _) _ _ _); first | refine SLl.ev rfl rfl rfl rfl ?_ | ((show SLl _ _ _ _ _ (⟨⟨_, .binOp _ _ _ _ _, _, _, _, _⟩, _, _⟩ :: _) _ _ _); (refine SLl.pu rfl rfl rfl (Pu.add rfl rfl (IntWalk.i64_in _ (by omega))) ?_)))) | (refine SLc.region rfl ?_)))
    refine And.intro rfl (Exists.intro (i + 1, lw', B ++ [b]) (And.intro ⟨by dsimp only; omega, by simp; omega⟩ (And.intro (by dsimp only; omega) (And.intro (by (repeat' (first | exact trivial | apply And.intro | rfl))) ?_))))
    dsimp only
    have e : ((B ++ [b]).map fun b => (b, t)).map lfC ++ (schC sb qv lw' (iniW P (waitV xl xs db ab) (workV db xl) (B ++ [b])) ++ []) = (B.map fun b => (b, t)).map lfC ++ (lfC (b, t) :: (schC sb qv lw' (iniW P (waitV xl xs db ab) (workV db xl) (B ++ [b])) ++ [])) := by simp
    rw [e]
    exact .cons (.there .here) (.cons (.there .here) (.cons (.there .here) (.cons (.there .here) (.trans .into (.left _ .into)))))
  obtain rfl : i = k := by omega
  subst hBl
  (repeat' (first | (first | refine SLl.nil ?_ | ((show SLl _ _ _ _ _ (⟨⟨_, _, _, _, _, _⟩, _, _⟩ :: _) _ _ _); first | refine SLl.ev rfl rfl rfl rfl ?_ | ((show SLl _ _ _ _ _ (⟨⟨_, .load _ _, _, _, _, _⟩, _, _⟩ :: _) _ _ _); (refine SLl.rdSeq rfl rfl (Rd.load rfl rfl (by ((apply Reads.blk; (· (repeat (first | apply Sel.here | apply Sel.there))); (· rfl))))) ?_)) | ((show SLl _ _ _ _ _ (⟨⟨_, .binOp _ _ _ _ _, _, _, _, _⟩, _, _⟩ :: _) _ _ _); ((refine SLl.cmp rfl rfl rfl rfl rfl rfl ?_ ?_ <;> intro hq <;> simp only [cmpP] at hq <;> try ((exfalso; omega))))))) | (first | refine SLc.seq ?_ | refine SLc.region rfl ?_ | refine SLc.condF rfl ?_ | refine SLc.exit ?_)))
  refine SLl.seq rfl rfl (SLo.call plain45 rfl (SLf.mono (RunLw W [] xl xs db ab lb sb qv lw P B t hk2 ht1 ht2 hP) ?_))
  rintro v σ ⟨lv', m, q, L, nn, hok, ho, hL0, rfl, rfl⟩
  (repeat' (first | (first | refine SLl.nil ?_ | ((show SLl _ _ _ _ _ (⟨⟨_, _, _, _, _, _⟩, _, _⟩ :: _) _ _ _); first | refine SLl.ev rfl rfl rfl rfl ?_ | ((show SLl _ _ _ _ _ (⟨⟨_, .load _ _, _, _, _, _⟩, _, _⟩ :: _) _ _ _); (refine SLl.rdSeq rfl rfl (Rd.load rfl rfl (by ((apply Reads.blk; (· (repeat (first | apply Sel.here | apply Sel.there))); (· rfl))))) ?_)) | ((show SLl _ _ _ _ _ (⟨⟨_, .binOp _ _ _ _ _, _, _, _, _⟩, _, _⟩ :: _) _ _ _); ((refine SLl.cmp rfl rfl rfl rfl rfl rfl ?_ ?_ <;> intro hq <;> simp only [cmpP] at hq <;> try (exact (hq trivial).elim)))))) | (first | refine SLc.seq ?_ | refine SLc.region rfl ?_)))
  refine SLl.pu rfl rfl rfl (Pu.mul rfl rfl hmul) ?_
  (repeat' ((((show SLl _ _ _ _ _ (⟨⟨_, _, _, _, _, _⟩, _, _⟩ :: _) _ _ _); first | refine SLl.ev rfl rfl rfl rfl ?_ | ((show SLl _ _ _ _ _ (⟨⟨_, .load _ _, _, _, _, _⟩, _, _⟩ :: _) _ _ _); (refine SLl.rdSeq rfl rfl (Rd.load rfl rfl (by ((apply Reads.blk; (· (repeat (first | apply Sel.here | apply Sel.there))); (· rfl))))) ?_)) | ((show SLl _ _ _ _ _ (⟨⟨_, .binOp _ _ _ _ _, _, _, _, _⟩, _, _⟩ :: _) _ _ _); ((refine SLl.cmp rfl rfl rfl rfl rfl rfl ?_ ?_ <;> intro hq <;> simp only [cmpP] at hq <;> try (exact (hq trivial).elim))))))))
  refine SLl.seq rfl rfl (SLo.call plain73 rfl (SLf.mono (Left_in4 W _ _ _ _ _ lb sb q L) ?_))
  rintro v σ ⟨rfl, rfl⟩
  rw [hL0]
  (repeat' ((((show SLl _ _ _ _ _ (⟨⟨_, _, _, _, _, _⟩, _, _⟩ :: _) _ _ _); first | refine SLl.ev rfl rfl rfl rfl ?_ | ((show SLl _ _ _ _ _ (⟨⟨_, .load _ _, _, _, _, _⟩, _, _⟩ :: _) _ _ _); (refine SLl.rdSeq rfl rfl (Rd.load rfl rfl (by ((apply Reads.blk; (· (repeat (first | apply Sel.here | apply Sel.there))); (· rfl))))) ?_)) | ((show SLl _ _ _ _ _ (⟨⟨_, .binOp _ _ _ _ _, _, _, _, _⟩, _, _⟩ :: _) _ _ _); ((refine SLl.cmp rfl rfl rfl rfl rfl rfl ?_ ?_ <;> intro hq <;> simp only [cmpP] at hq <;> try (exact (hq trivial).elim))))))))
  refine SLl.seq rfl rfl (SLo.call plain46 rfl (SLf.mono (Open_4G W _ _ _ _ _ [] sb qv lv' m hok) ?_))
  rintro v σ ⟨rfl, rfl⟩
  rw [ho]
  (repeat' (first | (first | refine SLl.nil ?_ | ((show SLl _ _ _ _ _ (⟨⟨_, _, _, _, _, _⟩, _, _⟩ :: _) _ _ _); first | refine SLl.ev rfl rfl rfl rfl ?_ | ((show SLl _ _ _ _ _ (⟨⟨_, .binOp _ _ _ _ _, _, _, _, _⟩, _, _⟩ :: _) _ _ _); ((refine SLl.cmp rfl rfl rfl rfl rfl rfl ?_ ?_ <;> intro hq <;> simp only [cmpP] at hq <;> try ((exfalso; omega))))))) | (refine SLc.ret ?_)))
  exact And.intro rfl (Exists.intro _ (Exists.intro [] (And.intro rfl (And.intro .drop rfl))))
end Go.Sl
