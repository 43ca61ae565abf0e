/- backstitchlaw15: the law's tasks run: the contract of Run for them. -/
import Derived.Test.YtloeicnadchkpaaTask15
import Derived.Test.YtloeicnadchkpaaAs15
namespace Go.Sl
open Go.Proofs
attribute [local irreducible] SLc SLl SLo SLf Pu Rd

structure TS where
  tv : Value
  told : List Nat
  tbs : List TB
def tsC (sb ob : Nat) (s : TS) : List Chunk := .blk ob 32 [s.tv] :: .row s.tv 3 1 (natL s.told) :: s.tbs.map (tbC sb ob)
def stepV (T : TB) : Value := .func (.func 51) #[ptr T.b] #[]
def Deed.abs (d : Deed) : List Nat × Nat := (d.wake, d.ans)
def absT (t : Task) (T : TB) : AT := ⟨t.waits, t.done, t.woken, T.at_, T.ds.map Deed.abs⟩
def absL (l : List Task) (r : List TB) : List AT := List.zipWith absT l r
def abs15 (m : Sch) (s : TS) : AS := ⟨m.picks, absL m.tasks s.tbs, m.made, s.told⟩
structure TI (W : World) (m : Sch) (s : TS) : Prop where
  steps : m.tasks.map Task.step = s.tbs.map stepV
  few : m.tasks.length ≤ 128
  ok : ∀ T ∈ s.tbs, TBOk W T
  aok : AOk (absL m.tasks s.tbs)
  picks : ∀ n ∈ m.picks, n < 256
  told : s.told.length = m.made
  mu : m.made + mu (absL m.tasks s.tbs) ≤ 100000
theorem TI.len {W : World} {m : Sch} {s : TS} (h : TI W m s) : m.tasks.length = s.tbs.length := by
  have := congrArg List.length h.steps
  simpa using this
theorem absL_at {l : List Task} {r : List TB} {i : Nat} {t : Task} {T : TB} (h1 : l[i]? = some t) (h2 : r[i]? = some T) : (absL l r)[i]? = some (absT t T) := by
  simp [absL, List.getElem?_zipWith, h1, h2]
theorem absL_none {l : List Task} {r : List TB} {i : Nat} (h1 : l[i]? = none) : (absL l r)[i]? = none := by
  simp [absL, List.getElem?_zipWith, h1]
theorem absL_set : ∀ {l : List Task} {r : List TB} {i : Nat} {t : Task} {T : TB}, absL (l.set i t) (r.set i T) = (absL l r).set i (absT t T)
  | [], _, _, _, _ => by simp [absL]
  | _ :: _, [], _, _, _ => by simp [absL]
  | _ :: _, _ :: _, 0, _, _ => rfl
  | a :: l, b :: r, i + 1, t, T => by
    have := absL_set (l := l) (r := r) (i := i) (t := t) (T := T)
    simp only [absL, List.set_cons_succ, List.zipWith_cons_cons] at this ⊢
    rw [this]
theorem absL_setL {l : List Task} {r : List TB} {i : Nat} {t : Task} {T : TB} (h : r[i]? = some T) : absL (l.set i t) r = (absL l r).set i (absT t T) := by
  have := absL_set (l := l) (r := r) (i := i) (t := t) (T := T)
  rwa [set_same h] at this
theorem absL_setR {l : List Task} {r : List TB} {i : Nat} {t : Task} {T : TB} (h : l[i]? = some t) : absL l (r.set i T) = (absL l r).set i (absT t T) := by
  have := absL_set (l := l) (r := r) (i := i) (t := t) (T := T)
  rwa [set_same h] at this
theorem wakeM_two (m : Sch) (n : Nat) : (wakeM m (n : Int)).2 = match m.tasks[n]? with | some t => { m with tasks := m.tasks.set n (if t.done then t else wokenT t) } | none => m := by
  cases ht : m.tasks[n]? with
  | none =>
    have : m.tasks.length ≤ n := List.getElem?_eq_none_iff.1 ht
    have hth : thereM m (n : Int) = false := by simp [thereM]; omega
    simp [wakeM, hth]
  | some t =>
    have := (List.getElem?_eq_some_iff.1 ht).1
    have hth : thereM m (n : Int) = true := by simp [thereM]; omega
    by_cases hd : t.done
    · simp [wakeM, hth, ht, hd, set_same ht]
    · simp [wakeM, hth, ht, hd]
theorem absT_wake (t : Task) (T : TB) : (absT t T).wake = absT (if t.done then t else wokenT t) T := by
  obtain ⟨st, wa, dn, wo⟩ := t
  cases dn <;> rfl
theorem absL_wake {m : Sch} {r : List TB} (h : m.tasks.length = r.length) (n : Nat) : absL (wakeM m (n : Int)).2.tasks r = wakeL (absL m.tasks r) n := by
  rw [wakeM_two]
  unfold wakeL
  cases ht : m.tasks[n]? with
  | none => rw [absL_none ht]
  | some t =>
    have hlt := (List.getElem?_eq_some_iff.1 ht).1
    have hT : r[n]? = some (r[n]'(by omega)) := List.getElem?_eq_getElem (by omega)
    rw [absL_at ht hT]
    dsimp only
    rw [absT_wake]
    exact absL_setL hT
theorem wakeM_len (m : Sch) (n : Nat) : (wakeM m (n : Int)).2.tasks.length = m.tasks.length := by
  rw [wakeM_two]
  split <;> simp
theorem wakeM_steps (m : Sch) (n : Nat) : (wakeM m (n : Int)).2.tasks.map Task.step = m.tasks.map Task.step := by
  rw [wakeM_two]
  split
  · rename_i t ht
    refine set_map_same ht ?_
    split <;> rfl
  · rfl
theorem wakeM_rest (m : Sch) (n : Nat) : (wakeM m (n : Int)).2.picks = m.picks ∧ (wakeM m (n : Int)).2.made = m.made ∧ (wakeM m (n : Int)).2.now = m.now ∧ (wakeM m (n : Int)).2.runs = m.runs := by
  rw [wakeM_two]
  split <;> exact ⟨rfl, rfl, rfl, rfl⟩
theorem wakesN_all (r : List TB) : ∀ (l : List Nat) (m : Sch), m.tasks.length = r.length → absL (wakesN m l).tasks r = l.foldl wakeL (absL m.tasks r) ∧ (wakesN m l).tasks.map Task.step = m.tasks.map Task.step ∧ (wakesN m l).picks = m.picks ∧ (wakesN m l).made = m.made ∧ (wakesN m l).now = m.now ∧ (wakesN m l).runs = m.runs
  | [], m, _ => ⟨rfl, rfl, rfl, rfl, rfl, rfl⟩
  | n :: l, m, h => by
    obtain ⟨h1, h2, h3, h4, h5, h6⟩ := wakesN_all r l (wakeM m (n : Int)).2 ((wakeM_len m n).trans h)
    obtain ⟨w1, w2, w3, w4⟩ := wakeM_rest m n
    refine ⟨?_, h2.trans (wakeM_steps m n), h3.trans w1, h4.trans w2, h5.trans w3, h6.trans w4⟩
    rw [absL_wake h] at h1
    exact h1
theorem wakesN_len (l : List Nat) (m : Sch) : (wakesN m l).tasks.length = m.tasks.length := by
  induction l generalizing m with
  | nil => rfl
  | cons n l ih => exact (ih (wakeM m (n : Int)).2).trans (wakeM_len m n)
theorem absT_deed (t : Task) (T : TB) : (absT t T).deed = (T.deed.wake, T.deed.ans) := by
  unfold AT.deed TB.deed absT
  dsimp only
  rw [List.getElem?_map]
  cases T.ds[T.at_]? <;> rfl
theorem absT_said (x : Nat) (t : Task) (T : TB) : (absT t T).said x = absT (saidT (x : Int) t) T := by
  obtain ⟨st, wa, dn, wo⟩ := t
  unfold AT.said saidT
  by_cases h3 : x = 3
  · subst h3; rfl
  · have h3' : ¬ (x : Int) = 3 := by omega
    rw [if_neg h3, if_neg h3']
    by_cases h2 : x = 2
    · subst h2; cases wo <;> rfl
    · have h2' : ¬ (x : Int) = 2 := by omega
      rw [if_neg h2, if_neg h2']
def nextT (T : TB) : TB := { T with at_ := T.at_ + 1 }
def taskS (m : Sch) (s : TS) (i : Nat) (said : Int) (m' : Sch) (s' : TS) : Prop :=
  ∃ T, s.tbs[i]? = some T ∧ said = (T.deed.ans : Int) ∧ m' = wakesN (setNow m i) T.deed.wake ∧ s'.told = s.told ++ [i] ∧ s'.tbs = s.tbs.set i (nextT T)
theorem task_facts {m m' : Sch} {s s' : TS} {i : Nat} {said : Int} (hl : m.tasks.length = s.tbs.length) (h : taskS m s i said m' s') :
    abs15 (afterStep m' i said) s' = (abs15 m s).stepAt i ∧ (afterStep m' i said).tasks.map Task.step = m.tasks.map Task.step ∧ i < m'.tasks.length ∧ m'.made = m.made ∧ m'.runs = m.runs := by
  obtain ⟨T, hT, rfl, rfl, h1, h2⟩ := h
  have hi := (List.getElem?_eq_some_iff.1 hT).1
  have ht : m.tasks[i]? = some (m.tasks[i]'(by omega)) := List.getElem?_eq_getElem (by omega)
  generalize m.tasks[i]'_ = t at ht
  have hl' : (setNow m i).tasks.length = (s.tbs.set i (nextT T)).length := by simpa [setNow] using hl
  obtain ⟨w1, w2, w3, w4, w5, w6⟩ := wakesN_all (s.tbs.set i (nextT T)) T.deed.wake (setNow m i) hl'
  have hwl := wakesN_len T.deed.wake (setNow m i)
  have hlt : i < (wakesN (setNow m i) T.deed.wake).tasks.length := by rw [hwl]; show i < m.tasks.length; omega
  have hu : (wakesN (setNow m i) T.deed.wake).tasks[i]? = some ((wakesN (setNow m i) T.deed.wake).tasks[i]'hlt) := List.getElem?_eq_getElem hlt
  generalize (wakesN (setNow m i) T.deed.wake).tasks[i]'hlt = u at hu
  have hR : (s.tbs.set i (nextT T))[i]? = some (nextT T) := List.getElem?_set_self hi
  refine ⟨?_, ?_, hlt, w4, w6⟩
  · unfold abs15 AS.stepAt afterStep
    rw [hu, h1, h2]
    dsimp only
    rw [w3, w4, absL_setL hR, w1]
    have e1 : absL (setNow m i).tasks (s.tbs.set i (nextT T)) = (absL m.tasks s.tbs).set i { absT t T with at_ := T.at_ + 1 } := absL_setR ht
    have e2 : (absL m.tasks s.tbs)[i]? = some (absT t T) := absL_at ht hT
    have e3 : stepL (absL m.tasks s.tbs) i = (T.deed.wake.foldl wakeL ((absL m.tasks s.tbs).set i { absT t T with at_ := T.at_ + 1 })).set i (absT (saidT (T.deed.ans : Int) u) (nextT T)) := by
      unfold stepL
      rw [e2]
      dsimp only
      rw [absT_deed]
      dsimp only
      have e4 : (T.deed.wake.foldl wakeL ((absL m.tasks s.tbs).set i { absT t T with at_ := T.at_ + 1 }))[i]? = some (absT u (nextT T)) := by
        rw [← e1, ← w1]
        exact absL_at hu hR
      have e5 : ({ absT t T with at_ := (absT t T).at_ + 1 } : AT) = { absT t T with at_ := T.at_ + 1 } := rfl
      rw [e5, e4]
      dsimp only
      rw [absT_said]
    rw [e1, e3]
    rfl
  · unfold afterStep
    rw [hu]
    dsimp only
    rw [set_map_same hu (by unfold saidT; split; rfl; split; (split <;> rfl); rfl), w2]
    rfl
theorem pickN_abs {l : List Task} {r : List TB} (h : l.length = r.length) : (List.range (absL l r).length).filter (fun i => (((absL l r)[i]?).map AT.runs).getD false) = pickN runsT l l.length := by
  have hl : (absL l r).length = l.length := by simp [absL, h]
  unfold pickN
  rw [hl]
  refine List.filter_congr fun i hi => ?_
  rw [List.mem_range] at hi
  have h1 : l[i]? = some l[i] := List.getElem?_eq_getElem hi
  have h2 : r[i]? = some (r[i]'(by omega)) := List.getElem?_eq_getElem (by omega)
  rw [absL_at h1 h2, h1]
  rfl
theorem can_abs {m : Sch} {s : TS} (h : m.tasks.length = s.tbs.length) : (abs15 m s).can = canN m := pickN_abs h
theorem opens_abs {m : Sch} {s : TS} (h : m.tasks.length = s.tbs.length) : (abs15 m s).opens = openN m := by
  unfold AS.opens openN openUp abs15
  dsimp only
  rw [List.take_length]
  generalize s.tbs = r at h
  generalize m.tasks = l at h
  induction l generalizing r with
  | nil => cases r <;> rfl
  | cons t l ih =>
    cases r with
    | nil => simp at h
    | cons T r =>
      have := ih r (by simpa using h)
      simp only [absL, List.zipWith_cons_cons, List.filter_cons] at this ⊢
      have e : (absT t T).done = t.done := rfl
      rw [e]
      cases t.done <;> simp_all
theorem err_abs {m : Sch} {s : TS} (h : m.tasks.length = s.tbs.length) : (abs15 m s).err = errM m := by
  unfold AS.err errM
  rw [can_abs h, opens_abs h]
theorem picked_abs {m : Sch} {s : TS} {i : Nat} (h : m.tasks.length = s.tbs.length) (hp : picked m i) : (abs15 m s).pick = some i := by
  unfold AS.pick
  rw [can_abs h]
  exact hp
theorem task_client (W : World) : Client (TI W) taskS := by
  refine ⟨fun m s h => ⟨⟨fun t ht => ?_, h.few⟩, h.picks⟩, ?_⟩
  · have h1 : t.step ∈ s.tbs.map stepV := by rw [← h.steps]; exact List.mem_map_of_mem ht
    obtain ⟨T, _, hT⟩ := List.mem_map.1 h1
    rw [← hT]
    rfl
  · intro m s i said m' s' hI hp hS
    obtain ⟨f1, f2, f3, f4, f5⟩ := task_facts hI.len hS
    have hmu := hI.mu
    have hcan : (abs15 m s).can ≠ [] := by
      rw [can_abs hI.len]
      intro h0
      unfold picked at hp
      rw [h0] at hp
      simp at hp
    have hstep : (abs15 m s).step = (abs15 m s).stepAt i := by unfold AS.step; rw [picked_abs hI.len hp]
    have hok := step_ok hcan hI.aok
    rw [hstep, ← f1] at hok
    refine ⟨f3, by rw [f4]; omega, ?_⟩
    obtain ⟨T, hT, hsaid, hm', ht1, ht2⟩ := hS
    have hmade : (afterStep m' i said).made = m.made + 1 := by simp [afterStep, f4]
    refine ⟨?_, ?_, ?_, hok.1, ?_, ?_, ?_⟩
    · rw [f2, hI.steps, ht2]
      exact (set_map_same (f := stepV) (b := nextT T) hT rfl).symm
    · have := congrArg List.length f2
      simp only [List.length_map] at this
      rw [this]; exact hI.few
    · rw [ht2]
      intro T' hT'
      rcases List.mem_or_eq_of_mem_set hT' with hT' | rfl
      · exact hI.ok T' hT'
      · have := hI.ok T (List.mem_of_getElem? hT)
        exact ⟨this.rs, this.ok, this.few⟩
    · have e : (afterStep m' i said).picks = m.picks := congrArg AS.picks f1
      rw [e]; exact hI.picks
    · rw [ht1, hmade, List.length_append, hI.told]; rfl
    · rw [hmade]
      have : mu (absL (afterStep m' i said).tasks s'.tbs) + 1 ≤ mu (absL m.tasks s.tbs) := hok.2
      omega
theorem task_spec (W : World) (sb ob : Nat) (pv : Value) (F : List Chunk) : StepSpec W sb pv (fun s => tsC sb ob s ++ F) (TI W) taskS := by
  intro m s lv i t hI hp hti htr
  have hlt : i < s.tbs.length := by rw [← hI.len]; exact (List.getElem?_eq_some_iff.1 hti).1
  have hT : s.tbs[i]? = some s.tbs[i] := List.getElem?_eq_getElem hlt
  generalize s.tbs[i] = T at hT
  have hst : t.step = stepV T := by
    have h1 : (m.tasks.map Task.step)[i]? = some t.step := by rw [List.getElem?_map, hti]; rfl
    rw [hI.steps, List.getElem?_map, hT] at h1
    simpa using h1.symm
  have hok := hI.ok T (List.mem_of_getElem? hT)
  have hfew := hok.few
  have hat : T.at_ ≤ T.ds.length := by
    have h1 := hI.aok (absT t T) (List.mem_of_getElem? (absL_at hti hT)) (by simp [runsT] at htr; exact htr.2)
    simpa [absT] using h1
  have hmu := hI.mu
  have htold := hI.told
  refine ⟨51, [ptr T.b], [], hst, plain51, ?_⟩
  refine SLf.ent (.trans (.left _ (.cons (.there (.there (Sel.app (Sel.many (f := tbC sb ob) hT)))) .refl)) (.swp (b := [tbC sb ob T, .blk ob 32 [s.tv], .row s.tv 3 1 (natL s.told)]))) (SLf.to (Step15_ok W _ sb pv lv (setNow m i) ob T s.tv s.told i hok (by omega) (by omega) rfl) ?_)
  rintro v σ ⟨tv', rfl, rfl⟩
  refine ⟨schC sb pv lv (wakesN (setNow m i) T.deed.wake) ++ (tsC sb ob ⟨tv', s.told ++ [i], s.tbs.set i (nextT T)⟩ ++ F), ?_, _, lv, _, ⟨tv', s.told ++ [i], s.tbs.set i (nextT T)⟩, rfl, rfl, T, hT, rfl, rfl, rfl, rfl⟩
  have e1 : Ent ([tbC sb ob (nextT T), .blk ob 32 [tv'], .row tv' 3 1 (natL (s.told ++ [i]))] ++ (schC sb pv lv (wakesN (setNow m i) T.deed.wake) ++ ((s.tbs.eraseIdx i).map (tbC sb ob) ++ F))) (schC sb pv lv (wakesN (setNow m i) T.deed.wake) ++ ([tbC sb ob (nextT T), .blk ob 32 [tv'], .row tv' 3 1 (natL (s.told ++ [i]))] ++ ((s.tbs.eraseIdx i).map (tbC sb ob) ++ F))) := .swp
  refine .trans e1 (.left _ (.cons (.there .here) (.cons (.there .here) (.perm ?_))))
  exact (perm_many (f := tbC sb ob) (p' := nextT T) hlt).append_right F
theorem run_arun {W : World} {m0 m : Sch} {s0 s : TS} {n : Nat} (h0 : TI W m0 s0) (h : RunTo taskS m0 s0 n m s) :
    TI W m s ∧ s.tbs.map TB.b = s0.tbs.map TB.b ∧ m.runs = m0.runs ∧ (m0.now = -1 → m.now = -1) ∧ ∀ k, arun (n + k) (abs15 m0 s0) = (n + (arun k (abs15 m s)).1, (arun k (abs15 m s)).2) := by
  induction h with
  | zero => exact ⟨h0, rfl, rfl, fun h => h, fun k => by simp⟩
  | @step m m' s1 s s' n i said hr hp hS ih =>
    obtain ⟨hI, hb, hrn, _, har⟩ := ih h0
    obtain ⟨f1, f2, f3, f4, f5⟩ := task_facts hI.len hS
    have hcan : (abs15 m s).can ≠ [] := by
      rw [can_abs hI.len]
      intro h1
      unfold picked at hp
      rw [h1] at hp
      simp at hp
    have hstep : (abs15 m s).step = abs15 (afterStep m' i said) s' := by unfold AS.step; rw [picked_abs hI.len hp]; exact f1.symm
    refine ⟨((task_client W).keep _ _ _ _ _ _ hI hp hS).2.2, ?_, ?_, fun _ => rfl, fun k => ?_⟩
    · obtain ⟨T, hT, _, _, _, h2⟩ := hS
      rw [h2, set_map_same (f := TB.b) (b := nextT T) hT rfl, hb]
    · rw [← hrn, ← f5]; rfl
    · have := har (k + 1)
      rw [show n + 1 + k = n + (k + 1) by omega, this]
      simp only [arun, if_neg hcan, hstep]
      rw [show n + ((arun k (abs15 (afterStep m' i said) s')).1 + 1) = n + 1 + (arun k (abs15 (afterStep m' i said) s')).1 by omega]
end Go.Sl
