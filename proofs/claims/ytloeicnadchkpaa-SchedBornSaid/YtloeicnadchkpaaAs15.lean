/- Tasks of law 15 without their memory: how they step, how they run. -/
import Derived.Test.YtloeicnadchkpaaMid
namespace Go.Sl

structure AT where
  waits : Bool
  done : Bool
  woken : Bool
  at_ : Nat
  ds : List (List Nat × Nat)
def AT.deed (t : AT) : List Nat × Nat := (t.ds[t.at_]?).getD ([], 3)
def AT.runs (t : AT) : Bool := !t.waits && !t.done
def AT.wake (t : AT) : AT := if t.done then t else { t with woken := t.woken || !t.waits, waits := false }
def AT.said (x : Nat) (t : AT) : AT := if x = 3 then { t with done := true } else if x = 2 then (if t.woken then { t with woken := false } else { t with waits := true }) else t
structure AS where
  picks : List Nat
  tks : List AT
  made : Nat
  told : List Nat
def wakeL (l : List AT) (n : Nat) : List AT := match l[n]? with
  | some t => l.set n t.wake
  | none => l
def stepL (l : List AT) (i : Nat) : List AT := match l[i]? with
  | none => l
  | some t => match (t.deed.1.foldl wakeL (l.set i { t with at_ := t.at_ + 1 }))[i]? with
    | none => l
    | some u => (t.deed.1.foldl wakeL (l.set i { t with at_ := t.at_ + 1 })).set i (u.said t.deed.2)
def AS.can (A : AS) : List Nat := (List.range A.tks.length).filter fun i => ((A.tks[i]?).map AT.runs).getD false
def AS.pick (A : AS) : Option Nat := (A.can)[((A.picks[A.made % A.picks.length]?).getD 0) % A.can.length]?
def AS.stepAt (A : AS) (i : Nat) : AS := ⟨A.picks, stepL A.tks i, A.made + 1, A.told ++ [i]⟩
def AS.step (A : AS) : AS := match A.pick with
  | some i => A.stepAt i
  | none => A
def AS.opens (A : AS) : Nat := (A.tks.filter fun t => !t.done).length
def AS.err (A : AS) : Int := if A.can.length = 0 then (if A.opens = 0 then 0 else 12) else 13
def AS.wakeA (A : AS) (n : Nat) : AS := { A with tks := wakeL A.tks n }
/-- At most so many steps: how many they were, what is left. -/
def arun : Nat → AS → Nat × AS
  | 0, A => (0, A)
  | k + 1, A => if A.can = [] then (0, A) else ((arun k A.step).1 + 1, (arun k A.step).2)
theorem arun_done {A : AS} (h : A.can = []) : ∀ k, arun k A = (0, A)
  | 0 => rfl
  | k + 1 => by simp [arun, h]
theorem arun_add : ∀ (k1 k2 : Nat) (A : AS), arun (k1 + k2) A = ((arun k1 A).1 + (arun k2 (arun k1 A).2).1, (arun k2 (arun k1 A).2).2)
  | 0, k2, A => by simp [arun]
  | k1 + 1, k2, A => by
    rw [show k1 + 1 + k2 = (k1 + k2) + 1 by omega]
    by_cases h : A.can = []
    · rw [arun_done h, arun_done h]
      simp [arun_done h]
    · simp only [arun, if_neg h, arun_add k1 k2 A.step]
      rw [show (arun k1 A.step).1 + (arun k2 (arun k1 A.step).2).1 + 1 = (arun k1 A.step).1 + 1 + (arun k2 (arun k1 A.step).2).1 by omega]
theorem arun_le : ∀ (k : Nat) (A : AS), (arun k A).1 ≤ k
  | 0, _ => Nat.le_refl _
  | k + 1, A => by
    by_cases h : A.can = []
    · rw [arun_done h]; exact Nat.zero_le _
    · simp only [arun, if_neg h]; have := arun_le k A.step; omega
theorem arun_short : ∀ (k : Nat) (A : AS), (arun k A).1 < k → (arun k A).2.can = []
  | 0, _, h => absurd h (Nat.not_lt_zero _)
  | k + 1, A, h => by
    by_cases hc : A.can = []
    · rw [arun_done hc]; exact hc
    · simp only [arun, if_neg hc] at h ⊢
      exact arun_short k A.step (by omega)
/-- What of a task no waking turns. -/
def AT.g (t : AT) : Bool × Nat × List (List Nat × Nat) := (t.done, t.at_, t.ds)
theorem AT.g_wake (t : AT) : t.wake.g = t.g := by unfold AT.wake; split <;> rfl
theorem set_map_same {α β : Type} {f : α → β} {l : List α} {i : Nat} {a b : α} (h : l[i]? = some a) (hf : f b = f a) : (l.set i b).map f = l.map f := by
  rw [List.map_set, hf]
  exact set_same (by rw [List.getElem?_map, h]; rfl)
theorem wakeL_g (l : List AT) (n : Nat) : (wakeL l n).map AT.g = l.map AT.g := by
  unfold wakeL
  split
  · rename_i t ht; exact set_map_same ht (AT.g_wake t)
  · rfl
theorem wakesL_g : ∀ (ns : List Nat) (l : List AT), (ns.foldl wakeL l).map AT.g = l.map AT.g
  | [], _ => rfl
  | n :: r, l => (wakesL_g r (wakeL l n)).trans (wakeL_g l n)
theorem stepL_g {l : List AT} {i : Nat} {t : AT} (h : l[i]? = some t) : ∃ u : AT, u.g = (t.done, t.at_ + 1, t.ds) ∧ (stepL l i).map AT.g = (l.map AT.g).set i (u.said t.deed.2).g := by
  have h1 := wakesL_g t.deed.1 (l.set i { t with at_ := t.at_ + 1 })
  unfold stepL
  rw [h]
  dsimp only
  generalize t.deed.1.foldl wakeL (l.set i { t with at_ := t.at_ + 1 }) = l2 at h1 ⊢
  have hi := (List.getElem?_eq_some_iff.1 h).1
  have h2 : (l2.map AT.g)[i]? = some (t.done, t.at_ + 1, t.ds) := by
    rw [h1, List.getElem?_map, List.getElem?_set_self hi]
    rfl
  rw [List.getElem?_map] at h2
  cases hu : l2[i]? with
  | none => rw [hu] at h2; cases h2
  | some u =>
    rw [hu, Option.map_some, Option.some.injEq] at h2
    refine ⟨u, h2, ?_⟩
    dsimp only
    rw [List.map_set, h1, List.map_set, List.set_set]
def AOk (l : List AT) : Prop := ∀ t ∈ l, t.done = false → t.at_ ≤ t.ds.length
def muG (x : Bool × Nat × List (List Nat × Nat)) : Nat := if x.1 then 0 else x.2.2.length + 1 - x.2.1
def mu (l : List AT) : Nat := ((l.map AT.g).map muG).sum
theorem sum_set : ∀ {l : List Nat} {i a b : Nat}, l[i]? = some a → (l.set i b).sum + a = l.sum + b
  | [], _, _, _, h => by simp at h
  | x :: l, 0, a, b, h => by simp at h; subst h; simp; omega
  | x :: l, i + 1, a, b, h => by
    have := sum_set (l := l) (i := i) (a := a) (b := b) (by simpa using h)
    simp only [List.set_cons_succ, List.sum_cons]
    omega
theorem said_g {x : Nat} {u : AT} : (u.said x).g = (if x = 3 then true else u.done, u.at_, u.ds) := by
  unfold AT.said
  split
  · rfl
  · split
    · split <;> rfl
    · rfl
theorem stepL_ok {l : List AT} {i : Nat} {t : AT} (h : l[i]? = some t) (hd : t.done = false) (ho : AOk l) : AOk (stepL l i) ∧ mu (stepL l i) + 1 ≤ mu l := by
  obtain ⟨u, hu, hg⟩ := stepL_g h
  have hle := ho t (List.mem_of_getElem? h) hd
  have hi := (List.getElem?_eq_some_iff.1 h).1
  rw [said_g] at hg
  have hu1 : u.done = false := by have := congrArg Prod.fst hu; exact this.trans hd
  have hu2 : u.at_ = t.at_ + 1 := congrArg (fun x => x.2.1) hu
  have hu3 : u.ds = t.ds := congrArg (fun x => x.2.2) hu
  rw [hu1, hu2, hu3] at hg
  have hlast : ¬ t.at_ < t.ds.length → t.deed.2 = 3 := fun h0 => by
    have : t.ds[t.at_]? = none := List.getElem?_eq_none (by omega)
    simp [AT.deed, this]
  constructor
  · intro v hv hvd
    obtain ⟨j, hj⟩ := List.mem_iff_getElem?.1 hv
    have h1 : ((stepL l i).map AT.g)[j]? = some v.g := by rw [List.getElem?_map, hj]; rfl
    rw [hg, List.getElem?_set] at h1
    split at h1
    · split at h1
      · simp only [Option.some.injEq] at h1
        have e1 := congrArg Prod.fst h1
        have e2 := congrArg (fun x => x.2.1) h1
        have e3 := congrArg (fun x => x.2.2) h1
        simp only [AT.g] at e1 e2 e3
        rw [hvd] at e1
        rw [← e2, ← e3]
        by_cases h3 : t.deed.2 = 3
        · simp [h3] at e1
        · have : t.at_ < t.ds.length := Decidable.byContradiction fun h0 => h3 (hlast h0)
          omega
      · cases h1
    · rw [List.getElem?_map] at h1
      cases hw : l[j]? with
      | none => rw [hw] at h1; cases h1
      | some w =>
        rw [hw, Option.map_some, Option.some.injEq] at h1
        have e1 : w.done = v.done := congrArg Prod.fst h1
        have e2 : w.at_ = v.at_ := congrArg (fun x => x.2.1) h1
        have e3 : w.ds = v.ds := congrArg (fun x => x.2.2) h1
        rw [← e2, ← e3]
        exact ho w (List.mem_of_getElem? hw) (e1.trans hvd)
  · unfold mu
    rw [hg, List.map_set]
    have h0 : ((l.map AT.g).map muG)[i]? = some (t.ds.length + 1 - t.at_) := by
      rw [List.getElem?_map, List.getElem?_map, h]
      simp [muG, AT.g, hd]
    have hs := sum_set (b := muG (if t.deed.2 = 3 then true else false, t.at_ + 1, t.ds)) h0
    have hm : muG (if t.deed.2 = 3 then true else false, t.at_ + 1, t.ds) + 1 ≤ t.ds.length + 1 - t.at_ := by
      by_cases h3 : t.deed.2 = 3
      · simp [muG, h3]; omega
      · have : t.at_ < t.ds.length := Decidable.byContradiction fun h0 => h3 (hlast h0)
        simp [muG, h3]; omega
    omega
theorem can_mem {A : AS} {i : Nat} (h : i ∈ A.can) : ∃ t, A.tks[i]? = some t ∧ t.waits = false ∧ t.done = false := by
  unfold AS.can at h
  rw [List.mem_filter] at h
  obtain ⟨_, h⟩ := h
  cases ht : A.tks[i]? with
  | none => simp [ht] at h
  | some t =>
    simp [ht, AT.runs] at h
    exact ⟨t, rfl, h.1, h.2⟩
theorem step_ok {A : AS} (h : A.can ≠ []) (ho : AOk A.tks) : AOk A.step.tks ∧ mu A.step.tks + 1 ≤ mu A.tks := by
  unfold AS.step
  have hlt : ((A.picks[A.made % A.picks.length]?).getD 0) % A.can.length < A.can.length := Nat.mod_lt _ (List.length_pos_iff.2 h)
  have hp : A.pick = some (A.can[((A.picks[A.made % A.picks.length]?).getD 0) % A.can.length]'hlt) := List.getElem?_eq_getElem hlt
  have hm := List.getElem_mem hlt
  rw [hp]
  obtain ⟨t, ht, _, hd⟩ := can_mem hm
  exact stepL_ok ht hd ho
theorem arun_mu : ∀ (k : Nat) (A : AS), AOk A.tks → AOk (arun k A).2.tks ∧ mu (arun k A).2.tks + (arun k A).1 ≤ mu A.tks
  | 0, A, h => ⟨h, Nat.le_refl _⟩
  | k + 1, A, h => by
    by_cases hc : A.can = []
    · rw [arun_done hc]; exact ⟨h, Nat.le_refl _⟩
    · obtain ⟨h1, h2⟩ := step_ok hc h
      obtain ⟨h3, h4⟩ := arun_mu k A.step h1
      simp only [arun, if_neg hc]
      exact ⟨h3, by omega⟩
/-- With room enough they come to their end. -/
theorem arun_end {k : Nat} {A : AS} (h : AOk A.tks) (hk : mu A.tks ≤ k) : (arun k A).2.can = [] := by
  obtain ⟨h1, h2⟩ := arun_mu k A h
  by_cases hn : (arun k A).1 < k
  · exact arun_short k A hn
  · refine Decidable.byContradiction fun hc => ?_
    have := (step_ok hc h1).2
    omega
end Go.Sl
