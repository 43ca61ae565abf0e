/- Plain lists: zips and sums. -/
import Derived.Test.YtloeicnadchkpaaMid
namespace Go.Sl
theorem zip_at {α β γ : Type} {f : α → β → γ} {l : List α} {r : List β} {i : Nat} {a : α} {b : β} (h1 : l[i]? = some a) (h2 : r[i]? = some b) : (List.zipWith f l r)[i]? = some (f a b) := by
  simp [List.getElem?_zipWith, h1, h2]
theorem zip_get {α β γ : Type} {f : α → β → γ} {l : List α} {r : List β} {i : Nat} {c : γ} (h : (List.zipWith f l r)[i]? = some c) : ∃ a b, l[i]? = some a ∧ r[i]? = some b ∧ c = f a b := by
  rw [List.getElem?_zipWith] at h
  split at h
  · rename_i a b ha hb
    simp only [Option.some.injEq] at h
    exact ⟨a, b, ha, hb, h.symm⟩
  · cases h
theorem zip_set {α β γ : Type} {f : α → β → γ} : ∀ {l : List α} {r : List β} {i : Nat} {a : α} {b : β}, l[i]? = some a → (List.zipWith f l r).set i (f a b) = List.zipWith f l (r.set i b)
  | [], _, _, _, _, h => by simp at h
  | _ :: _, [], _, _, _, _ => by simp
  | _ :: _, _ :: _, 0, _, _, h => by simp at h; subst h; rfl
  | x :: l, y :: r, i + 1, a, b, h => by
    have := zip_set (f := f) (l := l) (r := r) (i := i) (b := b) (by simpa using h)
    simp only [List.zipWith_cons_cons, List.set_cons_succ]
    rw [this]
theorem sum_upd : ∀ {l : List Nat} {i a b : Nat}, l[i]? = some a → (l.set i b).sum + a = l.sum + b
  | [], _, _, _, h => by simp at h
  | x :: l, 0, a, b, h => by simp at h; subst h; simp; omega
  | x :: l, i + 1, a, b, h => by
    have := sum_upd (l := l) (i := i) (a := a) (b := b) (by simpa using h)
    simp only [List.set_cons_succ, List.sum_cons]
    omega
theorem sum_mem : ∀ {l : List Nat} {x : Nat}, x ∈ l → x ≤ l.sum
  | _ :: _, _, .head _ => by rw [List.sum_cons]; omega
  | _ :: _, _, .tail _ h => by have := sum_mem h; rw [List.sum_cons]; omega
theorem sum_noughts {l : List Nat} (h : ∀ y ∈ l, y = 0) : l.sum = 0 := by
  induction l with
  | nil => rfl
  | cons x r ih =>
    have h1 := h x (.head _)
    have h2 := ih fun y hy => h y (.tail _ hy)
    simp [h1, h2]
theorem can_has {m : Sch} {i : Nat} {t : Task} (h : m.tasks[i]? = some t) (hr : runsT t = true) : canN m ≠ [] := fun h0 => by
  have : i ∈ canN m := by
    unfold canN pickN
    rw [List.mem_filter, List.mem_range]
    exact ⟨(List.getElem?_eq_some_iff.1 h).1, by simp [h, hr]⟩
  rw [h0] at this
  cases this
theorem picked_runs {m : Sch} {i : Nat} (h : picked m i) : ∃ t, m.tasks[i]? = some t ∧ runsT t = true := (pickN_mem (List.mem_of_getElem? h)).2
theorem open_none {m : Sch} (h : ∀ t ∈ m.tasks, t.done = true) : openN m = 0 := by
  unfold openN openUp
  rw [List.take_length, List.length_eq_zero_iff, List.filter_eq_nil_iff]
  intro t ht
  simp [h t ht]
end Go.Sl
