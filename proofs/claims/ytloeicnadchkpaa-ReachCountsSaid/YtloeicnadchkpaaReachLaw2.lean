/- reach: the plain law of chains. -/
import Derived.Test.YtloeicnadchkpaaReachLaw
namespace Go.Sl

structure Chain (G : List Node) : Prop where
  zero : insAt G 0 = []
  all : ∀ m, 1 ≤ m → m < G.length → insAt G m ≠ [] ∧ ∀ q ∈ insAt G m, q = (m : Int) - 1
theorem insAt_of {G : List Node} {m : Nat} {x : Node} (h : G[m]? = some x) : insAt G m = x.ins := by simp [insAt, h]
theorem Chain.may {G : List Node} (h : Chain G) {t : Nat} (ht : t < G.length) : mayF G t = true := by
  unfold mayF
  have : mayG G = true := by
    refine mayG_iff.2 fun k x hx => insOk_of fun s q hq => ?_
    have hk := (List.getElem?_eq_some_iff.1 hx).1
    have hm : q ∈ insAt G k := by rw [insAt_of hx]; exact List.mem_of_getElem? hq
    rcases Nat.eq_zero_or_pos k with rfl | hp
    · rw [h.zero] at hm; cases hm
    · have := (h.all k hp hk).2 q hm; omega
  rw [this]
  simp
  omega
theorem Chain.from {G : List Node} (h : Chain G) {t : Nat} (ht : t < G.length) {i : Nat} (hi : i < G.length) : (fromL G t)[i]? = some (decide (i ≤ t)) := by
  have hm := h.may ht
  have hl : i < (fromL G t).length := by rw [fromL_len]; exact hi
  have key : ∀ d i : Nat, t - i = d → i ≤ t → (fromL G t)[i]? = some true := by
    intro d
    induction d with
    | zero => intro i hd hi; have : i = t := by omega
              exact (fromL_iff hm i).2 (.inl this)
    | succ d ih =>
      intro i hd hi
      have h1 := ih (i + 1) (by omega) (by omega)
      refine (fromL_iff hm i).2 (.inr ⟨i + 1, h1, ?_⟩)
      obtain ⟨h2, h3⟩ := h.all (i + 1) (by omega) (by omega)
      obtain ⟨q, hq⟩ := List.exists_mem_of_ne_nil _ h2
      have := h3 q hq
      have e : (i : Int) = q := by omega
      rw [e]; exact hq
  by_cases hit : i ≤ t
  · rw [key _ i rfl hit]; simp [hit]
  · rw [List.getElem?_eq_getElem hl]
    cases hb : (fromL G t)[i] with
    | false => simp [hit]
    | true => exact absurd (fromL_above hm (by rw [List.getElem?_eq_getElem hl, hb])) hit
theorem usesOf_len_all {m i : Nat} (hm : 1 ≤ m) : ∀ {l : List Int} {s : Nat}, (∀ q ∈ l, q = (m : Int) - 1) → (usesOf m i s l).length = if i + 1 = m then l.length else 0
  | [], _, _ => by simp [usesOf]
  | q :: r, s, h => by
    have hq := h q (.head _)
    have ih := usesOf_len_all hm (i := i) (l := r) (s := s + 1) (fun x hx => h x (.tail _ hx))
    simp only [usesOf]
    by_cases hi : i + 1 = m
    · have : q.toNat = i := by omega
      rw [if_pos this, if_pos hi]
      rw [if_pos hi] at ih
      simp [ih]
    · have : ¬ q.toNat = i := by omega
      rw [if_neg this, if_neg hi]
      rw [if_neg hi] at ih
      exact ih
theorem Chain.usesAll_len {G : List Node} (h : Chain G) {R : List Bool} (i : Nat) : ∀ m, m ≤ G.length → (usesAll G R i m).length = if i + 1 < m ∧ R[i + 1]? = some true then (insAt G (i + 1)).length else 0
  | 0, _ => by simp [usesAll]
  | m + 1, hm => by
    have ih := h.usesAll_len (R := R) i m (by omega)
    simp only [usesAll, List.length_append, ih]
    rcases Nat.eq_zero_or_pos m with rfl | hp
    · simp [h.zero, usesOf]
    · have hu := usesOf_len_all hp (i := i) (s := 0) (h.all m hp (by omega)).2
      by_cases hi : i + 1 = m
      · subst hi
        rw [if_pos rfl] at hu
        by_cases hr : R[i + 1]? = some true
        · simp [hr, hu]
        · simp [hr]
      · rw [if_neg hi] at hu
        have : (if R[m]? = some true then usesOf m i 0 (insAt G m) else []).length = 0 := by
          split
          · exact hu
          · rfl
        rw [this]
        have e : (i + 1 < m + 1 ∧ R[i + 1]? = some true) ↔ (i + 1 < m ∧ R[i + 1]? = some true) := ⟨fun ⟨a, b⟩ => ⟨by omega, b⟩, fun ⟨a, b⟩ => ⟨by omega, b⟩⟩
        simp only [e, Nat.zero_add]
theorem Chain.count {G : List Node} (h : Chain G) {t : Nat} (ht : t < G.length) {i : Nat} (hi : i < G.length) :
    (usersL G t)[i]?.map List.length = some (if i < t then (insAt G (i + 1)).length else 0) := by
  rw [usersL_at hi, Option.map_some, h.usesAll_len i (t + 1) (by omega)]
  congr 1
  by_cases hit : i < t
  · rw [h.from ht (by omega)]
    have : i + 1 ≤ t := hit
    simp [hit, this]
  · have : ¬ i + 1 < t + 1 := by omega
    simp [hit, this]
/-! ### Nobody has more users than there are inputs -/
theorem le_lens : ∀ {us : List Uses} {u : Uses}, u ∈ us → u.length ≤ lens us
  | a :: r, u, h => by
    unfold lens
    rw [List.map_cons, List.sum_cons]
    rcases List.mem_cons.1 h with rfl | h
    · omega
    · have := le_lens h
      unfold lens at this
      omega
  | [], _, h => by cases h
theorem insAll_le {G : List Node} {R : List Bool} : ∀ m, m ≤ G.length → insAll G R m ≤ insSum (G.take m)
  | 0, _ => Nat.zero_le _
  | m + 1, h => by
    have ih := insAll_le (G := G) (R := R) m (by omega)
    have hm' : m < G.length := by omega
    have hx : G[m]? = some (G[m]'hm') := List.getElem?_eq_getElem hm'
    rw [insSum_take hx]
    simp only [insAll]
    split
    · rw [insAt_of hx]; omega
    · omega
theorem users_le {G : List Node} {root : Nat} (hm : mayF G root = true) {i : Nat} {u : Uses} (h : (usersL G root)[i]? = some u) : u.length ≤ insSum G := by
  have h1 := le_lens (List.mem_of_getElem? h)
  rw [lens_usersL hm] at h1
  have h2 := insAll_le (G := G) (R := fromL G root) G.length (Nat.le_refl _)
  rw [List.take_length] at h2
  omega
end Go.Sl
