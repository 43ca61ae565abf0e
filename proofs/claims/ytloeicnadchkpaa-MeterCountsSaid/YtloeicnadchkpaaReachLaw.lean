/- reach: the plain law of who is reached and of who uses whom. -/
import Derived.Test.YtloeicnadchkpaaReach6
namespace Go.Sl

def insAt (G : List Node) (m : Nat) : List Int := (G[m]?.map (·.ins)).getD []
theorem insAt_mem {G : List Node} (hin : ∀ (k : Nat) x, G[k]? = some x → ∀ q ∈ x.ins, 0 ≤ q ∧ q < k) {m : Nat} {q : Int} (h : q ∈ insAt G m) : 0 ≤ q ∧ q < m ∧ m < G.length := by
  unfold insAt at h
  cases hx : G[m]? with
  | none => simp [hx] at h
  | some x =>
    simp only [hx, Option.map_some, Option.getD_some] at h
    have := hin m x hx q h
    exact ⟨this.1, this.2, (List.getElem?_eq_some_iff.1 hx).1⟩
theorem markAll_iff : ∀ (ins : List Int) (l : List Bool) (i : Nat), (∀ q ∈ ins, 0 ≤ q ∧ q < l.length) → ((markAll l ins)[i]? = some true ↔ l[i]? = some true ∨ (i : Int) ∈ ins)
  | [], l, i, _ => by simp [markAll]
  | q :: r, l, i, h => by
    have hq := h q (.head _)
    have hr : ∀ x ∈ r, 0 ≤ x ∧ x < (l.set q.toNat true).length := fun x hx => by rw [List.length_set]; exact h x (.tail _ hx)
    show (markAll (l.set q.toNat true) r)[i]? = some true ↔ _
    rw [markAll_iff r _ i hr, List.getElem?_set]
    by_cases hi : q.toNat = i
    · have h1 : (i : Int) = q := by omega
      have h2 : i < l.length := by omega
      subst hi
      simp [h1, h2]
    · have h1 : ¬ (i : Int) = q := by omega
      simp [hi, h1]
theorem fromLoop_iff {G : List Node} (hin : ∀ (k : Nat) x, G[k]? = some x → ∀ q ∈ x.ins, 0 ≤ q ∧ q < k) : ∀ (m : Nat) (l : List Bool), l.length = G.length → m ≤ G.length → ∀ i : Nat,
    (fromLoop G m l)[i]? = some true ↔ l[i]? = some true ∨ ∃ k, k < m ∧ (fromLoop G m l)[k]? = some true ∧ (i : Int) ∈ insAt G k
  | 0, l, _, _, i => by simp [fromLoop]
  | m + 1, l, hl, hm, i => by
    have hl' : (fromStep G l m).length = G.length := by rw [fromStep_len]; exact hl
    have ih := fromLoop_iff hin m (fromStep G l m) hl' (by omega)
    have hst : ∀ i : Nat, (fromStep G l m)[i]? = some true ↔ l[i]? = some true ∨ (l[m]? = some true ∧ (i : Int) ∈ insAt G m) := by
      intro i
      unfold fromStep
      split
      · rename_i h
        rw [markAll_iff _ _ _ (fun q hq => by have := insAt_mem hin (m := m) hq; omega)]
        simp [h, insAt]
      · rename_i h
        simp [h]
    have hmm : (fromLoop G m (fromStep G l m))[m]? = some true ↔ l[m]? = some true := by
      rw [ih m, hst m]
      constructor
      · rintro ((h | ⟨h, _⟩) | ⟨k, hk, _, h⟩)
        · exact h
        · exact h
        · have := insAt_mem hin h; omega
      · exact fun h => .inl (.inl h)
    rw [fromLoop, ih i, hst i]
    constructor
    · rintro ((h | ⟨h1, h2⟩) | ⟨k, hk, h1, h2⟩)
      · exact .inl h
      · exact .inr ⟨m, by omega, hmm.2 h1, h2⟩
      · exact .inr ⟨k, by omega, h1, h2⟩
    · rintro (h | ⟨k, hk, h1, h2⟩)
      · exact .inl (.inl h)
      · by_cases hkm : k = m
        · subst hkm; exact .inl (.inr ⟨hmm.1 h1, h2⟩)
        · exact .inr ⟨k, by omega, h1, h2⟩
/-- Who is reached: the root, and who is used by one that is reached. -/
theorem fromL_iff {G : List Node} {root : Nat} (hm : mayF G root = true) (i : Nat) : (fromL G root)[i]? = some true ↔ i = root ∨ ∃ k, (fromL G root)[k]? = some true ∧ (i : Int) ∈ insAt G k := by
  obtain ⟨_, h1, hin⟩ := mayF_spec hm
  have h := fromLoop_iff hin (root + 1) ((List.replicate G.length false).set root true) (by simp) (by omega) i
  have h0 : ((List.replicate G.length false).set root true)[i]? = some true ↔ i = root := by
    rw [List.getElem?_set]
    by_cases hi : root = i
    · subst hi; simp; omega
    · simp only [if_neg hi, List.getElem?_replicate]
      constructor
      · intro h; split at h <;> simp at h
      · intro h; exact absurd h.symm hi
  rw [h0] at h
  constructor
  · intro hh
    rcases h.1 hh with h2 | ⟨k, _, h2, h3⟩
    · exact .inl h2
    · exact .inr ⟨k, h2, h3⟩
  · rintro (h2 | ⟨k, h2, h3⟩)
    · exact h.2 (.inl h2)
    · exact h.2 (.inr ⟨k, by have := fromL_above hm h2; omega, h2, h3⟩)
/-- Who is reached from one that is reached, is reached. -/
theorem fromL_trans {G : List Node} {root i : Nat} (hm : mayF G root = true) (hmi : mayF G i = true) (hi : (fromL G root)[i]? = some true) {k : Nat} (hk : (fromL G i)[k]? = some true) : (fromL G root)[k]? = some true := by
  obtain ⟨_, _, hin⟩ := mayF_spec hm
  have key : ∀ d k : Nat, G.length - k = d → (fromL G i)[k]? = some true → (fromL G root)[k]? = some true := by
    intro d
    induction d using Nat.strongRecOn with
    | _ d ih =>
      intro k hd hk
      rcases (fromL_iff hmi k).1 hk with rfl | ⟨m, h1, h2⟩
      · exact hi
      · have hb := insAt_mem hin h2
        exact (fromL_iff hm k).2 (.inr ⟨m, ih (G.length - m) (by omega) m rfl h1, h2⟩)
  exact key _ k rfl hk

/-! ### Users -/
/-- What a node adds to the users of i. -/
def usesOf (m : Nat) (i : Nat) : Nat → List Int → Uses
  | _, [] => []
  | s, q :: r => if q.toNat = i then ((m : Int), (s : Int)) :: usesOf m i (s + 1) r else usesOf m i (s + 1) r
theorem addAll_len (m : Nat) : ∀ (l : List Int) (s : Nat) (us : List Uses), (addAll m s l us).length = us.length
  | [], _, _ => rfl
  | q :: r, s, us => by rw [addAll, addAll_len m r]; simp [addUse]
theorem addAll_at (m i : Nat) : ∀ (l : List Int) (s : Nat) (us : List Uses), i < us.length → ((addAll m s l us)[i]?).getD [] = (us[i]?).getD [] ++ usesOf m i s l
  | [], s, us, _ => by simp [addAll, usesOf]
  | q :: r, s, us, h => by
    rw [addAll, addAll_at m i r (s + 1) _ (by simpa [addUse] using h)]
    simp only [usesOf, addUse, List.getElem?_set]
    by_cases hq : q.toNat = i
    · subst hq; simp [h]
    · simp [hq]
def usesAll (G : List Node) (R : List Bool) (i : Nat) : Nat → Uses
  | 0 => []
  | m + 1 => (if R[m]? = some true then usesOf m i 0 (insAt G m) else []) ++ usesAll G R i m
theorem usersLoop_at {G : List Node} {R : List Bool} (i : Nat) : ∀ (m : Nat) (us : List Uses), i < us.length → ((usersLoop G R m us)[i]?).getD [] = (us[i]?).getD [] ++ usesAll G R i m
  | 0, us, _ => by simp [usersLoop, usesAll]
  | m + 1, us, h => by
    rw [usersLoop]
    unfold usersStep
    split
    · rename_i hr
      rw [usersLoop_at i m _ (by rw [addAll_len]; exact h), addAll_at m i _ _ _ h]
      simp [usesAll, hr, insAt]
    · rename_i hr
      rw [usersLoop_at i m _ h]
      simp [usesAll, hr]
theorem usersL_at {G : List Node} {root i : Nat} (hi : i < G.length) : (usersL G root)[i]? = some (usesAll G (fromL G root) i (root + 1)) := by
  have h := usersLoop_at (G := G) (R := fromL G root) i (root + 1) (List.replicate G.length []) (by simpa using hi)
  have hl : i < (usersL G root).length := by rw [usersL_len]; exact hi
  rw [List.getElem?_eq_getElem hl]
  unfold usersL at *
  rw [List.getElem?_eq_getElem hl] at h
  simpa [hi] using h
theorem usesOf_mem {m i : Nat} : ∀ {l : List Int} {s : Nat} {u : Int × Int}, u ∈ usesOf m i s l → u.1 = m ∧ (s : Int) ≤ u.2
  | [], _, _, h => by simp [usesOf] at h
  | q :: r, s, u, h => by
    simp only [usesOf] at h
    split at h
    · rcases List.mem_cons.1 h with rfl | h
      · exact ⟨rfl, Int.le_refl _⟩
      · have := usesOf_mem h; exact ⟨this.1, by omega⟩
    · have := usesOf_mem h; exact ⟨this.1, by omega⟩
def before (a b : Int × Int) : Prop := b.1 < a.1 ∨ a.1 = b.1 ∧ a.2 < b.2
theorem usesOf_sorted {m i : Nat} : ∀ {l : List Int} {s : Nat}, (usesOf m i s l).Pairwise before
  | [], _ => .nil
  | q :: r, s => by
    simp only [usesOf]
    split
    · refine .cons (fun u hu => .inr ?_) usesOf_sorted
      have := usesOf_mem hu
      exact ⟨this.1.symm, by show (s : Int) < u.2; omega⟩
    · exact usesOf_sorted
theorem usesAll_mem {G : List Node} {R : List Bool} {i : Nat} : ∀ {m : Nat} {u : Int × Int}, u ∈ usesAll G R i m → u.1 < m
  | 0, _, h => by simp [usesAll] at h
  | m + 1, u, h => by
    simp only [usesAll] at h
    rcases List.mem_append.1 h with h | h
    · split at h
      · have := usesOf_mem h; omega
      · cases h
    · have := usesAll_mem h; omega
theorem usesAll_sorted {G : List Node} {R : List Bool} {i : Nat} : ∀ {m : Nat}, (usesAll G R i m).Pairwise before
  | 0 => .nil
  | m + 1 => by
    simp only [usesAll]
    refine List.pairwise_append.2 ⟨?_, usesAll_sorted, fun a ha b hb => .inl ?_⟩
    · split
      · exact usesOf_sorted
      · exact .nil
    · have h2 := usesAll_mem hb
      split at ha
      · have := usesOf_mem ha; omega
      · cases ha
theorem usesOf_ne {m i : Nat} : ∀ {l : List Int} {s : Nat}, (∀ q ∈ l, 0 ≤ q) → (usesOf m i s l ≠ [] ↔ (i : Int) ∈ l)
  | [], _, _ => by simp [usesOf]
  | q :: r, s, h => by
    have hq := h q (.head _)
    have ih := usesOf_ne (m := m) (i := i) (l := r) (s := s + 1) (fun x hx => h x (.tail _ hx))
    simp only [usesOf]
    by_cases hi : q.toNat = i
    · have : (i : Int) = q := by omega
      simp [hi, this]
    · have : ¬ (i : Int) = q := by omega
      simp only [if_neg hi, List.mem_cons, this, false_or]
      exact ih
theorem usesAll_ne {G : List Node} (hin : ∀ (k : Nat) x, G[k]? = some x → ∀ q ∈ x.ins, 0 ≤ q ∧ q < k) {R : List Bool} {i : Nat} : ∀ {m : Nat}, usesAll G R i m ≠ [] ↔ ∃ k, k < m ∧ R[k]? = some true ∧ (i : Int) ∈ insAt G k
  | 0 => by simp [usesAll]
  | m + 1 => by
    have ih := usesAll_ne hin (R := R) (i := i) (m := m)
    have hu := usesOf_ne (m := m) (i := i) (l := insAt G m) (s := 0) (fun q hq => (insAt_mem hin hq).1)
    simp only [usesAll]
    rw [Ne, List.append_eq_nil_iff, Classical.not_and_iff_not_or_not]
    constructor
    · rintro (h | h)
      · split at h
        · rename_i hr; exact ⟨m, by omega, hr, hu.1 h⟩
        · exact absurd rfl h
      · obtain ⟨k, h1, h2, h3⟩ := ih.1 h; exact ⟨k, by omega, h2, h3⟩
    · rintro ⟨k, h1, h2, h3⟩
      by_cases hk : k = m
      · subst hk; left; rw [if_pos h2]; exact hu.2 h3
      · right; exact ih.2 ⟨k, by omega, h2, h3⟩
/-- Whoever is reached, but the root, has a user. -/
theorem reached_iff {G : List Node} {root i : Nat} (hm : mayF G root = true) : (fromL G root)[i]? = some true ↔ i = root ∨ usesAll G (fromL G root) i (root + 1) ≠ [] := by
  obtain ⟨_, _, hin⟩ := mayF_spec hm
  rw [fromL_iff hm i, usesAll_ne hin]
  constructor
  · rintro (h | ⟨k, h1, h2⟩)
    · exact .inl h
    · exact .inr ⟨k, by have := fromL_above hm h1; omega, h1, h2⟩
  · rintro (h | ⟨k, _, h1, h2⟩)
    · exact .inl h
    · exact .inr ⟨k, h1, h2⟩
/-! ### All counts together -/
def lens (us : List Uses) : Nat := (us.map List.length).sum
theorem sum_set {l : List Uses} {k : Nat} {u : Uses} (h : k < l.length) : lens (l.set k u) + ((l[k]?).getD []).length = lens l + u.length := by
  unfold lens
  induction l generalizing k with
  | nil => simp at h
  | cons a r ih =>
    cases k with
    | zero => simp; omega
    | succ k =>
      have := ih (k := k) (by simpa using h)
      simp only [List.set_cons_succ, List.map_cons, List.sum_cons, List.getElem?_cons_succ] at this ⊢
      omega
theorem addAll_lens (m : Nat) : ∀ (l : List Int) (s : Nat) (us : List Uses), (∀ q ∈ l, 0 ≤ q ∧ q < us.length) → lens (addAll m s l us) = lens us + l.length
  | [], _, _, _ => rfl
  | q :: r, s, us, h => by
    have hq := h q (.head _)
    rw [addAll, addAll_lens m r (s + 1) _ (fun x hx => by simp only [addUse, List.length_set]; exact h x (.tail _ hx))]
    have hk : q.toNat < us.length := by omega
    have := sum_set (l := us) (k := q.toNat) (u := (us[q.toNat]?).getD [] ++ [((m : Int), (s : Int))]) hk
    simp only [addUse, List.length_cons, List.length_append, List.length_nil] at this ⊢
    omega
def insAll (G : List Node) (R : List Bool) : Nat → Nat
  | 0 => 0
  | m + 1 => insAll G R m + (if R[m]? = some true then (insAt G m).length else 0)
theorem usersLoop_lens {G : List Node} (hin : ∀ (k : Nat) x, G[k]? = some x → ∀ q ∈ x.ins, 0 ≤ q ∧ q < k) {R : List Bool} : ∀ (m : Nat) (us : List Uses), us.length = G.length → lens (usersLoop G R m us) = lens us + insAll G R m
  | 0, us, _ => rfl
  | m + 1, us, h => by
    rw [usersLoop]
    unfold usersStep
    split
    · rename_i hr
      rw [usersLoop_lens hin m _ (by rw [addAll_len]; exact h), addAll_lens m _ _ _ (fun q hq => by have := insAt_mem hin (m := m) hq; omega)]
      simp only [insAll, if_pos hr, insAt]
      omega
    · rename_i hr
      rw [usersLoop_lens hin m _ h]
      simp [insAll, hr]
theorem insAll_above {G : List Node} {root : Nat} (hm : mayF G root = true) : ∀ d, insAll G (fromL G root) (root + 1 + d) = insAll G (fromL G root) (root + 1)
  | 0 => rfl
  | d + 1 => by
    have : ¬ (fromL G root)[root + 1 + d]? = some true := fun h => by have := fromL_above hm h; omega
    rw [← Nat.add_assoc, insAll, if_neg this, insAll_above hm d]
    rfl
/-- All counts together are the inputs of who is reached. -/
theorem lens_usersL {G : List Node} {root : Nat} (hm : mayF G root = true) : lens (usersL G root) = insAll G (fromL G root) G.length := by
  obtain ⟨_, h1, hin⟩ := mayF_spec hm
  unfold usersL
  rw [usersLoop_lens hin _ _ (by simp)]
  have h0 : lens (List.replicate G.length []) = 0 := by simp [lens]
  rw [h0, Nat.zero_add]
  have := insAll_above hm (G.length - (root + 1))
  rw [← this]
  congr 1
  omega
end Go.Sl
