/- The plain laws of the meter's figures. -/
import Derived.Test.YtloeicnadchkpaaMEach
import Derived.Test.YtloeicnadchkpaaReachLaw
namespace Go.Sl

def sumTo (f : Nat → Nat) : Nat → Nat
  | 0 => 0
  | j + 1 => sumTo f j + f j
theorem sumTo_bump {a : Nat → Nat} {c : Nat} : ∀ j, sumTo (fun k => a k + (if c = k then 1 else 0)) j = sumTo a j + (if c < j then 1 else 0)
  | 0 => by simp [sumTo]
  | j + 1 => by
    simp only [sumTo]
    rw [sumTo_bump j]
    by_cases h1 : c < j
    · rw [if_pos h1, if_neg (by omega), if_pos (by omega)]; omega
    · by_cases h2 : c = j
      · rw [if_neg h1, if_pos h2, if_pos (by omega)]; omega
      · rw [if_neg h1, if_neg h2, if_neg (by omega)]; omega
theorem sumTo_le {f : Nat → Nat} {j n : Nat} (h : j ≤ n) : sumTo f j ≤ sumTo f n := by
  induction n with
  | zero => have : j = 0 := by omega
            subst this; exact Nat.le_refl _
  | succ n ih =>
    by_cases hj : j = n + 1
    · subst hj; exact Nat.le_refl _
    · have := ih (by omega)
      simp only [sumTo]
      omega
theorem sum_hist {G : List Node} {R : List Bool} : ∀ n, n ≤ G.length → sumTo (fun k => hcR G R k n) 17 = cnR R n
  | 0, _ => rfl
  | n + 1, h => by
    have ih := sum_hist (G := G) (R := R) n (by omega)
    have hx : G[n]? = some (G[n]'(by omega)) := List.getElem?_eq_getElem (by omega)
    generalize G[n]'(by omega) = x at hx
    by_cases hr : R[n]? = some true
    · have e : (fun k => hcR G R k (n + 1)) = fun k => hcR G R k n + (if kindOf x.op = k then 1 else 0) := by
        funext k
        simp [hcR, hr, hx]
      rw [e, sumTo_bump, ih, if_pos (kindOf_lt _)]
      simp [cnR, hr]
    · have e : (fun k => hcR G R k (n + 1)) = fun k => hcR G R k n := by
        funext k
        simp [hcR, hr]
      rw [e, ih]
      simp [cnR, hr]
theorem cnR_mono {R : List Bool} {a b : Nat} (h : a ≤ b) : cnR R a ≤ cnR R b := by
  induction b with
  | zero => have : a = 0 := by omega
            subst this; exact Nat.le_refl _
  | succ b ih =>
    by_cases hj : a = b + 1
    · subst hj; exact Nat.le_refl _
    · have := ih (by omega)
      simp only [cnR]
      omega
theorem dMark_le {v c : Int} (hv : v + 1 ≤ c) : ∀ (ins : List Int) (d : List Int), (∀ y ∈ d, y ≤ c) → (0 ≤ c) → ∀ y ∈ dMark d v ins, y ≤ c
  | [], _, h, _ => h
  | q :: r, d, h, h0 => by
    refine dMark_le hv r (d.set q.toNat (max ((d[q.toNat]?).getD 0) (v + 1))) ?_ h0
    intro y hy
    rcases List.mem_or_eq_of_mem_set hy with hy | rfl
    · exact h y hy
    · have : (d[q.toNat]?).getD 0 ≤ c := by
        cases hd : d[q.toNat]? with
        | none => exact h0
        | some z => exact h z (List.mem_of_getElem? hd)
      omega
theorem dLoop_le {G : List Node} {R : List Bool} : ∀ (m : Nat) (d : List Int) (b c : Int), (∀ y ∈ d, y ≤ c + 1) → b ≤ c → 0 ≤ c → dLoop G R m d b ≤ c + (cnR R m : Nat)
  | 0, d, b, c, _, hb, _ => by simp only [dLoop, cnR]; omega
  | m + 1, d, b, c, hd, hb, hc => by
    have hdm : (d[m]?).getD 0 ≤ c + 1 := by
      cases h : d[m]? with
      | none => simp only [Option.getD_none]; omega
      | some z => exact hd z (List.mem_of_getElem? h)
    simp only [dLoop, cnR]
    by_cases hr : R[m]? = some true
    · rw [if_pos hr, if_pos hr]
      have := dLoop_le (G := G) (R := R) m (dMark d ((d[m]?).getD 0) ((G[m]?.map (·.ins)).getD [])) (max b ((d[m]?).getD 0)) (c + 1) (dMark_le (by omega) _ d (fun y hy => by have := hd y hy; omega) (by omega)) (by omega) (by omega)
      omega
    · rw [if_neg hr, if_neg hr]
      exact dLoop_le m d b c hd hb hc
theorem dLoop_ge {G : List Node} {R : List Bool} : ∀ (m : Nat) (d : List Int) (b : Int), b ≤ dLoop G R m d b
  | 0, _, _ => Int.le_refl _
  | m + 1, d, b => by
    simp only [dLoop]
    split
    · have := dLoop_ge (G := G) (R := R) m (dMark d ((d[m]?).getD 0) ((G[m]?.map (·.ins)).getD [])) (max b ((d[m]?).getD 0))
      omega
    · exact dLoop_ge m d b
theorem depth_facts {G : List Node} {root : Nat} (hm : mayF G root = true) :
    1 ≤ depthL G (fromL G root) root ∧ depthL G (fromL G root) root ≤ (cnR (fromL G root) G.length : Nat) ∧ 1 ≤ cnR (fromL G root) G.length ∧ cnR (fromL G root) G.length ≤ G.length := by
  obtain ⟨h0, h1, hin⟩ := mayF_spec hm
  have hrt : (fromL G root)[root]? = some true := (fromL_iff hm root).2 (.inl rfl)
  generalize fromL G root = R at *
  have hmo : cnR R (root + 1) ≤ cnR R G.length := cnR_mono (by omega)
  have hs : cnR R (root + 1) = cnR R root + 1 := by simp [cnR, hrt]
  refine ⟨?_, ?_, by omega, cnR_le _⟩
  · unfold depthL
    simp only [dLoop]
    rw [if_pos hrt]
    refine Int.le_trans ?_ (dLoop_ge _ _ _)
    rw [List.getElem?_set_self (by simp; omega)]
    simp
    omega
  · have := dLoop_le (G := G) (R := R) (root + 1) ((List.replicate G.length 0).set root 1) 0 0 (fun y hy => by
      rcases List.mem_or_eq_of_mem_set hy with hy | rfl
      · rw [(List.mem_replicate.1 hy).2]; omega
      · omega) (Int.le_refl _) (Int.le_refl _)
    unfold depthL
    omega
theorem edges_insSum {G : List Node} : edgesL G G.length = insSum G := by unfold edgesL insSum; rw [List.take_length]
end Go.Sl
