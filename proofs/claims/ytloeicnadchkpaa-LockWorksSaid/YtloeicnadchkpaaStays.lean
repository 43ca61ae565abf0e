/- sched: tasks that wait for ever, run. -/
import Derived.Test.YtloeicnadchkpaaSched5
namespace Go.Sl
open Go.Proofs
attribute [local irreducible] SLc SLl SLo SLf Pu Rd

def stayW (k : Nat) : Task := ⟨.func (.func k) #[] #[], true, false, false⟩
/-- So many of them wait already. -/
def mid (k N n : Nat) : Sch := ⟨[], List.replicate n (stayW k) ++ List.replicate (N - n) (stayT k), n, -1, true⟩
theorem mid_len {k N n : Nat} (h : n ≤ N) : (mid k N n).tasks.length = N := by simp [mid]; omega
theorem mid_at {k N n i : Nat} (hi : i < N) : (mid k N n).tasks[i]? = some (if i < n then stayW k else stayT k) := by
  simp only [mid, List.getElem?_append, List.length_replicate, List.getElem?_replicate]
  split
  · rfl
  · rw [if_pos (by omega)]
theorem mid_can {k N n : Nat} (h : n ≤ N) : canN (mid k N n) = (List.range N).drop n := by
  unfold canN pickN
  rw [mid_len h]
  have key : ∀ i ∈ List.range N, (((mid k N n).tasks[i]?).map runsT).getD false = decide (n ≤ i) := by
    intro i hi
    rw [List.mem_range] at hi
    rw [mid_at hi]
    by_cases hin : i < n
    · simp [hin, runsT, stayW]
    · simp [hin, runsT, stayT]; omega
  rw [List.filter_congr key]
  have h2 : List.range N = List.range n ++ (List.range N).drop n := by
    have := List.take_append_drop n (List.range N)
    rw [List.take_range, Nat.min_eq_left h] at this
    exact this.symm
  conv => lhs; rw [h2]
  rw [List.filter_append]
  have h3 : (List.range n).filter (fun i => decide (n ≤ i)) = [] := by
    rw [List.filter_eq_nil_iff]
    intro i hi
    rw [List.mem_range] at hi
    simp; omega
  have h4 : ((List.range N).drop n).filter (fun i => decide (n ≤ i)) = (List.range N).drop n := by
    rw [List.filter_eq_self]
    intro i hi
    obtain ⟨j, hj⟩ := List.mem_iff_getElem?.1 hi
    rw [List.getElem?_drop] at hj
    have := (List.getElem?_eq_some_iff.1 hj).2
    simp at this
    simp; omega
  rw [h3, h4, List.nil_append]
theorem mid_picked {k N n i : Nat} (h : n ≤ N) (hp : picked (mid k N n) i) : i = n ∧ n < N := by
  unfold picked at hp
  rw [mid_can h] at hp
  have h0 : pickM (mid k N n) ((List.range N).drop n).length = 0 := by simp [pickM, mid]
  rw [h0, List.getElem?_drop] at hp
  have hlt := (List.getElem?_eq_some_iff.1 hp).1
  have hv := (List.getElem?_eq_some_iff.1 hp).2
  simp at hlt hv
  omega
theorem mid_step {k N n : Nat} (h : n < N) : afterStep (setNow (mid k N n) n) n 2 = mid k N (n + 1) := by
  have hat : (setNow (mid k N n) n).tasks[n]? = some (stayT k) := by
    have := mid_at (k := k) (n := n) h
    simpa [setNow] using this
  unfold afterStep
  rw [hat]
  simp only [setNow, mid]
  congr 1
  obtain ⟨d, rfl⟩ : ∃ d, N = n + (d + 1) := ⟨N - n - 1, by omega⟩
  rw [show n + (d + 1) - n = d + 1 by omega, show n + (d + 1) - (n + 1) = d by omega]
  have h1 : List.replicate (d + 1) (stayT k) = stayT k :: List.replicate d (stayT k) := List.replicate_succ
  have h2 : List.replicate (n + 1) (stayW k) = List.replicate n (stayW k) ++ [stayW k] := List.replicate_succ'
  have h3 : saidT 2 (stayT k) = stayW k := rfl
  rw [h1, h2, h3, List.set_append_right _ _ (by simp)]
  simp
def stayI (k N : Nat) (m : Sch) (_ : Unit) : Prop := ∃ n, n ≤ N ∧ m = mid k N n
def stayS (m : Sch) (_ : Unit) (i : Nat) (said : Int) (m' : Sch) (_ : Unit) : Prop := said = 2 ∧ m' = setNow m i
theorem stay_client {k N : Nat} (hN : N ≤ 128) : Client (stayI k N) stayS := by
  refine ⟨?_, ?_⟩
  · rintro m _ ⟨n, hn, rfl⟩
    refine ⟨⟨fun t ht => ?_, by rw [mid_len hn]; exact hN⟩, by simp [mid]⟩
    simp only [mid, List.mem_append, List.mem_replicate] at ht
    rcases ht with ⟨_, rfl⟩ | ⟨_, rfl⟩ <;> rfl
  · rintro m _ i said m' _ ⟨n, hn, rfl⟩ hp ⟨rfl, rfl⟩
    obtain ⟨rfl, hlt⟩ := mid_picked hn hp
    refine ⟨by simp only [setNow]; rw [mid_len hn]; exact hlt, by simp only [setNow, mid]; omega, i + 1, hlt, mid_step hlt⟩
theorem stay_runs {k N n : Nat} {m : Sch} {a : Unit} (h : RunTo stayS (mid k N 0) () n m a) : n ≤ N ∧ m = mid k N n := by
  generalize hm : mid k N 0 = m0 at h
  generalize () = a0 at h
  induction h with
  | zero => exact ⟨Nat.zero_le _, hm.symm⟩
  | step _ hp hs ih =>
    obtain ⟨hn, rfl⟩ := ih
    obtain ⟨rfl, rfl⟩ := hs
    obtain ⟨rfl, hlt⟩ := mid_picked hn hp
    exact ⟨hlt, mid_step hlt⟩
/-- All of them wait. -/
def staysW (k N : Nat) : Sch := ⟨[], List.replicate N (stayW k), N, -1, false⟩
theorem RunStays (W : World) (F : List Chunk) (sb : Nat) (pv lv : Value) (k N most : Nat) (hN : N ≤ 128) (hNm : N ≤ most) (hmost : most ≤ 1048576) (hp : Plain Try.prog k)
    (hk : ∀ F, SLf Try.prog W k [] F (fun v σ => v = .int .i64 2 ∧ σ = F)) :
    SLf Try.prog W 45 [ptr sb, .int .i64 (most : Int)] (schC sb pv lv (stays k N) ++ F) (fun r σ => ∃ lv', r = .tuple #[.int .i64 (N : Int), .int .i64 (errM (mid k N N))] ∧ σ = schC sb pv lv' (staysW k N) ++ F) := by
  have hspec : ∀ F : List Chunk, StepSpec W sb pv (fun _ : Unit => [] ++ F) (stayI k N) stayS := by
    intro F m a lv i t hI hpi hti htr
    obtain ⟨n, hn, rfl⟩ := hI
    obtain ⟨rfl, hlt⟩ := mid_picked hn hpi
    rw [mid_at hlt, if_neg (Nat.lt_irrefl i)] at hti
    simp only [Option.some.injEq] at hti
    subst hti
    refine ⟨k, [], [], rfl, hp, SLf.mono (hk _) ?_⟩
    rintro v σ ⟨rfl, rfl⟩
    exact ⟨2, lv, _, (), rfl, rfl, rfl, rfl⟩
  have h0 : setRuns (stays k N) true = mid k N 0 := by simp [setRuns, stays, mid]
  refine SLf.mono (Run_ok W F sb pv lv (fun _ : Unit => []) (stayI k N) stayS hspec (stay_client hN) (stays k N) () most ⟨0, Nat.zero_le _, h0⟩ rfl hmost) ?_
  rintro r σ ⟨n, lv', m, a, hrun, hIm, hend, hn, rfl, rfl⟩
  rw [h0] at hrun
  obtain ⟨hnN, rfl⟩ := stay_runs hrun
  have hnn : n = N := by
    rcases hend with h | h
    · rw [mid_can hnN] at h
      have := congrArg List.length h
      simp at this
      omega
    · omega
  subst hnn
  exact ⟨lv', rfl, by simp [setRuns, mid, staysW]⟩
end Go.Sl
