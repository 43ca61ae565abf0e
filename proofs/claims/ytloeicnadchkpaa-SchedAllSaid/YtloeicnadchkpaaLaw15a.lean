/- backstitchlaw15.SchedAll: the walk. -/
import Derived.Test.YtloeicnadchkpaaAll15
import Derived.Test.YtloeicnadchkpaaAs15
namespace Go.Sl
open Go.Proofs
attribute [local irreducible] SLc SLl SLo SLf Pu Rd

def cloV (lfb pb ab okb b : Nat) : Value := .func (.func 44) #[] #[ptr lfb, ptr pb, ptr ab, ptr okb, ptr b]
def mkA (cl : Nat → Value) (p : Nat × Nat) (x : Nat) : Task := ⟨cl p.1, false, decide (x = 0), false⟩
def idC (p : Nat × Nat) : Chunk := .blk p.1 3 [.int .i64 (p.2 : Int)]
def Numbered (B : List (Nat × Nat)) : Prop := ∀ (i : Nat) (p : Nat × Nat), B[i]? = some p → p.2 = i
theorem numbered_snoc {B : List (Nat × Nat)} (h : Numbered B) (b : Nat) : Numbered (B ++ [(b, B.length)]) := by
  intro i p hp
  rw [List.getElem?_append] at hp
  split at hp
  · exact h i p hp
  · rename_i hi
    have h1 := (List.getElem?_eq_some_iff.1 hp).1
    rw [List.length_singleton] at h1
    rw [show i - B.length = 0 by omega] at hp
    simp at hp
    subst hp
    show B.length = i
    omega
theorem zw_at {α β γ : Type} {f : α → β → γ} {l : List α} {r : List β} {i : Nat} {a : α} {b : β} (h1 : l[i]? = some a) (h2 : r[i]? = some b) : (List.zipWith f l r)[i]? = some (f a b) := by
  simp [List.getElem?_zipWith, h1, h2]
theorem zw_set {α β γ : Type} {f : α → β → γ} : ∀ {l : List α} {r : List β} {i : Nat} {a : α} {b : β}, l[i]? = some a → (List.zipWith f l r).set i (f a b) = List.zipWith f l (r.set i b)
  | [], _, _, _, _, h => by simp at h
  | _ :: _, [], _, _, _, _ => by simp
  | _ :: _, _ :: _, 0, _, _, h => by simp at h; subst h; rfl
  | x :: l, y :: r, i + 1, a, b, h => by
    have := zw_set (f := f) (l := l) (r := r) (i := i) (b := b) (by simpa using h)
    simp only [List.zipWith_cons_cons, List.set_cons_succ]
    rw [this]
structure AA where
  left : List Nat
  at_ : Nat
def allM (P : List Nat) (cl : Nat → Value) (B : List (Nat × Nat)) (a : AA) : Sch := ⟨P, List.zipWith (mkA cl) B a.left, a.at_, -1, true⟩
structure AllI (P : List Nat) (cl : Nat → Value) (B : List (Nat × Nat)) (total : Nat) (m : Sch) (a : AA) : Prop where
  m : m = allM P cl B a
  len : a.left.length = B.length
  few : B.length ≤ 60
  small : ∀ y ∈ a.left, y ≤ 9
  sum : a.at_ + a.left.sum = total
  tot : total ≤ 600
  picks : ∀ n ∈ P, n < 256
def allS (m : Sch) (a : AA) (i : Nat) (said : Int) (m' : Sch) (a' : AA) : Prop := ∃ x, a.left[i]? = some (x + 1) ∧ said = (if x = 0 then 3 else 1) ∧ m' = setNow m i ∧ a' = ⟨a.left.set i x, a.at_ + 1⟩
section
variable {P : List Nat} {cl : Nat → Value} {B : List (Nat × Nat)} {total : Nat} {m : Sch} {a : AA}
theorem all_len (h : AllI P cl B total m a) : m.tasks.length = B.length := by
  rw [h.m]
  have := h.len
  simp only [allM, List.length_zipWith]
  omega
theorem all_can (h : AllI P cl B total m a) : canN m = posN a.left a.left.length := by
  have hl := all_len h
  have h2 := h.len
  unfold canN pickN posN
  rw [hl, h2]
  refine List.filter_congr fun i hi => ?_
  rw [List.mem_range] at hi
  have e1 : B[i]? = some B[i] := List.getElem?_eq_getElem hi
  have e2 : a.left[i]? = some (a.left[i]'(by omega)) := List.getElem?_eq_getElem (by omega)
  rw [h.m]
  simp only [allM]
  rw [zw_at e1 e2, e2]
  simp only [Option.map_some, Option.getD_some, runsT, mkA]
  generalize a.left[i]'(by omega) = x
  cases x <;> simp
theorem all_picked (h : AllI P cl B total m a) {i : Nat} (hp : picked m i) : (posN a.left a.left.length)[kOf P a.at_ (posN a.left a.left.length).length]? = some i := by
  unfold picked at hp
  rw [all_can h] at hp
  have e : pickM m (posN a.left a.left.length).length = kOf P a.at_ (posN a.left a.left.length).length := by rw [h.m]; rfl
  rwa [e] at hp
theorem all_client (hcl : ∀ b, (cl b).oneCell' = true) : Client (AllI P cl B total) allS := by
  refine ⟨fun m a h => ⟨⟨fun t ht => ?_, by rw [all_len h]; have := h.few; omega⟩, ?_⟩, ?_⟩
  · rw [h.m] at ht
    simp only [allM] at ht
    obtain ⟨j, hj⟩ := List.mem_iff_getElem?.1 ht
    rw [List.getElem?_zipWith] at hj
    split at hj
    · simp only [Option.some.injEq] at hj; subst hj; exact hcl _
    · cases hj
  · rw [h.m]; exact h.picks
  · intro m a i said m' a' h hp hS
    obtain ⟨x, hx, rfl, rfl, rfl⟩ := hS
    have hil := (List.getElem?_eq_some_iff.1 hx).1
    have hlen := h.len
    have hml := all_len h
    have hsum := h.sum
    have htot := h.tot
    have hB : B[i]? = some (B[i]'(by omega)) := List.getElem?_eq_getElem (by omega)
    generalize B[i]'(by omega) = p at hB
    have hs := sum_set (b := x) hx
    have hmade : m.made = a.at_ := by rw [h.m]; rfl
    refine ⟨by simp only [setNow]; omega, by simp only [setNow]; omega, ?_, by simpa using h.len, h.few, ?_, by dsimp only; omega, h.tot, h.picks⟩
    · have ht : (setNow m i).tasks[i]? = some (mkA cl p (x + 1)) := by rw [h.m]; exact zw_at hB hx
      have hsaid : saidT (if x = 0 then 3 else 1) (mkA cl p (x + 1)) = mkA cl p x := by
        cases x <;> simp [saidT, mkA]
      unfold afterStep
      rw [ht]
      dsimp only
      rw [hsaid, h.m]
      simp only [setNow, allM]
      rw [zw_set hB]
    · intro y hy
      rcases List.mem_or_eq_of_mem_set hy with hy | rfl
      · exact h.small y hy
      · have := h.small _ (List.mem_of_getElem? hx)
        omega
theorem all_runs {m0 : Sch} {a0 : AA} {n : Nat} (h : RunTo allS m0 a0 n m a) : a.at_ = a0.at_ + n := by
  induction h with
  | zero => rfl
  | step _ _ hs ih =>
    obtain ⟨x, _, _, _, rfl⟩ := hs
    dsimp only
    omega
theorem sum_zero {l : List Nat} (h : ∀ y ∈ l, y = 0) : l.sum = 0 := by
  induction l with
  | nil => rfl
  | cons x r ih =>
    have h1 := h x (.head _)
    have h2 := ih fun y hy => h y (.tail _ hy)
    simp [h1, h2]
theorem all_ends (h : AllI P cl B total m a) (hc : canN m = []) : a.at_ = total ∧ errM m = 0 ∧ openN m = 0 := by
  have hz : ∀ y ∈ a.left, y = 0 := by
    intro y hy
    obtain ⟨j, hj⟩ := List.mem_iff_getElem?.1 hy
    cases y with
    | zero => rfl
    | succ y =>
      have h1 := posN_at (List.getElem?_eq_some_iff.1 hj).1 hj (Nat.succ_pos y)
      rw [all_can h] at hc
      rw [hc] at h1
      simp at h1
  have hs := h.sum
  rw [sum_zero hz] at hs
  have ho : openN m = 0 := by
    unfold openN openUp
    rw [List.take_length, List.length_eq_zero_iff, List.filter_eq_nil_iff]
    intro t ht
    rw [h.m] at ht
    simp only [allM] at ht
    obtain ⟨j, hj⟩ := List.mem_iff_getElem?.1 ht
    rw [List.getElem?_zipWith] at hj
    split at hj
    · rename_i p x hp hx
      simp only [Option.some.injEq] at hj
      subst hj
      have := hz x (List.mem_of_getElem? hx)
      simp [mkA, this]
    · cases hj
  exact ⟨by omega, by simp [errM, hc, ho], ho⟩
theorem zw_fresh : ∀ {B : List (Nat × Nat)} {l : List Nat}, B.length = l.length → (∀ y ∈ l, 0 < y) → List.zipWith (mkA cl) B l = B.map fun p => ⟨cl p.1, false, false, false⟩
  | [], [], _, _ => rfl
  | [], _ :: _, h, _ => by simp at h
  | _ :: _, [], h, _ => by simp at h
  | p :: B, y :: l, h, hy => by
    have h1 := zw_fresh (B := B) (l := l) (by simpa using h) fun y h => hy y (.tail _ h)
    have h2 : decide (y = 0) = false := by have := hy y (.head _); simp; omega
    simp only [List.zipWith_cons_cons, List.map_cons, h1, mkA, h2]
end
def aaC (lfb pb ab okb : Nat) (leftv pv : Value) (B : List (Nat × Nat)) (a : AA) : List Chunk := .blk lfb 32 [leftv] :: .row leftv 3 1 (natL a.left) :: .blk pb 59 [pv] :: .blk ab 3 [.int .i64 (a.at_ : Int)] :: .blk okb 4 [.bool true] :: B.map idC
theorem all_spec (W : World) (lfb pb ab okb sb : Nat) (leftv pv qv : Value) (P : List Nat) (B : List (Nat × Nat)) (total : Nat) (hP : Rs W [] pv 1 (u8L P)) (hB : Numbered B) (F : List Chunk) :
    StepSpec W sb qv (fun a => aaC lfb pb ab okb leftv pv B a ++ F) (AllI P (cloV lfb pb ab okb) B total) allS := by
  intro m a lv i t h hpi hti htr
  have hk := all_picked h hpi
  obtain ⟨hil, x, hx⟩ := posN_mem (List.mem_of_getElem? hk)
  have hlen := h.len
  have hsum := h.sum
  have htot := h.tot
  have hb : B[i]? = some (B[i]'(by omega)) := List.getElem?_eq_getElem (by omega)
  have hnum := hB _ _ hb
  generalize B[i]'(by omega) = p at hb hnum
  have hst : t.step = cloV lfb pb ab okb p.1 := by
    rw [h.m] at hti
    simp only [allM] at hti
    rw [zw_at hb hx] at hti
    simp only [Option.some.injEq] at hti
    subst hti
    rfl
  obtain ⟨pb0, pi⟩ := p
  dsimp only at hnum hst
  subst hnum
  refine ⟨44, [], [ptr lfb, ptr pb, ptr ab, ptr okb, ptr pb0], hst, plain44, ?_⟩
  refine SLf.ent (.trans .out5 (.cons .here (.cons .here (.cons .here (.cons .here (.cons .here (.cons (Sel.right _ (Sel.app (Sel.many (f := idC) hb))) .refl)))))))
    (SLf.to (All1_ok W _ lfb pb ab okb pb0 leftv pv a.left P a.at_ pi x hP h.picks (by have := h.few; omega) h.small (by omega) hx hk) ?_)
  rintro v σ ⟨rfl, rfl⟩
  refine ⟨_, ?_, _, lv, _, ⟨a.left.set pi x, a.at_ + 1⟩, rfl, rfl, x, hx, rfl, rfl, rfl⟩
  refine .trans (.cons .here (.cons .here (.cons .here (.cons .here (.cons .here (.trans .into (.left _ (.perm ((perm_many (f := idC) (p' := (pb0, pi)) (List.getElem?_eq_some_iff.1 hb).1).append_right F)))))))))
    ?_
  rw [set_same hb]
  exact .in5
end Go.Sl
