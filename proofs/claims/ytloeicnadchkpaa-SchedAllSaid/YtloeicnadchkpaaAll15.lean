/- backstitchlaw15.SchedAll: what a task does; all tasks run. -/
import Derived.Test.YtloeicnadchkpaaTask15c
namespace Go.Sl
open Go.Proofs
attribute [local irreducible] SLc SLl SLo SLf Pu Rd

/-- Where something is left, among the first so many. -/
def posN (l : List Nat) (n : Nat) : List Nat := (List.range n).filter fun j => decide (0 < (l[j]?).getD 0)
theorem posN_succ {l : List Nat} {k x : Nat} (h : l[k]? = some x) : posN l (k + 1) = if 0 < x then posN l k ++ [k] else posN l k := by
  unfold posN
  rw [List.range_succ, List.filter_append]
  simp only [List.filter_cons, List.filter_nil, h, Option.getD_some]
  by_cases hx : 0 < x <;> simp [hx]
theorem posN_le {l : List Nat} {k : Nat} : (posN l k).length ≤ k := by
  have := List.length_filter_le (fun j => decide (0 < (l[j]?).getD 0)) (List.range k)
  simpa [posN] using this
theorem posN_at {l : List Nat} {k n x : Nat} (hk : k < n) (h : l[k]? = some x) (hx : 0 < x) : (posN l n)[(posN l k).length]? = some k := by
  have h1 := posN_succ h
  rw [if_pos hx] at h1
  have h2 : ∃ r, posN l n = posN l (k + 1) ++ r := by
    unfold posN
    have h3 := List.take_append_drop (k + 1) (List.range n)
    rw [List.take_range, Nat.min_eq_left hk] at h3
    refine ⟨((List.range n).drop (k + 1)).filter (fun j => decide (0 < (l[j]?).getD 0)), ?_⟩
    rw [← List.filter_append, h3]
  obtain ⟨r, hr⟩ := h2
  rw [hr, h1, List.append_assoc, List.getElem?_append_right (Nat.le_refl _)]
  simp
theorem posN_mem {l : List Nat} {n i : Nat} (h : i ∈ posN l n) : i < n ∧ ∃ x, l[i]? = some (x + 1) := by
  unfold posN at h
  rw [List.mem_filter, List.mem_range] at h
  obtain ⟨h1, h2⟩ := h
  cases hx : l[i]? with
  | none => simp [hx] at h2
  | some x =>
    cases x with
    | zero => simp [hx] at h2
    | succ x => exact ⟨h1, x, rfl⟩
def kOf (P : List Nat) (at_ many : Nat) : Nat := ((P[at_ % P.length]?).getD 0) % many
set_option pp.maxSteps 1000000 in
set_option pp.deepTerms true in
set_option maxHeartbeats 2000000 in
theorem All1_ok (W : World) (F : List Chunk) (lfb pb ab okb idb : Nat) (leftv pv : Value) (left P : List Nat) (at_ i x : Nat) (hP : Rs W [] pv 1 (u8L P)) (hPk : ∀ n ∈ P, n < 256) (hll : left.length ≤ 60) (hlm : ∀ y ∈ left, y ≤ 9)
    (hat : at_ ≤ 1000000) (hx : left[i]? = some (x + 1)) (hk : (posN left left.length)[kOf P at_ (posN left left.length).length]? = some i) :
    SLf Try.prog W 44 [ptr lfb, ptr pb, ptr ab, ptr okb, ptr idb] (.blk lfb 32 [leftv] :: .row leftv 3 1 (natL left) :: .blk pb 59 [pv] :: .blk ab 3 [.int .i64 (at_ : Int)] :: .blk okb 4 [.bool true] :: .blk idb 3 [.int .i64 (i : Int)] :: F)
      (fun v σ => v = .int .i64 (if x = 0 then 3 else 1) ∧ σ = .blk lfb 32 [leftv] :: .row leftv 3 1 (natL (left.set i x)) :: .blk pb 59 [pv] :: .blk ab 3 [.int .i64 ((at_ + 1 : Nat) : Int)] :: .blk okb 4 [.bool true] :: .blk idb 3 [.int .i64 (i : Int)] :: F) := by
  have hnl := @natL_len left
  have hul := @u8L_len P
  have hil := (List.getElem?_eq_some_iff.1 hx).1
  have hxc := natL_at hx
  have hx9 := hlm _ (List.mem_of_getElem? hx)
  have hkl := (List.getElem?_eq_some_iff.1 hk).1
  have hmany := @posN_le left left.length
  refine SLf.enter Try.func44 rfl (Nat.le_of_ble_eq_true rfl) ?_
  (repeat' (first | (first | refine SLl.nil ?_ | ((show SLl _ _ _ _ _ (⟨⟨_, _, _, _, _, _⟩, _, _⟩ :: _) _ _ _); refine SLl.ev rfl rfl rfl rfl ?_)) | (first | refine SLc.seq ?_ | refine SLc.region rfl ?_ | refine SLc.block ?_)))
  refine SLc.loop (ι := Nat) (fun j => [(8, .int .i64 j), (7, .int .i64 ((posN left j).length : Nat)), (6, .int .i64 0), (0, ptr lfb), (1, ptr pb), (2, ptr ab), (3, ptr okb), (4, ptr idb)]) (fun _ => .blk lfb 32 [leftv] :: .row leftv 3 1 (natL left) :: .blk pb 59 [pv] :: .blk ab 3 [.int .i64 (at_ : Int)] :: .blk okb 4 [.bool true] :: .blk idb 3 [.int .i64 (i : Int)] :: F) (fun j => j ≤ left.length) (fun j => left.length - j) 0 (Nat.zero_le _) (by (repeat' (first | exact trivial | apply And.intro | rfl))) .refl ?_
  intro j hj
  by_cases hjl : j < left.length
  · have hy : left[j]? = some left[j] := List.getElem?_eq_getElem hjl
    generalize left[j] = y at hy
    have hyc := natL_at hy
    have hps := posN_succ hy
    have hple := @posN_le left j
    by_cases hy0 : 0 < y
    · rw [if_pos hy0] at hps
      have hps2 := congrArg List.length hps
      rw [List.length_append, List.length_singleton] at hps2
      generalize (posN left j).length = q at *
      (repeat' (first | (first | refine SLl.nil ?_ | ((show SLl _ _ _ _ _ (⟨⟨_, _, _, _, _, _⟩, _, _⟩ :: _) _ _ _); first | refine SLl.ev rfl rfl rfl rfl ?_ | ((show SLl _ _ _ _ _ (⟨⟨_, .load _ _, _, _, _, _⟩, _, _⟩ :: _) _ _ _); (refine SLl.rdSeq rfl rfl (Rd.load rfl rfl (by (first | (apply Reads.blk; (· (repeat (apply Sel.here))); (· rfl)) | (apply Reads.row; (· (repeat (first | apply Sel.here | apply Sel.there))); (· (assumption)); (· rfl))))) ?_)) | ((show SLl _ _ _ _ _ (⟨⟨_, .indexAddr _ _ _, _, _, _, _⟩, _, _⟩ :: _) _ _ _); (refine SLl.rdSeq rfl rfl (Rd.indexAddr rfl rfl (by ((apply Len.row; (· (repeat (first | apply Sel.here | apply Sel.there)))))) (by (rfl)) (by omega)) ?_)) | ((show SLl _ _ _ _ _ (⟨⟨_, .call ⟨.builtin .len, _, _⟩, _, _, _, _⟩, _, _⟩ :: _) _ _ _); refine SLl.rdSeq rfl rfl (Rd.len rfl (by ((apply Len.row; (· (repeat (first | apply Sel.here | apply Sel.there))))))) ?_) | ((show SLl _ _ _ _ _ (⟨⟨_, .binOp _ _ _ _ _, _, _, _, _⟩, _, _⟩ :: _) _ _ _); (first | refine SLl.pu rfl rfl rfl (Pu.add rfl rfl (IntWalk.i64_in _ (by omega))) ?_ | (refine SLl.cmp rfl rfl rfl rfl rfl rfl ?_ ?_ <;> intro hq <;> simp only [cmpP] at hq <;> try ((exfalso; omega))))))) | (first | refine SLc.seq ?_ | refine SLc.region rfl ?_ | refine SLc.condT rfl ?_ | refine SLc.block ?_ | refine SLc.skip ?_)))
      refine And.intro rfl (Exists.intro (j + 1) (And.intro (by omega) (And.intro (by omega) (And.intro ?_ .refl))))
      refine ⟨rfl, ?_, rfl, rfl, rfl, rfl, rfl, rfl, trivial⟩
      rw [hps2]
      rfl
    · rw [if_neg hy0] at hps
      rw [← hps]
      (repeat' (first | (first | refine SLl.nil ?_ | ((show SLl _ _ _ _ _ (⟨⟨_, _, _, _, _, _⟩, _, _⟩ :: _) _ _ _); first | refine SLl.ev rfl rfl rfl rfl ?_ | ((show SLl _ _ _ _ _ (⟨⟨_, .load _ _, _, _, _, _⟩, _, _⟩ :: _) _ _ _); (refine SLl.rdSeq rfl rfl (Rd.load rfl rfl (by (first | (apply Reads.blk; (· (repeat (apply Sel.here))); (· rfl)) | (apply Reads.row; (· (repeat (first | apply Sel.here | apply Sel.there))); (· (assumption)); (· rfl))))) ?_)) | ((show SLl _ _ _ _ _ (⟨⟨_, .indexAddr _ _ _, _, _, _, _⟩, _, _⟩ :: _) _ _ _); (refine SLl.rdSeq rfl rfl (Rd.indexAddr rfl rfl (by ((apply Len.row; (· (repeat (first | apply Sel.here | apply Sel.there)))))) (by (rfl)) (by omega)) ?_)) | ((show SLl _ _ _ _ _ (⟨⟨_, .call ⟨.builtin .len, _, _⟩, _, _, _, _⟩, _, _⟩ :: _) _ _ _); refine SLl.rdSeq rfl rfl (Rd.len rfl (by ((apply Len.row; (· (repeat (first | apply Sel.here | apply Sel.there))))))) ?_) | ((show SLl _ _ _ _ _ (⟨⟨_, .binOp _ _ _ _ _, _, _, _, _⟩, _, _⟩ :: _) _ _ _); (first | refine SLl.pu rfl rfl rfl (Pu.add rfl rfl (IntWalk.i64_in _ (by omega))) ?_ | (refine SLl.cmp rfl rfl rfl rfl rfl rfl ?_ ?_ <;> intro hq <;> simp only [cmpP] at hq <;> try ((exfalso; omega))))))) | (first | refine SLc.seq ?_ | refine SLc.region rfl ?_ | refine SLc.condT rfl ?_ | refine SLc.condF rfl ?_ | refine SLc.block ?_ | refine SLc.skip ?_)))
      exact And.intro rfl (Exists.intro (j + 1) (And.intro (by omega) (And.intro (by omega) (And.intro (by (repeat' (first | exact trivial | apply And.intro | rfl))) .refl))))
  obtain rfl : j = left.length := by omega
  generalize hkk : kOf P at_ (posN left left.length).length = k at hk hkl
  generalize hmm : (posN left left.length).length = many at hkk hkl hmany ⊢
  have key : (P.length = 0 ∧ k = 0) ∨ (∃ z, 0 < P.length ∧ (u8L P)[at_ % (u8L P).length]? = some [.int .u8 ((z : Nat) : Int)] ∧ z < 256 ∧ k = z % many) := by
    rw [hul]
    by_cases hp0 : P.length = 0
    · refine .inl ⟨hp0, ?_⟩
      have : P = [] := List.length_eq_zero_iff.1 hp0
      rw [← hkk, this]
      simp [kOf]
    · have hlt : at_ % P.length < P.length := Nat.mod_lt _ (by omega)
      have hz : P[at_ % P.length]? = some P[at_ % P.length] := List.getElem?_eq_getElem hlt
      exact .inr ⟨P[at_ % P.length], by omega, u8L_at hz, hPk _ (List.getElem_mem hlt), by rw [← hkk]; simp [kOf, hz]⟩
  clear hkk
  have hiu : (natL left).set i [.int .i64 (x : Int)] = natL (left.set i x) := by simp [natL, ints, List.map_set, natI]
  have hset0 : (natL (left.set i x))[i]? = some [.int .i64 (x : Int)] := natL_at (List.getElem?_set_self hil)
  have hsetl : (natL (left.set i x)).length = left.length := by rw [natL_len, List.length_set]
  have hcnt : ∀ j y, left[j]? = some y → 0 < y → (posN left j).length < many ∧ ((posN left j).length = k → j = i) := fun j y hy hy0 => by
    have hjl := (List.getElem?_eq_some_iff.1 hy).1
    have h1 := posN_at hjl hy hy0
    refine ⟨by rw [← hmm]; exact (List.getElem?_eq_some_iff.1 h1).1, fun h => ?_⟩
    rw [h, hk] at h1
    simpa using h1.symm
  rcases key with ⟨hp0, hkk⟩ | ⟨z, hp0, hzc, hz2, hkk⟩
  · (repeat' (first | (first | refine SLl.nil ?_ | ((show SLl _ _ _ _ _ (⟨⟨_, _, _, _, _, _⟩, _, _⟩ :: _) _ _ _); first | refine SLl.ev rfl rfl rfl rfl ?_ | ((show SLl _ _ _ _ _ (⟨⟨_, .load _ _, _, _, _, _⟩, _, _⟩ :: _) _ _ _); (refine SLl.rdSeq rfl rfl (Rd.load rfl rfl (by ((apply Reads.blk; (· (repeat (first | apply Sel.here | apply Sel.there))); (· rfl))))) ?_)) | ((show SLl _ _ _ _ _ (⟨⟨_, .call ⟨.builtin .len, _, _⟩, _, _, _, _⟩, _, _⟩ :: _) _ _ _); refine SLl.rdSeq rfl rfl (Rd.len rfl (by (first | (apply Len.row; (· (repeat (first | apply Sel.here | apply Sel.there)))) | (apply Len.rs; exact Rs.mono (by assumption) (by (repeat' (exact Ent.drop))))))) ?_) | ((show SLl _ _ _ _ _ (⟨⟨_, .binOp _ _ _ _ _, _, _, _, _⟩, _, _⟩ :: _) _ _ _); (first | refine SLl.pu rfl rfl rfl (Pu.add rfl rfl (IntWalk.i64_in _ (by omega))) ?_ | (refine SLl.cmp rfl rfl rfl rfl rfl rfl ?_ ?_ <;> intro hq <;> simp only [cmpP] at hq <;> try ((exfalso; omega))))) | ((show SLl _ _ _ _ _ (⟨⟨_, .store _ _ _, _, _, _, _⟩, _, _⟩ :: _) _ _ _); ((refine SLl.seq0 rfl (SLo.store rfl rfl rfl (by (exact One.lit rfl)) (by ((apply Wr.blk; (· (repeat (first | apply Upd.here | apply Upd.there))); (· exact Nat.le_of_ble_eq_true rfl)))) ?_)))))) | (first | refine SLc.seq ?_ | refine SLc.region rfl ?_ | refine SLc.condF rfl ?_ | refine SLc.block ?_ | refine SLc.skip ?_ | refine SLc.exit ?_)))
    refine SLc.weaken (e' := [(9, .int .i64 0), (6, .int .i64 (k : Int)), (0, ptr lfb), (1, ptr pb), (2, ptr ab), (3, ptr okb), (4, ptr idb)]) (by rw [hkk]; (repeat' (first | exact trivial | apply And.intro | rfl))) .refl ?_
    refine SLc.loop (ι := Nat × Nat) (fun s => [(9, .int .i64 s.1), (6, .int .i64 s.2), (0, ptr lfb), (1, ptr pb), (2, ptr ab), (3, ptr okb), (4, ptr idb)]) (fun _ => .blk lfb 32 [leftv] :: .row leftv 3 1 (natL left) :: .blk pb 59 [pv] :: .blk ab 3 [.int .i64 ((at_ + 1 : Nat) : Int)] :: .blk okb 4 [.bool true] :: .blk idb 3 [.int .i64 (i : Int)] :: F) (fun s => s.1 ≤ left.length ∧ s.2 + (posN left s.1).length = k) (fun s => left.length - s.1) (0, k) ⟨Nat.zero_le _, by simp [posN]⟩ (by (repeat' (first | exact trivial | apply And.intro | rfl))) .refl ?_
    rintro ⟨j, r⟩ ⟨hj, hrj⟩
    dsimp only at hj hrj ⊢
    by_cases hjl : j < left.length
    · have hy : left[j]? = some left[j] := List.getElem?_eq_getElem hjl
      generalize left[j] = y at hy
      have hyc := natL_at hy
      have hps := posN_succ hy
      by_cases hy0 : 0 < y
      · obtain ⟨hc1, hc2⟩ := hcnt j y hy hy0
        rw [if_pos hy0] at hps
        have hps2 := congrArg List.length hps
        rw [List.length_append, List.length_singleton] at hps2
        by_cases hr0 : r = 0
        · have hji : j = i := hc2 (by omega)
          subst hr0 hji
          obtain rfl : y = x + 1 := by rw [hx] at hy; simpa using hy.symm
          have hiu2 : (natL left).set j ([Value.int .i64 ((x + 1 : Nat) : Int)].set 0 (.int .i64 (((x + 1 : Nat) : Int) - 1))) = natL (left.set j x) := by
            rw [← hiu, show (((x + 1 : Nat) : Int) - 1) = x by omega]
            rfl
          by_cases hx0 : x = 0
          all_goals
            first | rw [if_pos hx0] | rw [if_neg hx0]
            (repeat' (first | (first | refine SLl.nil ?_ | ((show SLl _ _ _ _ _ (⟨⟨_, _, _, _, _, _⟩, _, _⟩ :: _) _ _ _); first | refine SLl.ev rfl rfl rfl rfl ?_ | ((show SLl _ _ _ _ _ (⟨⟨_, .load _ _, _, _, _, _⟩, _, _⟩ :: _) _ _ _); (refine SLl.rdSeq rfl rfl (Rd.load rfl rfl (by (first | (apply Reads.blk; (· (repeat (first | apply Sel.here | apply Sel.there))); (· rfl)) | (apply Reads.row; (· (repeat (first | apply Sel.here | apply Sel.there))); (· (assumption)); (· rfl))))) ?_)) | ((show SLl _ _ _ _ _ (⟨⟨_, .indexAddr _ _ _, _, _, _, _⟩, _, _⟩ :: _) _ _ _); (refine SLl.rdSeq rfl rfl (Rd.indexAddr rfl rfl (by ((apply Len.row; (· (repeat (first | apply Sel.here | apply Sel.there)))))) (by (rfl)) (by omega)) ?_)) | ((show SLl _ _ _ _ _ (⟨⟨_, .call ⟨.builtin .len, _, _⟩, _, _, _, _⟩, _, _⟩ :: _) _ _ _); refine SLl.rdSeq rfl rfl (Rd.len rfl (by ((apply Len.row; (· (repeat (first | apply Sel.here | apply Sel.there))))))) ?_) | ((show SLl _ _ _ _ _ (⟨⟨_, .binOp _ _ _ _ _, _, _, _, _⟩, _, _⟩ :: _) _ _ _); (first | refine SLl.pu rfl rfl rfl (Pu.sub rfl rfl (IntWalk.i64_in _ (by omega))) ?_ | (refine SLl.cmp rfl rfl rfl rfl rfl rfl ?_ ?_ <;> intro hq <;> simp only [cmpP] at hq <;> try (first | exact (hq trivial).elim | (exfalso; omega))))) | ((show SLl _ _ _ _ _ (⟨⟨_, .store _ _ _, _, _, _, _⟩, _, _⟩ :: _) _ _ _); ((refine SLl.seq0 rfl (SLo.store rfl rfl rfl (by (exact One.lit rfl)) (by (first | (apply Wr.blk; (· (repeat (first | apply Upd.here | apply Upd.there))); (· exact Nat.le_of_ble_eq_true rfl)) | (apply Wr.row; (· (assumption)); (· exact Nat.le_of_ble_eq_true rfl); (· (repeat (first | apply Upd.here | apply Upd.there)))))) ?_)))))) | (first | refine SLc.seq ?_ | refine SLc.region rfl ?_ | refine SLc.condT rfl ?_ | refine SLc.block ?_ | refine SLc.skip ?_ | refine SLc.exit ?_)))
            rw [hiu2]
            (repeat' (first | (first | refine SLl.nil ?_ | ((show SLl _ _ _ _ _ (⟨⟨_, _, _, _, _, _⟩, _, _⟩ :: _) _ _ _); first | refine SLl.ev rfl rfl rfl rfl ?_ | ((show SLl _ _ _ _ _ (⟨⟨_, .load _ _, _, _, _, _⟩, _, _⟩ :: _) _ _ _); (refine SLl.rdSeq rfl rfl (Rd.load rfl rfl (by ((apply Reads.row; (· (repeat (first | apply Sel.here | apply Sel.there))); (· (assumption)); (· rfl))))) ?_)) | ((show SLl _ _ _ _ _ (⟨⟨_, .indexAddr _ _ _, _, _, _, _⟩, _, _⟩ :: _) _ _ _); (refine SLl.rdSeq rfl rfl (Rd.indexAddr rfl rfl (by ((apply Len.row; (· (repeat (first | apply Sel.here | apply Sel.there)))))) (by (rfl)) (by omega)) ?_)) | ((show SLl _ _ _ _ _ (⟨⟨_, .binOp _ _ _ _ _, _, _, _, _⟩, _, _⟩ :: _) _ _ _); ((refine SLl.cmp rfl rfl rfl rfl rfl rfl ?_ ?_ <;> intro hq <;> simp only [cmpP] at hq <;> try ((exfalso; omega))))))) | (first | refine SLc.seq ?_ | refine SLc.region rfl ?_ | refine SLc.condT rfl ?_ | refine SLc.condF rfl ?_ | refine SLc.skip ?_ | refine SLc.ret ?_)))
            exact And.intro rfl (Exists.intro _ (Exists.intro _ (And.intro rfl (And.intro .refl (And.intro rfl rfl)))))
        · (repeat' (first | (((show SLl _ _ _ _ _ (⟨⟨_, _, _, _, _, _⟩, _, _⟩ :: _) _ _ _); first | refine SLl.ev rfl rfl rfl rfl ?_ | ((show SLl _ _ _ _ _ (⟨⟨_, .load _ _, _, _, _, _⟩, _, _⟩ :: _) _ _ _); (refine SLl.rdSeq rfl rfl (Rd.load rfl rfl (by ((apply Reads.blk; (· (repeat (apply Sel.here))); (· rfl))))) ?_)) | ((show SLl _ _ _ _ _ (⟨⟨_, .call ⟨.builtin .len, _, _⟩, _, _, _, _⟩, _, _⟩ :: _) _ _ _); refine SLl.rdSeq rfl rfl (Rd.len rfl (by ((apply Len.row; (· (repeat (first | apply Sel.here | apply Sel.there))))))) ?_) | ((show SLl _ _ _ _ _ (⟨⟨_, .binOp _ _ _ _ _, _, _, _, _⟩, _, _⟩ :: _) _ _ _); ((refine SLl.cmp rfl rfl rfl rfl rfl rfl ?_ ?_ <;> intro hq <;> simp only [cmpP] at hq <;> try ((exfalso; omega))))))) | (first | refine SLc.seq ?_ | refine SLc.region rfl ?_)))
          all_goals refine And.intro rfl (Exists.intro (j + 1, r - 1) (And.intro ⟨by dsimp only; omega, by dsimp only; omega⟩ (And.intro (by dsimp only; omega) (And.intro ?_ .refl))))
          all_goals
            refine ⟨rfl, ?_, rfl, rfl, rfl, rfl, rfl, trivial⟩
            dsimp only
            rw [show ((r - 1 : Nat) : Int) = (r : Int) - 1 by omega]
            rfl
      · rw [if_neg hy0] at hps
        (repeat' (first | (first | refine SLl.nil ?_ | ((show SLl _ _ _ _ _ (⟨⟨_, _, _, _, _, _⟩, _, _⟩ :: _) _ _ _); first | refine SLl.ev rfl rfl rfl rfl ?_ | ((show SLl _ _ _ _ _ (⟨⟨_, .load _ _, _, _, _, _⟩, _, _⟩ :: _) _ _ _); (refine SLl.rdSeq rfl rfl (Rd.load rfl rfl (by (first | (apply Reads.blk; (· (repeat (apply Sel.here))); (· rfl)) | (apply Reads.row; (· (repeat (first | apply Sel.here | apply Sel.there))); (· (assumption)); (· rfl))))) ?_)) | ((show SLl _ _ _ _ _ (⟨⟨_, .indexAddr _ _ _, _, _, _, _⟩, _, _⟩ :: _) _ _ _); (refine SLl.rdSeq rfl rfl (Rd.indexAddr rfl rfl (by ((apply Len.row; (· (repeat (first | apply Sel.here | apply Sel.there)))))) (by (rfl)) (by omega)) ?_)) | ((show SLl _ _ _ _ _ (⟨⟨_, .call ⟨.builtin .len, _, _⟩, _, _, _, _⟩, _, _⟩ :: _) _ _ _); refine SLl.rdSeq rfl rfl (Rd.len rfl (by ((apply Len.row; (· (repeat (first | apply Sel.here | apply Sel.there))))))) ?_) | ((show SLl _ _ _ _ _ (⟨⟨_, .binOp _ _ _ _ _, _, _, _, _⟩, _, _⟩ :: _) _ _ _); (first | refine SLl.pu rfl rfl rfl (Pu.add rfl rfl (IntWalk.i64_in _ (by omega))) ?_ | (refine SLl.cmp rfl rfl rfl rfl rfl rfl ?_ ?_ <;> intro hq <;> simp only [cmpP] at hq <;> try ((exfalso; omega))))) | refine SLl.skip rfl rfl ?_)) | (first | refine SLc.seq ?_ | refine SLc.region rfl ?_ | refine SLc.condT rfl ?_ | refine SLc.condF rfl ?_ | refine SLc.block ?_ | refine SLc.skip ?_)))
        exact And.intro rfl (Exists.intro (j + 1, r) (And.intro ⟨by dsimp only; omega, by dsimp only; rw [hps]; exact hrj⟩ (And.intro (by dsimp only; omega) (And.intro (by (repeat' (first | exact trivial | apply And.intro | rfl))) .refl))))
    · exfalso
      have hje : j = left.length := by omega
      rw [hje, hmm] at hrj
      omega
  · have hml : at_ % (u8L P).length < (u8L P).length := Nat.mod_lt _ (by omega)
    (repeat' (first | (first | refine SLl.nil ?_ | ((show SLl _ _ _ _ _ (⟨⟨_, _, _, _, _, _⟩, _, _⟩ :: _) _ _ _); first | refine SLl.ev rfl rfl rfl rfl ?_ | ((show SLl _ _ _ _ _ (⟨⟨_, .load _ _, _, _, _, _⟩, _, _⟩ :: _) _ _ _); (refine SLl.rdSeq rfl rfl (Rd.load rfl rfl (by ((apply Reads.blk; (· (repeat (first | apply Sel.here | apply Sel.there))); (· rfl))))) ?_)) | ((show SLl _ _ _ _ _ (⟨⟨_, .call ⟨.builtin .len, _, _⟩, _, _, _, _⟩, _, _⟩ :: _) _ _ _); refine SLl.rdSeq rfl rfl (Rd.len rfl (by (first | (apply Len.row; (· (repeat (first | apply Sel.here | apply Sel.there)))) | (apply Len.rs; exact Rs.mono (by assumption) (by (repeat' (exact Ent.drop))))))) ?_) | ((show SLl _ _ _ _ _ (⟨⟨_, .binOp _ _ _ _ _, _, _, _, _⟩, _, _⟩ :: _) _ _ _); ((refine SLl.cmp rfl rfl rfl rfl rfl rfl ?_ ?_ <;> intro hq <;> simp only [cmpP] at hq <;> try ((exfalso; omega))))))) | (first | refine SLc.seq ?_ | refine SLc.region rfl ?_ | refine SLc.condT rfl ?_ | refine SLc.condF rfl ?_ | refine SLc.exit ?_)))
    refine SLc.drawsI [.blk pb 59 [pv], .blk ab 3 [.int .i64 (at_ : Int)]] (List.replicate 11 .take) mixed (by kernel_rfl) (.cons (.there (.there .here)) (.cons (.there (.there .here)) .drop)) ?_
    (repeat' ((((show SLl _ _ _ _ _ (⟨⟨_, _, _, _, _, _⟩, _, _⟩ :: _) _ _ _); first | ((show SLl _ _ _ _ _ (⟨⟨_, .load _ _, _, _, _, _⟩, _, _⟩ :: _) _ _ _); (refine SLl.rdTake rfl rfl (Rd.load rfl rfl (by ((apply Reads.blk; (· (repeat (first | apply Sel.here | apply Sel.there))); (· rfl))))) ?_)) | ((show SLl _ _ _ _ _ (⟨⟨_, .call ⟨.builtin .len, _, _⟩, _, _, _, _⟩, _, _⟩ :: _) _ _ _); refine SLl.rdTake rfl rfl (Rd.len rfl (by ((apply Len.rs; exact Rs.mono (by assumption) (by (repeat' (exact Ent.drop))))))) ?_)))))
    refine SLl.pu rfl rfl rfl (Pu.remN rfl rfl (by omega)) ?_
    (repeat' ((((show SLl _ _ _ _ _ (⟨⟨_, _, _, _, _, _⟩, _, _⟩ :: _) _ _ _); first | ((show SLl _ _ _ _ _ (⟨⟨_, .load _ _, _, _, _, _⟩, _, _⟩ :: _) _ _ _); (refine SLl.rdTake rfl rfl (Rd.load rfl rfl (by ((apply Reads.rs; (· exact Rs.mono (by assumption) (by (repeat' (exact Ent.drop)))); (· (assumption)); (· rfl))))) ?_)) | ((show SLl _ _ _ _ _ (⟨⟨_, .indexAddr _ _ _, _, _, _, _⟩, _, _⟩ :: _) _ _ _); (refine SLl.rdTake rfl rfl (Rd.indexAddr rfl rfl (by ((apply Len.rs; exact Rs.mono (by assumption) (by (repeat' (exact Ent.drop)))))) (by (rfl)) (by omega)) ?_))))))
    refine SLl.pu rfl rfl rfl (Pu.convInt rfl (IntWalk.i64_in _ (by omega))) ?_
    (repeat' ((((show SLl _ _ _ _ _ (⟨⟨_, _, _, _, _, _⟩, _, _⟩ :: _) _ _ _); refine SLl.ev rfl rfl rfl rfl ?_))))
    refine SLl.pu rfl rfl rfl (Pu.remN rfl rfl (by omega)) ?_
    (repeat' (first | (first | refine SLl.nil ?_ | ((show SLl _ _ _ _ _ (⟨⟨_, _, _, _, _, _⟩, _, _⟩ :: _) _ _ _); refine SLl.ev rfl rfl rfl rfl ?_)) | (first | refine SLc.seq ?_ | refine SLc.region rfl ?_)))
    (repeat' (first | (first | refine SLl.nil ?_ | ((show SLl _ _ _ _ _ (⟨⟨_, _, _, _, _, _⟩, _, _⟩ :: _) _ _ _); first | refine SLl.ev rfl rfl rfl rfl ?_ | ((show SLl _ _ _ _ _ (⟨⟨_, .load _ _, _, _, _, _⟩, _, _⟩ :: _) _ _ _); (refine SLl.rdSeq rfl rfl (Rd.load rfl rfl (by ((apply Reads.blk; (· (repeat (first | apply Sel.here | apply Sel.there))); (· rfl))))) ?_)) | ((show SLl _ _ _ _ _ (⟨⟨_, .binOp _ _ _ _ _, _, _, _, _⟩, _, _⟩ :: _) _ _ _); (refine SLl.pu rfl rfl rfl (Pu.add rfl rfl (IntWalk.i64_in _ (by omega))) ?_)) | ((show SLl _ _ _ _ _ (⟨⟨_, .store _ _ _, _, _, _, _⟩, _, _⟩ :: _) _ _ _); ((refine SLl.seq0 rfl (SLo.store rfl rfl rfl (by (exact One.lit rfl)) (by ((apply Wr.blk; (· (repeat (first | apply Upd.here | apply Upd.there))); (· exact Nat.le_of_ble_eq_true rfl)))) ?_)))))) | (first | refine SLc.seq ?_ | refine SLc.region rfl ?_ | refine SLc.block ?_)))
    refine SLc.weaken (e' := [(9, .int .i64 0), (6, .int .i64 (k : Int)), (0, ptr lfb), (1, ptr pb), (2, ptr ab), (3, ptr okb), (4, ptr idb)]) (by rw [hkk]; (repeat' (first | exact trivial | apply And.intro | rfl))) .refl ?_
    refine SLc.loop (ι := Nat × Nat) (fun s => [(9, .int .i64 s.1), (6, .int .i64 s.2), (0, ptr lfb), (1, ptr pb), (2, ptr ab), (3, ptr okb), (4, ptr idb)]) (fun _ => .blk lfb 32 [leftv] :: .row leftv 3 1 (natL left) :: .blk pb 59 [pv] :: .blk ab 3 [.int .i64 ((at_ + 1 : Nat) : Int)] :: .blk okb 4 [.bool true] :: .blk idb 3 [.int .i64 (i : Int)] :: F) (fun s => s.1 ≤ left.length ∧ s.2 + (posN left s.1).length = k) (fun s => left.length - s.1) (0, k) ⟨Nat.zero_le _, by simp [posN]⟩ (by (repeat' (first | exact trivial | apply And.intro | rfl))) .refl ?_
    rintro ⟨j, r⟩ ⟨hj, hrj⟩
    dsimp only at hj hrj ⊢
    by_cases hjl : j < left.length
    · have hy : left[j]? = some left[j] := List.getElem?_eq_getElem hjl
      generalize left[j] = y at hy
      have hyc := natL_at hy
      have hps := posN_succ hy
      by_cases hy0 : 0 < y
      · obtain ⟨hc1, hc2⟩ := hcnt j y hy hy0
        rw [if_pos hy0] at hps
        have hps2 := congrArg List.length hps
        rw [List.length_append, List.length_singleton] at hps2
        by_cases hr0 : r = 0
        · have hji : j = i := hc2 (by omega)
          subst hr0 hji
          obtain rfl : y = x + 1 := by rw [hx] at hy; simpa using hy.symm
          have hiu2 : (natL left).set j ([Value.int .i64 ((x + 1 : Nat) : Int)].set 0 (.int .i64 (((x + 1 : Nat) : Int) - 1))) = natL (left.set j x) := by
            rw [← hiu, show (((x + 1 : Nat) : Int) - 1) = x by omega]
            rfl
          by_cases hx0 : x = 0
          all_goals
            first | rw [if_pos hx0] | rw [if_neg hx0]
            (repeat' (first | (first | refine SLl.nil ?_ | ((show SLl _ _ _ _ _ (⟨⟨_, _, _, _, _, _⟩, _, _⟩ :: _) _ _ _); first | refine SLl.ev rfl rfl rfl rfl ?_ | ((show SLl _ _ _ _ _ (⟨⟨_, .load _ _, _, _, _, _⟩, _, _⟩ :: _) _ _ _); (refine SLl.rdSeq rfl rfl (Rd.load rfl rfl (by (first | (apply Reads.blk; (· (repeat (first | apply Sel.here | apply Sel.there))); (· rfl)) | (apply Reads.row; (· (repeat (first | apply Sel.here | apply Sel.there))); (· (assumption)); (· rfl))))) ?_)) | ((show SLl _ _ _ _ _ (⟨⟨_, .indexAddr _ _ _, _, _, _, _⟩, _, _⟩ :: _) _ _ _); (refine SLl.rdSeq rfl rfl (Rd.indexAddr rfl rfl (by ((apply Len.row; (· (repeat (first | apply Sel.here | apply Sel.there)))))) (by (rfl)) (by omega)) ?_)) | ((show SLl _ _ _ _ _ (⟨⟨_, .call ⟨.builtin .len, _, _⟩, _, _, _, _⟩, _, _⟩ :: _) _ _ _); refine SLl.rdSeq rfl rfl (Rd.len rfl (by ((apply Len.row; (· (repeat (first | apply Sel.here | apply Sel.there))))))) ?_) | ((show SLl _ _ _ _ _ (⟨⟨_, .binOp _ _ _ _ _, _, _, _, _⟩, _, _⟩ :: _) _ _ _); (first | refine SLl.pu rfl rfl rfl (Pu.sub rfl rfl (IntWalk.i64_in _ (by omega))) ?_ | (refine SLl.cmp rfl rfl rfl rfl rfl rfl ?_ ?_ <;> intro hq <;> simp only [cmpP] at hq <;> try (first | exact (hq trivial).elim | (exfalso; omega))))) | ((show SLl _ _ _ _ _ (⟨⟨_, .store _ _ _, _, _, _, _⟩, _, _⟩ :: _) _ _ _); ((refine SLl.seq0 rfl (SLo.store rfl rfl rfl (by (exact One.lit rfl)) (by (first | (apply Wr.blk; (· (repeat (first | apply Upd.here | apply Upd.there))); (· exact Nat.le_of_ble_eq_true rfl)) | (apply Wr.row; (· (assumption)); (· exact Nat.le_of_ble_eq_true rfl); (· (repeat (first | apply Upd.here | apply Upd.there)))))) ?_)))))) | (first | refine SLc.seq ?_ | refine SLc.region rfl ?_ | refine SLc.condT rfl ?_ | refine SLc.block ?_ | refine SLc.skip ?_ | refine SLc.exit ?_)))
            rw [hiu2]
            (repeat' (first | (first | refine SLl.nil ?_ | ((show SLl _ _ _ _ _ (⟨⟨_, _, _, _, _, _⟩, _, _⟩ :: _) _ _ _); first | refine SLl.ev rfl rfl rfl rfl ?_ | ((show SLl _ _ _ _ _ (⟨⟨_, .load _ _, _, _, _, _⟩, _, _⟩ :: _) _ _ _); (refine SLl.rdSeq rfl rfl (Rd.load rfl rfl (by ((apply Reads.row; (· (repeat (first | apply Sel.here | apply Sel.there))); (· (assumption)); (· rfl))))) ?_)) | ((show SLl _ _ _ _ _ (⟨⟨_, .indexAddr _ _ _, _, _, _, _⟩, _, _⟩ :: _) _ _ _); (refine SLl.rdSeq rfl rfl (Rd.indexAddr rfl rfl (by ((apply Len.row; (· (repeat (first | apply Sel.here | apply Sel.there)))))) (by (rfl)) (by omega)) ?_)) | ((show SLl _ _ _ _ _ (⟨⟨_, .binOp _ _ _ _ _, _, _, _, _⟩, _, _⟩ :: _) _ _ _); ((refine SLl.cmp rfl rfl rfl rfl rfl rfl ?_ ?_ <;> intro hq <;> simp only [cmpP] at hq <;> try ((exfalso; omega))))))) | (first | refine SLc.seq ?_ | refine SLc.region rfl ?_ | refine SLc.condT rfl ?_ | refine SLc.condF rfl ?_ | refine SLc.skip ?_ | refine SLc.ret ?_)))
            exact And.intro rfl (Exists.intro _ (Exists.intro _ (And.intro rfl (And.intro .refl (And.intro rfl rfl)))))
        · (repeat' (first | (first | refine SLl.nil ?_ | ((show SLl _ _ _ _ _ (⟨⟨_, _, _, _, _, _⟩, _, _⟩ :: _) _ _ _); first | refine SLl.ev rfl rfl rfl rfl ?_ | ((show SLl _ _ _ _ _ (⟨⟨_, .load _ _, _, _, _, _⟩, _, _⟩ :: _) _ _ _); (refine SLl.rdSeq rfl rfl (Rd.load rfl rfl (by (first | (apply Reads.blk; (· (repeat (apply Sel.here))); (· rfl)) | (apply Reads.row; (· (repeat (first | apply Sel.here | apply Sel.there))); (· (assumption)); (· rfl))))) ?_)) | ((show SLl _ _ _ _ _ (⟨⟨_, .indexAddr _ _ _, _, _, _, _⟩, _, _⟩ :: _) _ _ _); (refine SLl.rdSeq rfl rfl (Rd.indexAddr rfl rfl (by ((apply Len.row; (· (repeat (first | apply Sel.here | apply Sel.there)))))) (by (rfl)) (by omega)) ?_)) | ((show SLl _ _ _ _ _ (⟨⟨_, .call ⟨.builtin .len, _, _⟩, _, _, _, _⟩, _, _⟩ :: _) _ _ _); refine SLl.rdSeq rfl rfl (Rd.len rfl (by ((apply Len.row; (· (repeat (first | apply Sel.here | apply Sel.there))))))) ?_) | ((show SLl _ _ _ _ _ (⟨⟨_, .binOp _ _ _ _ _, _, _, _, _⟩, _, _⟩ :: _) _ _ _); (first | refine SLl.pu rfl rfl rfl (Pu.add rfl rfl (IntWalk.i64_in _ (by omega))) ?_ | refine SLl.pu rfl rfl rfl (Pu.sub rfl rfl (IntWalk.i64_in _ (by omega))) ?_ | (refine SLl.cmp rfl rfl rfl rfl rfl rfl ?_ ?_ <;> intro hq <;> simp only [cmpP] at hq <;> try ((exfalso; omega))))))) | (first | refine SLc.seq ?_ | refine SLc.region rfl ?_ | refine SLc.condT rfl ?_ | refine SLc.condF rfl ?_ | refine SLc.block ?_ | refine SLc.skip ?_)))
          all_goals refine And.intro rfl (Exists.intro (j + 1, r - 1) (And.intro ⟨by dsimp only; omega, by dsimp only; omega⟩ (And.intro (by dsimp only; omega) (And.intro ?_ .refl))))
          all_goals
            refine ⟨rfl, ?_, rfl, rfl, rfl, rfl, rfl, trivial⟩
            dsimp only
            rw [show ((r - 1 : Nat) : Int) = (r : Int) - 1 by omega]
            rfl
      · rw [if_neg hy0] at hps
        (repeat' (first | (first | refine SLl.nil ?_ | ((show SLl _ _ _ _ _ (⟨⟨_, _, _, _, _, _⟩, _, _⟩ :: _) _ _ _); first | refine SLl.ev rfl rfl rfl rfl ?_ | ((show SLl _ _ _ _ _ (⟨⟨_, .load _ _, _, _, _, _⟩, _, _⟩ :: _) _ _ _); (refine SLl.rdSeq rfl rfl (Rd.load rfl rfl (by (first | (apply Reads.blk; (· (repeat (apply Sel.here))); (· rfl)) | (apply Reads.row; (· (repeat (first | apply Sel.here | apply Sel.there))); (· (assumption)); (· rfl))))) ?_)) | ((show SLl _ _ _ _ _ (⟨⟨_, .indexAddr _ _ _, _, _, _, _⟩, _, _⟩ :: _) _ _ _); (refine SLl.rdSeq rfl rfl (Rd.indexAddr rfl rfl (by ((apply Len.row; (· (repeat (first | apply Sel.here | apply Sel.there)))))) (by (rfl)) (by omega)) ?_)) | ((show SLl _ _ _ _ _ (⟨⟨_, .call ⟨.builtin .len, _, _⟩, _, _, _, _⟩, _, _⟩ :: _) _ _ _); refine SLl.rdSeq rfl rfl (Rd.len rfl (by ((apply Len.row; (· (repeat (first | apply Sel.here | apply Sel.there))))))) ?_) | ((show SLl _ _ _ _ _ (⟨⟨_, .binOp _ _ _ _ _, _, _, _, _⟩, _, _⟩ :: _) _ _ _); (first | refine SLl.pu rfl rfl rfl (Pu.add rfl rfl (IntWalk.i64_in _ (by omega))) ?_ | (refine SLl.cmp rfl rfl rfl rfl rfl rfl ?_ ?_ <;> intro hq <;> simp only [cmpP] at hq <;> try ((exfalso; omega))))) | refine SLl.skip rfl rfl ?_)) | (first | refine SLc.seq ?_ | refine SLc.region rfl ?_ | refine SLc.condT rfl ?_ | refine SLc.condF rfl ?_ | refine SLc.block ?_ | refine SLc.skip ?_)))
        exact And.intro rfl (Exists.intro (j + 1, r) (And.intro ⟨by dsimp only; omega, by dsimp only; rw [hps]; exact hrj⟩ (And.intro (by dsimp only; omega) (And.intro (by (repeat' (first | exact trivial | apply And.intro | rfl))) .refl))))
    · exfalso
      have hje : j = left.length := by omega
      rw [hje, hmm] at hrj
      omega
end Go.Sl
