/- backstitchlaw15.SchedAll: the law's walk. -/
import Derived.Test.YtloeicnadchkpaaLaw15a
namespace Go.Sl
open Go.Proofs
attribute [local irreducible] SLc SLl SLo SLf Pu Rd

theorem Go_6 (W : World) (c0 c1 c2 c3 c4 c5 : Chunk) (G F : List Chunk) (b : Nat) (pv lv : Value) (m : Sch) (fn : Fn) (a1 a2 : Array Value) (hn : m.tasks.length < 128) :
    SLf Try.prog W 36 [ptr b, .func fn a1 a2] (c0 :: c1 :: c2 :: c3 :: c4 :: c5 :: (G ++ (schC b pv lv m ++ F))) (fun r σ => ∃ lv', r = .tuple #[.int .i64 (m.tasks.length : Int), .int .i64 0] ∧ σ = c0 :: c1 :: c2 :: c3 :: c4 :: c5 :: (G ++ (schC b pv lv' (addTask m ⟨.func fn a1 a2, false, false, false⟩) ++ F))) :=
  Go_mid W (c0 :: c1 :: c2 :: c3 :: c4 :: c5 :: G) F b pv lv m fn a1 a2 hn
theorem Open_in1 (W : World) (c : Chunk) (F : List Chunk) (b : Nat) (pv lv : Value) (m : Sch) (hm : SchOk m) : SLf Try.prog W 46 [ptr b] (c :: (schC b pv lv m ++ F)) (fun r σ => r = .int .i64 (openN m : Int) ∧ σ = c :: (schC b pv lv m ++ F)) := Open_mid W [c] F b pv lv m hm
/-- What is left, so far as it was reckoned. -/
def curL (L : List Nat) (i : Nat) : List Nat := L.take i ++ List.replicate (L.length - i) 0
theorem curL_len {L : List Nat} {i : Nat} (h : i ≤ L.length) : (curL L i).length = L.length := by simp [curL]; omega
theorem curL_zero {L : List Nat} {i : Nat} (h : i < L.length) : (curL L i)[i]? = some 0 := by
  unfold curL
  rw [List.getElem?_append_right (by rw [List.length_take]; omega), List.length_take, Nat.min_eq_left (by omega), Nat.sub_self, List.getElem?_replicate, if_pos (by omega)]
theorem curL_set {L : List Nat} {i v : Nat} (h : L[i]? = some v) : (curL L i).set i v = curL L (i + 1) := by
  obtain ⟨hi, rfl⟩ := List.getElem?_eq_some_iff.1 h
  unfold curL
  rw [List.set_append_right _ _ (by rw [List.length_take]; omega), List.length_take, Nat.min_eq_left (by omega), Nat.sub_self, show L.length - i = (L.length - (i + 1)) + 1 by omega, List.replicate_succ, List.set_cons_zero, List.take_succ_eq_append_getElem hi, List.append_assoc]
  rfl
theorem curL_at {L : List Nat} {i v : Nat} (h : L[i]? = some v) : (curL L (i + 1))[i]? = some v := by
  rw [← curL_set h]
  exact List.getElem?_set_self (by rw [curL_len (by have := (List.getElem?_eq_some_iff.1 h).1; omega)]; exact (List.getElem?_eq_some_iff.1 h).1)
theorem curL_all {L : List Nat} : curL L L.length = L := by simp [curL]
def lenL (L : List Nat) : List Nat := L.map fun x => 1 + x % 9
def frA (cl : Nat → Value) (P : List Nat) (B : List (Nat × Nat)) : Sch := ⟨P, B.map fun p => ⟨cl p.1, false, false, false⟩, 0, -1, false⟩
theorem sum_le {l : List Nat} {b : Nat} (h : ∀ y ∈ l, y ≤ b) : l.sum ≤ l.length * b := by
  induction l with
  | nil => simp
  | cons x r ih =>
    have h1 := h x (.head _)
    have h2 := ih fun y hy => h y (.tail _ hy)
    rw [List.sum_cons, List.length_cons, Nat.add_mul]
    omega
theorem take_sum {l : List Nat} {i v : Nat} (h : l[i]? = some v) : (l.take (i + 1)).sum = (l.take i).sum + v := by
  obtain ⟨hi, rfl⟩ := List.getElem?_eq_some_iff.1 h
  rw [List.take_succ_eq_append_getElem hi, List.sum_append]
  simp
theorem RunAll (W : World) (F : List Chunk) (lfb pb ab okb sb : Nat) (leftv pv qv lv : Value) (P Ln : List Nat) (B : List (Nat × Nat)) (hP : Rs W [] pv 1 (u8L P)) (hPk : ∀ n ∈ P, n < 256) (hB : Numbered B) (hl : Ln.length = B.length) (hf : B.length ≤ 60) (hlm : ∀ y ∈ Ln, 0 < y ∧ y ≤ 9) :
    SLf Try.prog W 45 [ptr sb, .int .i64 10000] (.blk lfb 32 [leftv] :: .row leftv 3 1 (natL Ln) :: .blk pb 59 [pv] :: .blk ab 3 [.int .i64 0] :: .blk okb 4 [.bool true] :: (B.map idC ++ (schC sb qv lv (frA (cloV lfb pb ab okb) P B) ++ F)))
      (fun r σ => ∃ lv' m, SchOk m ∧ openN m = 0 ∧ r = .tuple #[.int .i64 (Ln.sum : Int), .int .i64 0] ∧ σ = .blk okb 4 [.bool true] :: (schC sb qv lv' m ++ F)) := by
  have htot : Ln.sum ≤ 600 := by have := sum_le (b := 9) fun y hy => (hlm y hy).2; omega
  have h0 : setRuns (frA (cloV lfb pb ab okb) P B) true = allM P (cloV lfb pb ab okb) B ⟨Ln, 0⟩ := by
    unfold setRuns frA allM
    dsimp only
    rw [zw_fresh (by omega) fun y hy => (hlm y hy).1]
  refine SLf.ent (σ' := schC sb qv lv (frA (cloV lfb pb ab okb) P B) ++ (aaC lfb pb ab okb leftv pv B ⟨Ln, 0⟩ ++ F)) (.trans (.cons .here (.cons .here (.cons .here (.cons .here (.cons .here .swp))))) .in5) (SLf.to (Run_ok W F sb qv lv (aaC lfb pb ab okb leftv pv B) (AllI P (cloV lfb pb ab okb) B Ln.sum) allS (all_spec W lfb pb ab okb sb leftv pv qv P B Ln.sum hP hB) (all_client fun _ => rfl) (frA (cloV lfb pb ab okb) P B) ⟨Ln, 0⟩ 10000
    ⟨h0, hl, hf, fun y hy => (hlm y hy).2, by simp, htot, hPk⟩ rfl (by decide)) ?_)
  rintro r σ ⟨n, lv', m, a, hrun, hIm, hend, hn, rfl, rfl⟩
  have hat := all_runs hrun
  rw [Nat.zero_add] at hat
  have hsum := hIm.sum
  have hcan : canN m = [] := by
    rcases hend with h | h
    · exact h
    · omega
  obtain ⟨e1, e2, e3⟩ := all_ends hIm hcan
  have hok := ((all_client (P := P) (B := B) (total := Ln.sum) (cl := cloV lfb pb ab okb) fun _ => rfl).ok m a hIm).1
  refine ⟨_, ?_, lv', setRuns m false, ⟨hok.steps, hok.few⟩, e3, ?_, rfl⟩
  · refine .trans (.left _ (.trans (.cons (.there (.there (.there (.there .here)))) (.skip (.skip (.skip (.skip .appR))))) .refl)) .out
  · rw [e2, ← hat, e1]
set_option pp.maxSteps 1000000 in
set_option pp.deepTerms true in
set_option maxHeartbeats 2000000 in
theorem AllLaw15 (W : World) (lv pv : Value) (L P : List Nat) (hl : Rs W [] lv 1 (u8L L)) (hL : ∀ n ∈ L, n < 256) (hp : Rs W [] pv 1 (u8L P)) (hP : ∀ n ∈ P, n < 256) (hpl : P.length ≤ 140737488355328) (hpo : pv.oneCell' = true) :
    SLf Try.prog W 9 [lv, pv] [] (fun v _ => v = .bool true) := by
  have hul := @u8L_len L
  have hul2 := @u8L_len P
  refine SLf.enter Try.func9 rfl (Nat.le_of_ble_eq_true rfl) ?_
  (repeat' (first | (first | refine SLl.nil ?_ | ((show SLl _ _ _ _ _ (⟨⟨_, _, _, _, _, _⟩, _, _⟩ :: _) _ _ _); first | refine SLl.ev rfl rfl rfl rfl ?_ | ((show SLl _ _ _ _ _ (⟨⟨_, .box _ _, _, _, _, _⟩, _, _⟩ :: _) _ _ _); refine SLl.seq rfl rfl (SLo.boxC rfl (by (exact Cel.one (by (exact One.lit (by assumption))))) ?_); intro b))) | (first | refine SLc.seq ?_ | refine SLc.region rfl ?_)))
  rename Nat => pb
  refine SLl.seq rfl rfl (SLo.call plain43 rfl (SLf.mono (Awake15 W _) ?_))
  rintro v σ ⟨rfl, rfl⟩
  (repeat' (first | (first | refine SLl.nil ?_ | ((show SLl _ _ _ _ _ (⟨⟨_, _, _, _, _, _⟩, _, _⟩ :: _) _ _ _); first | refine SLl.ev rfl rfl rfl rfl ?_ | ((show SLl _ _ _ _ _ (⟨⟨_, .load _ _, _, _, _, _⟩, _, _⟩ :: _) _ _ _); (refine SLl.rdSeq rfl rfl (Rd.load rfl rfl (by ((apply Reads.blk; (· (repeat (apply Sel.here))); (· rfl))))) ?_)) | ((show SLl _ _ _ _ _ (⟨⟨_, .call ⟨.builtin .len, _, _⟩, _, _, _, _⟩, _, _⟩ :: _) _ _ _); refine SLl.rdSeq rfl rfl (Rd.len rfl (by ((apply Len.rs; exact Rs.mono (by assumption) (by (repeat' (exact Ent.drop))))))) ?_) | ((show SLl _ _ _ _ _ (⟨⟨_, .binOp _ _ _ _ _, _, _, _, _⟩, _, _⟩ :: _) _ _ _); ((refine SLl.cmp rfl rfl rfl rfl rfl rfl ?_ ?_ <;> intro hq <;> simp only [cmpP] at hq <;> try (fail)))) | refine SLl.skip rfl rfl ?_)) | (first | refine SLc.seq ?_ | refine SLc.region rfl ?_ | refine SLc.condT rfl ?_ | refine SLc.condF rfl ?_ | refine SLc.skip ?_ | refine SLc.ret ?_)))
  · exact And.intro rfl (Exists.intro _ (Exists.intro [] (And.intro rfl (And.intro .drop rfl))))
  · exact And.intro rfl (Exists.intro _ (Exists.intro [] (And.intro rfl (And.intro .drop rfl))))
  refine SLl.seq rfl rfl (SLo.call plain35 rfl (SLf.mono (New_ok W _ pv P (hp.mono .drop) hpl) ?_))
  rintro v σ ⟨sb, qv, rfl, rfl⟩
  (repeat' (first | (first | refine SLl.nil ?_ | ((show SLl _ _ _ _ _ (⟨⟨_, _, _, _, _, _⟩, _, _⟩ :: _) _ _ _); first | refine SLl.ev rfl rfl rfl rfl ?_ | ((show SLl _ _ _ _ _ (⟨⟨_, .call ⟨.builtin .len, _, _⟩, _, _, _, _⟩, _, _⟩ :: _) _ _ _); refine SLl.rdSeq rfl rfl (Rd.len rfl (by ((apply Len.rs; exact Rs.mono (by assumption) (by (repeat' (exact Ent.drop))))))) ?_) | ((show SLl _ _ _ _ _ (⟨⟨_, .binOp _ _ _ _ _, _, _, _, _⟩, _, _⟩ :: _) _ _ _); (refine SLl.pu rfl rfl rfl (Pu.eqPtrNil rfl rfl) ?_)))) | (first | refine SLc.seq ?_ | refine SLc.region rfl ?_ | refine SLc.condF rfl ?_ | refine SLc.skip ?_)))
  refine SLl.seq rfl rfl (SLo.makeSlice (by rfl) (by omega) rfl rfl (by omega) (by omega) ?_)
  intro leftv hlv
  have hrep : List.replicate (u8L L).length [Value.int .i64 0] = natL (curL (lenL L) 0) := by
    rw [hul]
    simp [curL, lenL, natL, ints, natI]
  rw [hrep]
  have hLl : (lenL L).length = L.length := by simp [lenL]
  have hL9 : ∀ y ∈ lenL L, 0 < y ∧ y ≤ 9 := fun y hy => by
    obtain ⟨x, _, rfl⟩ := List.mem_map.1 hy
    have := Nat.mod_lt x (show 0 < 9 by omega)
    omega
  have hLs : ∀ i, ((lenL L).take i).sum ≤ 600 := fun i => by
    have h1 := sum_le (b := 9) (l := (lenL L).take i) fun y hy => (hL9 y (List.mem_of_mem_take hy)).2
    rw [List.length_take] at h1
    omega
  (repeat' (first | (first | refine SLl.nil ?_ | ((show SLl _ _ _ _ _ (⟨⟨_, _, _, _, _, _⟩, _, _⟩ :: _) _ _ _); first | refine SLl.ev rfl rfl rfl rfl ?_ | ((show SLl _ _ _ _ _ (⟨⟨_, .store _ _ _, _, _, _, _⟩, _, _⟩ :: _) _ _ _); ((refine SLl.seq0 rfl (SLo.store rfl rfl rfl (by (first | exact One.lit rfl | exact One.len (by ((apply Len.row; (· (repeat (first | apply Sel.here | apply Sel.there)))))))) (by ((apply Wr.blk; (· (repeat (apply Upd.here))); (· exact Nat.le_of_ble_eq_true rfl)))) ?_)))) | ((show SLl _ _ _ _ _ (⟨⟨_, .alloc _, _, _, _, _⟩, _, _⟩ :: _) _ _ _); refine SLl.seq rfl rfl (SLo.alloc ?_); intro b))) | (first | refine SLc.seq ?_ | refine SLc.region rfl ?_ | refine SLc.block ?_)))
  rename_i lfb ab
  rename Nat => okb
  refine SLc.loop (ι := Nat × Value × List (Nat × Nat)) (fun s => [(10, .int .i64 s.1), (6, .int .i64 (((lenL L).take s.1).sum : Nat)), (7, ptr lfb), (8, ptr ab), (9, ptr okb), (5, ptr sb), (3, ptr pb), (0, lv)])
    (fun s => .blk lfb 32 [leftv] :: .row leftv 3 1 (natL (curL (lenL L) s.1)) :: .blk pb 59 [pv] :: .blk ab 3 [.int .i64 0] :: .blk okb 4 [.bool true] :: (s.2.2.map idC ++ (schC sb qv s.2.1 (frA (cloV lfb pb ab okb) P s.2.2) ++ [])))
    (fun s => s.1 ≤ L.length ∧ s.2.2.length = s.1 ∧ Numbered s.2.2) (fun s => L.length - s.1) (0, .slice none 0 0, []) ⟨Nat.zero_le _, rfl, fun i p h => by simp at h⟩ (by (repeat' (first | exact trivial | apply And.intro | rfl))) ?_ ?_
  · exact .cons (by (repeat (first | apply Sel.here | apply Sel.there))) (.cons (by (repeat (first | apply Sel.here | apply Sel.there))) (.trans (b := .blk pb 59 [pv] :: .blk ab 3 [.int .i64 0] :: .blk okb 4 [.bool true] :: (schC sb qv (.slice none 0 0) ⟨P, [], 0, -1, false⟩ ++ [])) (.cons (Sel.there (Sel.there (Sel.right _ .here))) (.cons (.there .here) (.cons .here .refl))) .refl))
  rintro ⟨i, lw, B⟩ ⟨hi, hBl, hBn⟩
  dsimp only at hi hBl hBn ⊢
  by_cases hlt : i < L.length
  · have hx : L[i]? = some L[i] := List.getElem?_eq_getElem hlt
    have hx2 := hL _ (List.getElem_mem hlt)
    generalize L[i] = x at hx hx2
    have hxc := u8L_at hx
    have hxl : (lenL L)[i]? = some (1 + x % 9) := by simp [lenL, hx]
    have hcz := natL_at (curL_zero (L := lenL L) (i := i) (by omega))
    have hcs := curL_set hxl
    have hca := natL_at (curL_at hxl)
    have hcl1 : (natL (curL (lenL L) i)).length = L.length := by rw [natL_len, curL_len (by omega), hLl]
    have hcl2 : (natL (curL (lenL L) (i + 1))).length = L.length := by rw [natL_len, curL_len (by omega), hLl]
    have hts := take_sum hxl
    have hLi := hLs i
    have hx9 : x % 9 < 9 := Nat.mod_lt _ (by omega)
    (repeat' (first | (first | refine SLl.nil ?_ | ((show SLl _ _ _ _ _ (⟨⟨_, _, _, _, _, _⟩, _, _⟩ :: _) _ _ _); first | refine SLl.ev rfl rfl rfl rfl ?_ | ((show SLl _ _ _ _ _ (⟨⟨_, .call ⟨.builtin .len, _, _⟩, _, _, _, _⟩, _, _⟩ :: _) _ _ _); refine SLl.rdSeq rfl rfl (Rd.len rfl (by ((apply Len.rs; exact Rs.mono (by assumption) (by (repeat' (exact Ent.drop))))))) ?_) | ((show SLl _ _ _ _ _ (⟨⟨_, .binOp _ _ _ _ _, _, _, _, _⟩, _, _⟩ :: _) _ _ _); ((refine SLl.cmp rfl rfl rfl rfl rfl rfl ?_ ?_ <;> intro hq <;> simp only [cmpP] at hq <;> try ((exfalso; omega))))))) | (first | refine SLc.seq ?_ | refine SLc.region rfl ?_ | refine SLc.condT rfl ?_ | refine SLc.block ?_ | refine SLc.skip ?_)))
    refine SLc.draws [.blk lfb 32 [leftv], .row leftv 3 1 (natL (curL (lenL L) i))] [(0, .take), (1, .take), (2, .take), (3, .take), (4, .take), (5, .take), (6, .take), (7, .take), (8, .take), (9, .take), (10, .eff false)] mixed (by kernel_rfl) (.cons .here (.cons .here .drop)) ?_
    (repeat' ((((show SLl _ _ _ _ _ (⟨⟨_, _, _, _, _, _⟩, _, _⟩ :: _) _ _ _); first | refine SLl.ev rfl rfl rfl rfl ?_ | ((show SLl _ _ _ _ _ (⟨⟨_, .load _ _, _, _, _, _⟩, _, _⟩ :: _) _ _ _); (refine SLl.rdTake rfl rfl (Rd.load rfl rfl (by (first | (apply Reads.blk; (· (repeat (apply Sel.here))); (· rfl)) | (apply Reads.rs; (· exact Rs.mono (by assumption) (by (repeat' (exact Ent.drop)))); (· (assumption)); (· rfl))))) ?_)) | ((show SLl _ _ _ _ _ (⟨⟨_, .indexAddr _ _ _, _, _, _, _⟩, _, _⟩ :: _) _ _ _); (refine SLl.rdTake rfl rfl (Rd.indexAddr rfl rfl (by ((apply Len.rs; exact Rs.mono (by assumption) (by (repeat' (exact Ent.drop)))))) (by (rfl)) (by omega)) ?_))))))
    refine SLl.pu rfl rfl rfl (Pu.remN (j := 9) rfl rfl (by omega)) ?_
    (repeat' (fail))
    refine SLl.pu rfl rfl rfl (Pu.convInt rfl (IntWalk.i64_in _ (by omega))) ?_
    refine SLl.pu rfl rfl rfl (Pu.add (r := ((1 + x % 9 : Nat) : Int)) rfl rfl (by rw [IntWalk.i64_in _ (by omega)]; omega)) ?_
    (repeat' ((((show SLl _ _ _ _ _ (⟨⟨_, _, _, _, _, _⟩, _, _⟩ :: _) _ _ _); ((show SLl _ _ _ _ _ (⟨⟨_, .indexAddr _ _ _, _, _, _, _⟩, _, _⟩ :: _) _ _ _); (refine SLl.rdTake rfl rfl (Rd.indexAddr rfl rfl (by ((apply Len.row; (· (repeat (first | apply Sel.here | apply Sel.there)))))) (by (rfl)) (by omega)) ?_))))))
    refine SLl.eff0 rfl (SLo.store rfl rfl rfl (One.lit rfl) (Wr.row hcz (Nat.le_of_ble_eq_true rfl) (.there .here)) ?_)
    refine And.intro (fun h => by cases h) ?_
    have hse : (natL (curL (lenL L) i)).set i ([Value.int .i64 ((0 : Nat) : Int)].set 0 (.int .i64 ((1 + x % 9 : Nat) : Int))) = natL (curL (lenL L) (i + 1)) := by
      rw [← hcs]
      simp [natL, ints, natI, List.map_set]
    rw [hse]
    generalize hvv : 1 + x % 9 = v at hca hts
    (repeat' (first | (first | refine SLl.nil ?_ | ((show SLl _ _ _ _ _ (⟨⟨_, _, _, _, _, _⟩, _, _⟩ :: _) _ _ _); first | refine SLl.ev rfl rfl rfl rfl ?_ | ((show SLl _ _ _ _ _ (⟨⟨_, .load _ _, _, _, _, _⟩, _, _⟩ :: _) _ _ _); (refine SLl.rdSeq rfl rfl (Rd.load rfl rfl (by (first | (apply Reads.blk; (· (repeat (apply Sel.here))); (· rfl)) | (apply Reads.row; (· (repeat (first | apply Sel.here | apply Sel.there))); (· (assumption)); (· rfl))))) ?_)) | ((show SLl _ _ _ _ _ (⟨⟨_, .indexAddr _ _ _, _, _, _, _⟩, _, _⟩ :: _) _ _ _); (refine SLl.rdSeq rfl rfl (Rd.indexAddr rfl rfl (by ((apply Len.row; (· (repeat (first | apply Sel.here | apply Sel.there)))))) (by (rfl)) (by omega)) ?_)) | ((show SLl _ _ _ _ _ (⟨⟨_, .binOp _ _ _ _ _, _, _, _, _⟩, _, _⟩ :: _) _ _ _); (refine SLl.pu rfl rfl rfl (Pu.add rfl rfl (IntWalk.i64_in _ (by omega))) ?_)) | ((show SLl _ _ _ _ _ (⟨⟨_, .store _ _ _, _, _, _, _⟩, _, _⟩ :: _) _ _ _); ((refine SLl.seq0 rfl (SLo.store rfl rfl rfl (by (exact One.lit rfl)) (by ((apply Wr.blk; (· (repeat (apply Upd.here))); (· exact Nat.le_of_ble_eq_true rfl)))) ?_)))) | ((show SLl _ _ _ _ _ (⟨⟨_, .alloc _, _, _, _, _⟩, _, _⟩ :: _) _ _ _); refine SLl.seq rfl rfl (SLo.alloc ?_); intro b))) | (first | refine SLc.seq ?_ | refine SLc.region rfl ?_)))
    refine SLl.seq rfl rfl (SLo.call plain36 rfl (SLf.mono (Go_6 W _ _ _ _ _ _ (B.map idC) _ sb qv lw (frA (cloV lfb pb ab okb) P B) (.func 44) #[] #[ptr lfb, ptr pb, ptr ab, ptr okb, ptr b] (by simp only [frA, List.length_map]; omega)) ?_))
    rintro v0 σ ⟨lw', rfl, rfl⟩
    have hadd : addTask (frA (cloV lfb pb ab okb) P B) ⟨.func (.func 44) #[] #[ptr lfb, ptr pb, ptr ab, ptr okb, ptr b], false, false, false⟩ = frA (cloV lfb pb ab okb) P (B ++ [(b, i)]) := by simp [addTask, frA, cloV]
    rw [hadd]
    (repeat' (first | (first | refine SLl.nil ?_ | ((show SLl _ _ _ _ _ (⟨⟨_, _, _, _, _, _⟩, _, _⟩ :: _) _ _ _); first | refine SLl.ev rfl rfl rfl rfl ?_ | ((show SLl _ _ _ _ _ (⟨⟨_, .binOp _ _ _ _ _, _, _, _, _⟩, _, _⟩ :: _) _ _ _); (refine SLl.pu rfl rfl rfl (Pu.add rfl rfl (IntWalk.i64_in _ (by omega))) ?_)))) | (refine SLc.region rfl ?_)))
    refine And.intro rfl (Exists.intro (i + 1, lw', B ++ [(b, i)]) (And.intro ⟨by dsimp only; omega, by simp; omega, by rw [← hBl]; exact numbered_snoc hBn b⟩ (And.intro (by dsimp only; omega) (And.intro ?_ ?_))))
    · refine ⟨rfl, ?_, rfl, rfl, rfl, rfl, rfl, rfl, trivial⟩
      dsimp only
      rw [hts]
      rfl
    · dsimp only
      have e : (B ++ [(b, i)]).map idC ++ (schC sb qv lw' (frA (cloV lfb pb ab okb) P (B ++ [(b, i)])) ++ []) = B.map idC ++ (idC (b, i) :: (schC sb qv lw' (frA (cloV lfb pb ab okb) P (B ++ [(b, i)])) ++ [])) := by simp
      rw [e]
      exact .cons (.there .here) (.cons (.there .here) (.cons (.there .here) (.cons (.there .here) (.cons (.there .here) .into))))
  obtain rfl : i = L.length := by omega
  rw [← hLl, curL_all, List.take_length]
  rw [← hLl] at hBl
  have hLs0 := hLs (lenL L).length
  rw [List.take_length] at hLs0
  (repeat' (first | (first | refine SLl.nil ?_ | ((show SLl _ _ _ _ _ (⟨⟨_, _, _, _, _, _⟩, _, _⟩ :: _) _ _ _); first | refine SLl.ev rfl rfl rfl rfl ?_ | ((show SLl _ _ _ _ _ (⟨⟨_, .call ⟨.builtin .len, _, _⟩, _, _, _, _⟩, _, _⟩ :: _) _ _ _); refine SLl.rdSeq rfl rfl (Rd.len rfl (by ((apply Len.rs; exact Rs.mono (by assumption) (by (repeat' (exact Ent.drop))))))) ?_) | ((show SLl _ _ _ _ _ (⟨⟨_, .binOp _ _ _ _ _, _, _, _, _⟩, _, _⟩ :: _) _ _ _); ((refine SLl.cmp rfl rfl rfl rfl rfl rfl ?_ ?_ <;> intro hq <;> simp only [cmpP] at hq <;> try ((exfalso; omega))))))) | (first | refine SLc.seq ?_ | refine SLc.region rfl ?_ | refine SLc.condF rfl ?_ | refine SLc.exit ?_)))
  refine SLl.seq rfl rfl (SLo.call plain45 rfl (SLf.mono (RunAll W [] lfb pb ab okb sb leftv pv qv lw P (lenL L) B hp hP hBn hBl.symm (by omega) hL9) ?_))
  rintro v σ ⟨lv', m, hok, ho, rfl, rfl⟩
  (repeat' (first | (first | refine SLl.nil ?_ | ((show SLl _ _ _ _ _ (⟨⟨_, _, _, _, _, _⟩, _, _⟩ :: _) _ _ _); first | refine SLl.ev rfl rfl rfl rfl ?_ | ((show SLl _ _ _ _ _ (⟨⟨_, .load _ _, _, _, _, _⟩, _, _⟩ :: _) _ _ _); (refine SLl.rdSeq rfl rfl (Rd.load rfl rfl (by ((apply Reads.blk; (· (repeat (apply Sel.here))); (· rfl))))) ?_)) | ((show SLl _ _ _ _ _ (⟨⟨_, .binOp _ _ _ _ _, _, _, _, _⟩, _, _⟩ :: _) _ _ _); ((refine SLl.cmp rfl rfl rfl rfl rfl rfl ?_ ?_ <;> intro hq <;> simp only [cmpP] at hq <;> try (exact (hq trivial).elim)))))) | (first | refine SLc.seq ?_ | refine SLc.region rfl ?_)))
  refine SLl.seq rfl rfl (SLo.call plain46 rfl (SLf.mono (Open_in1 W _ [] sb qv lv' m hok) ?_))
  rintro v σ ⟨rfl, rfl⟩
  rw [ho]
  (repeat' (first | (first | refine SLl.nil ?_ | ((show SLl _ _ _ _ _ (⟨⟨_, _, _, _, _, _⟩, _, _⟩ :: _) _ _ _); first | refine SLl.ev rfl rfl rfl rfl ?_ | ((show SLl _ _ _ _ _ (⟨⟨_, .binOp _ _ _ _ _, _, _, _, _⟩, _, _⟩ :: _) _ _ _); ((refine SLl.cmp rfl rfl rfl rfl rfl rfl ?_ ?_ <;> intro hq <;> simp only [cmpP] at hq <;> try ((exfalso; omega))))))) | (refine SLc.ret ?_)))
  exact And.intro rfl (Exists.intro _ (Exists.intro [] (And.intro rfl (And.intro .drop rfl))))
end Go.Sl
