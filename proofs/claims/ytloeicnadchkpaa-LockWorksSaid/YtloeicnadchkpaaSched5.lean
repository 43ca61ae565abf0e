/- sched: the contract of Run, for whatever the tasks do. -/
import Derived.Test.YtloeicnadchkpaaSched4
import Derived.Test.YtloeicnadchkpaaStay0
namespace Go.Sl
open Go.Proofs
attribute [local irreducible] SLc SLl SLo SLf Pu Rd

/-- So many steps. -/
inductive RunTo {α : Type} (S : Sch → α → Nat → Int → Sch → α → Prop) : Sch → α → Nat → Sch → α → Prop
  | zero {m : Sch} {a : α} : RunTo S m a 0 m a
  | step {m0 m m' : Sch} {a0 a a' : α} {n i : Nat} {said : Int} : RunTo S m0 a0 n m a → picked m i → S m a i said m' a' → RunTo S m0 a0 (n + 1) (afterStep m' i said) a'
def setRuns (m : Sch) (r : Bool) : Sch := { m with runs := r }
def errM (m : Sch) : Int := if (canN m).length = 0 then (if openN m = 0 then 0 else 12) else 13
noncomputable def body84 : Code := Try.f84.body.getD .skip
theorem RunEnd (W : World) (X : List Chunk) (b bx : Nat) (pv lv : Value) (m : Sch) (hbx : Reads W X ⟨bx, 0, none⟩ (ptr b)) (R : List Chunk → Prop) {σ' : List Chunk} (he : Ent (schC b pv lv (setRuns m false) ++ X) σ') (hR : R σ') :
    SLc Try.prog W Try.f84.ntmps body84 (argsT 0 [ptr bx]) [] (schC b pv lv m ++ X) (endQ Try.f84.results.toList fun _ σ => R σ) := by
  simp only [schC, List.cons_append, List.nil_append] at he ⊢
  (repeat' (first | (first | refine SLl.nil ?_ | ((show SLl _ _ _ _ _ (⟨⟨_, _, _, _, _, _⟩, _, _⟩ :: _) _ _ _); first | refine SLl.ev rfl rfl rfl rfl ?_ | ((show SLl _ _ _ _ _ (⟨⟨_, .load _ _, _, _, _, _⟩, _, _⟩ :: _) _ _ _); (refine SLl.rdSeq rfl rfl (Rd.load rfl rfl (by (exact Reads.mono (by assumption) (by (repeat' (first | exact Ent.refl | apply Ent.skip)))))) ?_)) | ((show SLl _ _ _ _ _ (⟨⟨_, .fieldAddr _ _ _, _, _, _, _⟩, _, _⟩ :: _) _ _ _); (refine SLl.pu rfl rfl rfl (Pu.fieldAddr rfl) ?_)) | ((show SLl _ _ _ _ _ (⟨⟨_, .store _ _ _, _, _, _, _⟩, _, _⟩ :: _) _ _ _); ((refine SLl.seq0 rfl (SLo.store rfl rfl rfl (by (exact One.lit rfl)) (by ((apply Wr.blk; (· (repeat (apply Upd.here))); (· exact Nat.le_of_ble_eq_true rfl)))) ?_)))))) | (refine SLc.region rfl ?_)))
  exact And.intro rfl (Exists.intro _ (Exists.intro _ (And.intro rfl (And.intro he hR))))
set_option maxHeartbeats 1000000 in
theorem Run_ok {α : Type} (W : World) (F : List Chunk) (sb : Nat) (pv lv : Value) (A : α → List Chunk) (I : Sch → α → Prop) (S : Sch → α → Nat → Int → Sch → α → Prop) (hs : ∀ F, StepSpec W sb pv (fun a => A a ++ F) I S) (hc : Client I S)
    (m0 : Sch) (a0 : α) (most : Nat) (hI : I (setRuns m0 true) a0) (hr : m0.runs = false) (hmost : most ≤ 1048576) :
    SLf Try.prog W 45 [ptr sb, .int .i64 (most : Int)] (schC sb pv lv m0 ++ (A a0 ++ F)) (fun r σ => ∃ n lv' m a, RunTo S (setRuns m0 true) a0 n m a ∧ I m a ∧ (canN m = [] ∨ n = most) ∧ n ≤ most ∧ r = .tuple #[.int .i64 (n : Int), .int .i64 (errM m)] ∧ σ = schC sb pv lv' (setRuns m false) ++ (A a ++ F)) := by
  obtain ⟨picks, tasks, made, now, runs⟩ := m0
  dsimp only at hr
  subst hr
  refine SLf.enterD Try.func45 rfl (Nat.le_of_ble_eq_true rfl) ?_
  simp only [schC, List.cons_append, List.nil_append]
  (repeat' (first | (first | refine SLl.nil ?_ | ((show SLl _ _ _ _ _ (⟨⟨_, _, _, _, _, _⟩, _, _⟩ :: _) _ _ _); first | refine SLl.ev rfl rfl rfl rfl ?_ | ((show SLl _ _ _ _ _ (⟨⟨_, .load _ _, _, _, _, _⟩, _, _⟩ :: _) _ _ _); (refine SLl.rdSeq rfl rfl (Rd.load rfl rfl (by ((apply Reads.blk; (· (repeat (first | apply Sel.here | apply Sel.there))); (· rfl))))) ?_)) | ((show SLl _ _ _ _ _ (⟨⟨_, .fieldAddr _ _ _, _, _, _, _⟩, _, _⟩ :: _) _ _ _); (refine SLl.pu rfl rfl rfl (Pu.fieldAddr rfl) ?_)) | ((show SLl _ _ _ _ _ (⟨⟨_, .binOp _ _ _ _ _, _, _, _, _⟩, _, _⟩ :: _) _ _ _); (first | (refine SLl.cmp rfl rfl rfl rfl rfl rfl ?_ ?_ <;> intro hq <;> simp only [cmpP] at hq <;> try ((exfalso; omega))) | refine SLl.pu rfl rfl rfl (Pu.eqPtrNil rfl rfl) ?_)) | ((show SLl _ _ _ _ _ (⟨⟨_, .store _ _ _, _, _, _, _⟩, _, _⟩ :: _) _ _ _); ((refine SLl.seq0 rfl (SLo.store rfl rfl rfl (by (exact One.lit rfl)) (by ((apply Wr.blk; (· (repeat (first | apply Upd.here | apply Upd.there))); (· exact Nat.le_of_ble_eq_true rfl)))) ?_)))) | ((show SLl _ _ _ _ _ (⟨⟨_, .box _ _, _, _, _, _⟩, _, _⟩ :: _) _ _ _); refine SLl.seq rfl rfl (SLo.boxC rfl (by (exact Cel.one (by (exact One.lit rfl)))) ?_); intro b))) | (first | refine SLc.seq ?_ | refine SLc.region rfl ?_ | refine SLc.condF rfl ?_ | refine SLc.skip ?_)))
  refine SLl.deferV (f := 84) (caps := [ptr b]) rfl rfl ?_
  (repeat' (first | (first | refine SLl.nil ?_ | ((show SLl _ _ _ _ _ (⟨⟨_, _, _, _, _, _⟩, _, _⟩ :: _) _ _ _); refine SLl.ev rfl rfl rfl rfl ?_)) | (first | refine SLc.seq ?_ | refine SLc.region rfl ?_ | refine SLc.block ?_)))
  generalize hm1 : setRuns ⟨picks, tasks, made, now, false⟩ true = m1 at hI
  have hbx : Reads W (.blk b 49 [ptr sb] :: F) ⟨b, 0, none⟩ (ptr sb) := Reads.blk .here rfl
  refine SLc.loop (ι := Nat × Value × Sch × α) (fun s => [(6, .int .i64 s.1), (1, .int .i64 (most : Int)), (2, ptr b)]) (fun s => schC sb pv s.2.1 s.2.2.1 ++ (A s.2.2.2 ++ (.blk b 49 [ptr sb] :: F)))
    (fun s => RunTo S m1 a0 s.1 s.2.2.1 s.2.2.2 ∧ I s.2.2.1 s.2.2.2 ∧ s.1 ≤ most) (fun s => most - s.1) (0, lv, m1, a0) ⟨.zero, hI, Nat.zero_le _⟩ (by (repeat' (first | exact trivial | apply And.intro | rfl))) ?_ ?_
  · subst hm1
    exact .trans (.perm (List.perm_middle (l₁ := schC sb pv lv (setRuns ⟨picks, tasks, made, now, false⟩ true) ++ A a0)).symm) (.perm (by simp))
  rintro ⟨n, lw, m, a⟩ ⟨hrun, hIm, hn⟩
  dsimp only at hrun hIm hn ⊢
  obtain ⟨hok, hpk⟩ := hc.ok m a hIm
  have hrd : Reads W (schC sb pv lw m ++ (A a ++ (.blk b 49 [ptr sb] :: F))) ⟨b, 0, none⟩ (ptr sb) := hbx.mono (.trans .appR .appR)
  (repeat' (first | (((show SLl _ _ _ _ _ (⟨⟨_, _, _, _, _, _⟩, _, _⟩ :: _) _ _ _); ((show SLl _ _ _ _ _ (⟨⟨_, .load _ _, _, _, _, _⟩, _, _⟩ :: _) _ _ _); (refine SLl.rdSeq rfl rfl (Rd.load rfl rfl (by (exact Reads.mono (by assumption) (by (repeat' (exact Ent.refl)))))) ?_)))) | (first | refine SLc.seq ?_ | refine SLc.region rfl ?_ | refine SLc.block ?_)))
  refine SLl.seq rfl rfl (SLo.call plain85 rfl (SLf.mono (Can_ok W _ sb pv lw m hok) ?_))
  rintro cv σ rfl
  have hcl := @natL_len (canN m)
  by_cases hcan : (canN m).length = 0
  · have hnil : canN m = [] := List.length_eq_zero_iff.1 hcan
    (repeat' (first | (first | refine SLl.nil ?_ | ((show SLl _ _ _ _ _ (⟨⟨_, _, _, _, _, _⟩, _, _⟩ :: _) _ _ _); first | refine SLl.ev rfl rfl rfl rfl ?_ | ((show SLl _ _ _ _ _ (⟨⟨_, .load _ _, _, _, _, _⟩, _, _⟩ :: _) _ _ _); (refine SLl.rdSeq rfl rfl (Rd.load rfl rfl (by (exact Reads.mono (by assumption) (by (repeat' (first | exact Ent.refl | apply Ent.skip)))))) ?_)) | ((show SLl _ _ _ _ _ (⟨⟨_, .call ⟨.builtin .len, _, _⟩, _, _, _, _⟩, _, _⟩ :: _) _ _ _); refine SLl.rdSeq rfl rfl (Rd.len rfl (by ((apply Len.row; (· (repeat (apply Sel.here))))))) ?_) | ((show SLl _ _ _ _ _ (⟨⟨_, .binOp _ _ _ _ _, _, _, _, _⟩, _, _⟩ :: _) _ _ _); ((refine SLl.cmp rfl rfl rfl rfl rfl rfl ?_ ?_ <;> intro hq <;> simp only [cmpP] at hq <;> try ((exfalso; omega))))))) | (first | refine SLc.seq ?_ | refine SLc.region rfl ?_ | refine SLc.block ?_)))
    refine SLl.seq rfl rfl (SLo.call plain46 rfl (SLf.ent .into (SLf.mono (Open_ok W _ sb pv lw m hok) ?_)))
    rintro v σ ⟨rfl, rfl⟩
    by_cases ho : openN m = 0
    · have herr : errM m = 0 := by simp [errM, hcan, ho]
      (repeat' (first | (first | refine SLl.nil ?_ | ((show SLl _ _ _ _ _ (⟨⟨_, _, _, _, _, _⟩, _, _⟩ :: _) _ _ _); first | refine SLl.ev rfl rfl rfl rfl ?_ | ((show SLl _ _ _ _ _ (⟨⟨_, .call ⟨.builtin .len, _, _⟩, _, _, _, _⟩, _, _⟩ :: _) _ _ _); refine SLl.rdSeq rfl rfl (Rd.len rfl (by ((apply Len.row; (· (repeat (first | apply Sel.here | apply Sel.there))))))) ?_) | ((show SLl _ _ _ _ _ (⟨⟨_, .binOp _ _ _ _ _, _, _, _, _⟩, _, _⟩ :: _) _ _ _); ((refine SLl.cmp rfl rfl rfl rfl rfl rfl ?_ ?_ <;> intro hq <;> simp only [cmpP] at hq <;> try ((exfalso; omega))))))) | (first | refine SLc.seq ?_ | refine SLc.region rfl ?_ | refine SLc.condT rfl ?_ | refine SLc.condF rfl ?_ | refine SLc.ret ?_)))
      refine ⟨84, Try.f84, body84, [ptr b], _, rfl, plain84, Try.func84, rfl, Nat.le_of_ble_eq_true rfl, rfl, ?_⟩
      refine RunEnd W _ sb b pv lw m (hbx.mono (.skip .appR)) _ (Ent.left _ (.skip (Ent.left _ (.skip .refl)))) ?_
      refine ⟨n, lw, m, a, hrun, hIm, .inl hnil, hn, ?_, rfl⟩
      rw [herr]
      rfl
    · have herr : errM m = 12 := by simp [errM, hcan, ho]
      (repeat' (first | (first | refine SLl.nil ?_ | ((show SLl _ _ _ _ _ (⟨⟨_, _, _, _, _, _⟩, _, _⟩ :: _) _ _ _); first | refine SLl.ev rfl rfl rfl rfl ?_ | ((show SLl _ _ _ _ _ (⟨⟨_, .binOp _ _ _ _ _, _, _, _, _⟩, _, _⟩ :: _) _ _ _); ((refine SLl.cmp rfl rfl rfl rfl rfl rfl ?_ ?_ <;> intro hq <;> simp only [cmpP] at hq <;> try ((exfalso; omega))))))) | (first | refine SLc.seq ?_ | refine SLc.region rfl ?_ | refine SLc.condT rfl ?_ | refine SLc.ret ?_)))
      refine ⟨84, Try.f84, body84, [ptr b], _, rfl, plain84, Try.func84, rfl, Nat.le_of_ble_eq_true rfl, rfl, ?_⟩
      refine RunEnd W _ sb b pv lw m (hbx.mono (.skip .appR)) _ (Ent.left _ (.skip (Ent.left _ (.skip .refl)))) ?_
      refine ⟨n, lw, m, a, hrun, hIm, .inl hnil, hn, ?_, rfl⟩
      rw [herr]
      rfl
  · have herr : errM m = 13 := by simp [errM, hcan]
    have hlt : pickM m (canN m).length < (canN m).length := Nat.mod_lt _ (by omega)
    have hi : (canN m)[pickM m (canN m).length]? = some ((canN m)[pickM m (canN m).length]'hlt) := List.getElem?_eq_getElem hlt
    generalize (canN m)[pickM m (canN m).length]'hlt = i at hi
    obtain ⟨hilt, t, hti, htr⟩ := pickN_mem (List.mem_of_getElem? hi)
    have hic := natL_at hi
    (repeat' (first | (first | refine SLl.nil ?_ | ((show SLl _ _ _ _ _ (⟨⟨_, _, _, _, _, _⟩, _, _⟩ :: _) _ _ _); first | refine SLl.ev rfl rfl rfl rfl ?_ | ((show SLl _ _ _ _ _ (⟨⟨_, .call ⟨.builtin .len, _, _⟩, _, _, _, _⟩, _, _⟩ :: _) _ _ _); refine SLl.rdSeq rfl rfl (Rd.len rfl (by ((apply Len.row; (· (repeat (apply Sel.here))))))) ?_) | ((show SLl _ _ _ _ _ (⟨⟨_, .binOp _ _ _ _ _, _, _, _, _⟩, _, _⟩ :: _) _ _ _); ((refine SLl.cmp rfl rfl rfl rfl rfl rfl ?_ ?_ <;> intro hq <;> simp only [cmpP] at hq <;> try ((exfalso; omega))))) | refine SLl.skip rfl rfl ?_)) | (first | refine SLc.seq ?_ | refine SLc.region rfl ?_ | refine SLc.condT rfl ?_ | refine SLc.condF rfl ?_ | refine SLc.block ?_ | refine SLc.skip ?_ | refine SLc.ret ?_)))
    · have hnm : n = most := by omega
      refine ⟨84, Try.f84, body84, [ptr b], _, rfl, plain84, Try.func84, rfl, Nat.le_of_ble_eq_true rfl, rfl, ?_⟩
      refine SLc.weaken (e' := argsT 0 [ptr b]) (by (repeat' (first | exact trivial | apply And.intro | rfl))) Ent.into ?_
      refine RunEnd W _ sb b pv lw m (hbx.mono (.skip .appR)) _ (Ent.left _ (.skip (Ent.left _ (.skip .refl)))) ?_
      refine ⟨n, lw, m, a, hrun, hIm, .inr hnm, hn, ?_, rfl⟩
      rw [herr]
      rfl
    · refine SLc.draws [.row cv 3 1 (natL (canN m)), .blk b 49 [ptr sb]] [(0, .take), (1, .take), (2, .take), (3, .take), (4, .take), (5, .eff true), (6, .take), (7, .take), (8, .eff true)] mixed (by kernel_rfl) (.cons .here (.trans .appR (.trans .appR (.cons .here .drop)))) ?_
      (repeat' ((((show SLl _ _ _ _ _ (⟨⟨_, _, _, _, _, _⟩, _, _⟩ :: _) _ _ _); first | refine SLl.ev rfl rfl rfl rfl ?_ | ((show SLl _ _ _ _ _ (⟨⟨_, .load _ _, _, _, _, _⟩, _, _⟩ :: _) _ _ _); (refine SLl.rdTake rfl rfl (Rd.load rfl rfl (by ((apply Reads.blk; (· (repeat (first | apply Sel.here | apply Sel.there))); (· rfl))))) ?_)) | ((show SLl _ _ _ _ _ (⟨⟨_, .call ⟨.builtin .len, _, _⟩, _, _, _, _⟩, _, _⟩ :: _) _ _ _); refine SLl.rdTake rfl rfl (Rd.len rfl (by ((apply Len.row; (· (repeat (apply Sel.here))))))) ?_)))))
      refine SLl.eff rfl rfl (SLo.call plain87 rfl (SLf.ent .into (SLf.mono (Pick_ok W _ sb pv lw m (natL (canN m)).length (by omega) hpk) ?_)))
      rintro v σ ⟨rfl, rfl⟩
      refine And.intro (fun _ => .trans .appR (.cons .here (.trans .appR (.cons .here .drop)))) ?_
      rw [hcl]
      refine SLl.rdTake rfl rfl (Rd.indexAddr (j := pickM m (canN m).length) rfl rfl (Len.row .here) rfl (by rw [hcl]; exact hlt)) ?_
      refine SLl.rdTake rfl rfl (Rd.load rfl rfl (Reads.row .here hic rfl)) ?_
      refine SLl.eff rfl rfl (SLo.call plain86 rfl (SLf.ent (Ent.left _ .into) (SLf.mono (Step_ok W sb pv lw (fun a => A a ++ (.row cv 3 1 (natL (canN m)) :: .blk b 49 [ptr sb] :: F)) I S (hs _) hc m a i t hIm hi hti htr) ?_)))
      rintro v σ ⟨said, lw', m', a', hS, rfl⟩
      refine And.intro (fun _ => .trans .appR (.trans .appR (.cons .here (.cons .here .drop)))) ?_
      (repeat' (first | (first | refine SLl.nil ?_ | ((show SLl _ _ _ _ _ (⟨⟨_, _, _, _, _, _⟩, _, _⟩ :: _) _ _ _); first | refine SLl.ev rfl rfl rfl rfl ?_ | ((show SLl _ _ _ _ _ (⟨⟨_, .binOp _ _ _ _ _, _, _, _, _⟩, _, _⟩ :: _) _ _ _); (refine SLl.pu rfl rfl rfl (Pu.add rfl rfl (IntWalk.i64_in _ (by omega))) ?_)))) | (refine SLc.region rfl ?_)))
      exact And.intro rfl (Exists.intro (n + 1, lw', afterStep m' i said, a') (And.intro ⟨.step hrun hi hS, (hc.keep m a i said m' a' hIm hi hS).2.2, by dsimp only; omega⟩ (And.intro (by dsimp only; omega) (And.intro (by (repeat' (first | exact trivial | apply And.intro | rfl))) (Ent.left _ (Ent.left _ (.skip .refl)))))))
/-- What Run refuses. -/
theorem Run_arg (W : World) (F : List Chunk) (sb : Nat) (pv lv : Value) (m : Sch) (most : Int) (h : m.runs = true ∨ most < 0 ∨ 1048576 < most) :
    SLf Try.prog W 45 [ptr sb, .int .i64 most] (schC sb pv lv m ++ F) (fun r σ => r = .tuple #[.int .i64 0, .int .i64 1] ∧ σ = schC sb pv lv m ++ F) := by
  obtain ⟨picks, tasks, made, now, runs⟩ := m
  dsimp only at h
  refine SLf.enter Try.func45 rfl (Nat.le_of_ble_eq_true rfl) ?_
  simp only [schC, List.cons_append, List.nil_append]
  cases runs with
  | true =>
    (repeat' (first | (first | refine SLl.nil ?_ | ((show SLl _ _ _ _ _ (⟨⟨_, _, _, _, _, _⟩, _, _⟩ :: _) _ _ _); first | refine SLl.ev rfl rfl rfl rfl ?_ | ((show SLl _ _ _ _ _ (⟨⟨_, .load _ _, _, _, _, _⟩, _, _⟩ :: _) _ _ _); (refine SLl.rdSeq rfl rfl (Rd.load rfl rfl (by ((apply Reads.blk; (· (repeat (first | apply Sel.here | apply Sel.there))); (· rfl))))) ?_)) | ((show SLl _ _ _ _ _ (⟨⟨_, .fieldAddr _ _ _, _, _, _, _⟩, _, _⟩ :: _) _ _ _); (refine SLl.pu rfl rfl rfl (Pu.fieldAddr rfl) ?_)) | ((show SLl _ _ _ _ _ (⟨⟨_, .binOp _ _ _ _ _, _, _, _, _⟩, _, _⟩ :: _) _ _ _); (refine SLl.pu rfl rfl rfl (Pu.eqPtrNil rfl rfl) ?_)) | ((show SLl _ _ _ _ _ (⟨⟨_, .box _ _, _, _, _, _⟩, _, _⟩ :: _) _ _ _); refine SLl.seq rfl rfl (SLo.boxC rfl (by (exact Cel.one (by (exact One.lit rfl)))) ?_); intro b) | refine SLl.skip rfl rfl ?_)) | (first | refine SLc.seq ?_ | refine SLc.region rfl ?_ | refine SLc.condT rfl ?_ | refine SLc.ret ?_)))
    all_goals exact And.intro rfl (Exists.intro _ (Exists.intro _ (And.intro rfl (And.intro (.skip .refl) (And.intro rfl rfl)))))
  | false =>
    have h' : most < 0 ∨ 1048576 < most := by simpa using h
    (repeat' (first | (first | refine SLl.nil ?_ | ((show SLl _ _ _ _ _ (⟨⟨_, _, _, _, _, _⟩, _, _⟩ :: _) _ _ _); first | refine SLl.ev rfl rfl rfl rfl ?_ | ((show SLl _ _ _ _ _ (⟨⟨_, .load _ _, _, _, _, _⟩, _, _⟩ :: _) _ _ _); (refine SLl.rdSeq rfl rfl (Rd.load rfl rfl (by ((apply Reads.blk; (· (repeat (first | apply Sel.here | apply Sel.there))); (· rfl))))) ?_)) | ((show SLl _ _ _ _ _ (⟨⟨_, .fieldAddr _ _ _, _, _, _, _⟩, _, _⟩ :: _) _ _ _); (refine SLl.pu rfl rfl rfl (Pu.fieldAddr rfl) ?_)) | ((show SLl _ _ _ _ _ (⟨⟨_, .binOp _ _ _ _ _, _, _, _, _⟩, _, _⟩ :: _) _ _ _); (first | (refine SLl.cmp rfl rfl rfl rfl rfl rfl ?_ ?_ <;> intro hq <;> simp only [cmpP] at hq <;> try ((exfalso; omega))) | refine SLl.pu rfl rfl rfl (Pu.eqPtrNil rfl rfl) ?_)) | ((show SLl _ _ _ _ _ (⟨⟨_, .box _ _, _, _, _, _⟩, _, _⟩ :: _) _ _ _); refine SLl.seq rfl rfl (SLo.boxC rfl (by (exact Cel.one (by (exact One.lit rfl)))) ?_); intro b) | refine SLl.skip rfl rfl ?_)) | (first | refine SLc.seq ?_ | refine SLc.region rfl ?_ | refine SLc.condT rfl ?_ | refine SLc.ret ?_)))
    all_goals exact And.intro rfl (Exists.intro _ (Exists.intro _ (And.intro rfl (And.intro (.skip .refl) (And.intro rfl rfl)))))
end Go.Sl
