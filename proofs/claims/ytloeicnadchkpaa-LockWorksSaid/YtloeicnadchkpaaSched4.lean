/- sched: the contract of step, for whatever the tasks do. -/
import Derived.Test.YtloeicnadchkpaaSched3
namespace Go.Sl
open Go.Proofs
attribute [local irreducible] SLc SLl SLo SLf Pu Rd

/-- What a step's answer makes of its task. -/
def saidT (said : Int) (t : Task) : Task :=
  if said = 3 then { t with done := true } else if said = 2 then (if t.woken then { t with woken := false } else { t with waits := true }) else t
theorem saidT3 {t : Task} : saidT 3 t = { t with done := true } := rfl
theorem saidT2f {st : Value} {wa dn : Bool} : saidT 2 ⟨st, wa, dn, false⟩ = ⟨st, true, dn, false⟩ := rfl
theorem saidT2t {st : Value} {wa dn : Bool} : saidT 2 ⟨st, wa, dn, true⟩ = ⟨st, wa, dn, false⟩ := rfl
theorem saidTe {said : Int} {t : Task} (h3 : ¬ said = 3) (h2 : ¬ said = 2) : saidT said t = t := by simp [saidT, h3, h2]
theorem set_same {α : Type} {l : List α} {i : Nat} {x : α} (h : l[i]? = some x) : l.set i x = l := by
  apply List.ext_getElem?
  intro j
  rw [List.getElem?_set]
  split
  · rename_i hij
    subst hij
    rw [h]
    simp [(List.getElem?_eq_some_iff.1 h).1]
  · rfl
def setNow (m : Sch) (i : Nat) : Sch := { m with now := i }
def afterStep (m : Sch) (i : Nat) (said : Int) : Sch :=
  { m with now := -1, made := m.made + 1, tasks := match m.tasks[i]? with | some t => m.tasks.set i (saidT said t) | none => m.tasks }
/-- Who is to step next. -/
def picked (m : Sch) (i : Nat) : Prop := (canN m)[pickM m (canN m).length]? = some i
/-- What a task's step does: S tells from the scheduler (its task named) and the rest, what it answers and leaves. -/
def StepSpec {α : Type} (W : World) (b : Nat) (pv : Value) (A : α → List Chunk) (I : Sch → α → Prop) (S : Sch → α → Nat → Int → Sch → α → Prop) : Prop :=
  ∀ (m : Sch) (a : α) (lv : Value) (i : Nat) (t : Task), I m a → picked m i → m.tasks[i]? = some t → runsT t = true →
    ∃ (f : FuncId) (pre caps : List Value), t.step = .func (.func f) pre.toArray caps.toArray ∧ Plain Try.prog f ∧
      SLf Try.prog W f (pre ++ caps) (schC b pv lv (setNow m i) ++ A a) (fun v σ => ∃ said lv' m' a', v = .int .i64 said ∧ σ = schC b pv lv' m' ++ A a' ∧ S m a i said m' a')
structure Client {α : Type} (I : Sch → α → Prop) (S : Sch → α → Nat → Int → Sch → α → Prop) : Prop where
  ok : ∀ m a, I m a → SchOk m ∧ (∀ n ∈ m.picks, n < 256)
  keep : ∀ m a i said m' a', I m a → picked m i → S m a i said m' a' → i < m'.tasks.length ∧ m'.made ≤ 1152921504606846976 ∧ I (afterStep m' i said) a'
theorem Step_ok {α : Type} (W : World) (b : Nat) (pv lv : Value) (A : α → List Chunk) (I : Sch → α → Prop) (S : Sch → α → Nat → Int → Sch → α → Prop) (hs : StepSpec W b pv A I S) (hc : Client I S)
    (m : Sch) (a : α) (i : Nat) (t : Task) (hI : I m a) (hpi : picked m i) (ht : m.tasks[i]? = some t) (hr : runsT t = true) :
    SLf Try.prog W 86 [ptr b, .int .i64 (i : Int)] (schC b pv lv m ++ A a) (fun _ σ => ∃ said lv' m' a', S m a i said m' a' ∧ σ = schC b pv lv' (afterStep m' i said) ++ A a') := by
  have htl := @tcells_len m.tasks
  have hlt : i < m.tasks.length := (List.getElem?_eq_some_iff.1 ht).1
  obtain ⟨f, pre, caps, hst, hp, hcall⟩ := hs m a lv i t hI hpi ht hr
  have htc := tcells_at ht
  rw [hst] at htc
  refine SLf.enter Try.func86 rfl (Nat.le_of_ble_eq_true rfl) ?_
  simp only [schC, List.cons_append, List.nil_append]
  (repeat' (first | (first | refine SLl.nil ?_ | ((show SLl _ _ _ _ _ (⟨⟨_, _, _, _, _, _⟩, _, _⟩ :: _) _ _ _); first | refine SLl.ev rfl rfl rfl rfl ?_ | ((show SLl _ _ _ _ _ (⟨⟨_, .load _ _, _, _, _, _⟩, _, _⟩ :: _) _ _ _); (refine SLl.rdSeq rfl rfl (Rd.load rfl rfl (by (first | (apply Reads.blk; (· (repeat (apply Sel.here))); (· rfl)) | (apply Reads.row; (· (repeat (first | apply Sel.here | apply Sel.there))); (· (assumption)); (· rfl))))) ?_)) | ((show SLl _ _ _ _ _ (⟨⟨_, .fieldAddr _ _ _, _, _, _, _⟩, _, _⟩ :: _) _ _ _); (first | refine SLl.pu rfl rfl rfl (Pu.fieldAddr rfl) ?_ | refine SLl.rdSeq rfl rfl (Rd.fieldAddrEl rfl (by ((apply Len.row; (· (repeat (first | apply Sel.here | apply Sel.there)))))) (by omega)) ?_)) | ((show SLl _ _ _ _ _ (⟨⟨_, .indexAddr _ _ _, _, _, _, _⟩, _, _⟩ :: _) _ _ _); (refine SLl.rdSeq rfl rfl (Rd.indexAddr rfl rfl (by ((apply Len.row; (· (repeat (first | apply Sel.here | apply Sel.there)))))) (by (rfl)) (by omega)) ?_)) | ((show SLl _ _ _ _ _ (⟨⟨_, .store _ _ _, _, _, _, _⟩, _, _⟩ :: _) _ _ _); ((refine SLl.seq0 rfl (SLo.store rfl rfl rfl (by (exact One.lit rfl)) (by ((apply Wr.blk; (· (repeat (apply Upd.here))); (· exact Nat.le_of_ble_eq_true rfl)))) ?_)))))) | (first | refine SLc.seq ?_ | refine SLc.region rfl ?_)))
  refine SLl.seq rfl rfl (SLo.callW (pre := pre) (caps := caps) hp rfl rfl (SLf.ent (σ' := schC b pv lv (setNow m i) ++ A a) (.cons .here (.cons .here (.cons .here .refl))) (SLf.mono hcall ?_)))
  rintro v σ ⟨said, lv', m', a', rfl, rfl, hS⟩
  obtain ⟨hlt', hmade, _⟩ := hc.keep m a i said m' a' hI hpi hS
  have ht' : m'.tasks[i]? = some m'.tasks[i] := List.getElem?_eq_getElem hlt'
  have haft : afterStep m' i said = { m' with now := -1, made := m'.made + 1, tasks := m'.tasks.set i (saidT said m'.tasks[i]) } := by unfold afterStep; rw [ht']
  generalize m'.tasks[i] = t' at ht' haft
  have htl' := @tcells_len m'.tasks
  have htc' := tcells_at ht'
  obtain ⟨st', wa', dn', wo'⟩ := t'
  dsimp only at htc'
  simp only [schC, List.cons_append, List.nil_append]
  cases wo' with
  | false =>
    (repeat' (first | (first | refine SLl.nil ?_ | ((show SLl _ _ _ _ _ (⟨⟨_, _, _, _, _, _⟩, _, _⟩ :: _) _ _ _); first | refine SLl.ev rfl rfl rfl rfl ?_ | ((show SLl _ _ _ _ _ (⟨⟨_, .load _ _, _, _, _, _⟩, _, _⟩ :: _) _ _ _); (refine SLl.rdSeq rfl rfl (Rd.load rfl rfl (by (first | (apply Reads.blk; (· (repeat (apply Sel.here))); (· rfl)) | (apply Reads.row; (· (repeat (first | apply Sel.here | apply Sel.there))); (· (assumption)); (· rfl))))) ?_)) | ((show SLl _ _ _ _ _ (⟨⟨_, .fieldAddr _ _ _, _, _, _, _⟩, _, _⟩ :: _) _ _ _); (first | refine SLl.pu rfl rfl rfl (Pu.fieldAddr rfl) ?_ | refine SLl.rdSeq rfl rfl (Rd.fieldAddrEl rfl (by (first | exact Len.nil | (apply Len.row; (· (repeat (first | apply Sel.here | apply Sel.there)))))) (by omega)) ?_)) | ((show SLl _ _ _ _ _ (⟨⟨_, .indexAddr _ _ _, _, _, _, _⟩, _, _⟩ :: _) _ _ _); (refine SLl.rdSeq rfl rfl (Rd.indexAddr rfl rfl (by ((apply Len.row; (· (repeat (first | apply Sel.here | apply Sel.there)))))) (by (rfl)) (by omega)) ?_)) | ((show SLl _ _ _ _ _ (⟨⟨_, .binOp _ _ _ _ _, _, _, _, _⟩, _, _⟩ :: _) _ _ _); (first | refine SLl.pu rfl rfl rfl (Pu.add rfl rfl (IntWalk.i64_in _ (by omega))) ?_ | (refine SLl.cmp rfl rfl rfl rfl rfl rfl ?_ ?_ <;> intro hq <;> simp only [cmpP] at hq <;> try ((exfalso; omega))))) | ((show SLl _ _ _ _ _ (⟨⟨_, .store _ _ _, _, _, _, _⟩, _, _⟩ :: _) _ _ _); ((refine SLl.seq0 rfl (SLo.store rfl rfl rfl (by (exact One.lit rfl)) (by (first | (apply Wr.blk; (· (repeat (apply Upd.here))); (· exact Nat.le_of_ble_eq_true rfl)) | (apply Wr.row; (· (assumption)); (· exact Nat.le_of_ble_eq_true rfl); (· (repeat (first | apply Upd.here | apply Upd.there)))))) ?_)))) | refine SLl.skip rfl rfl ?_)) | (first | refine SLc.seq ?_ | refine SLc.region rfl ?_ | refine SLc.condT rfl ?_ | refine SLc.condF rfl ?_ | refine SLc.block ?_ | refine SLc.skip ?_)))
    · have hsd : said = 3 := by omega
      refine And.intro rfl (Exists.intro _ (Exists.intro (schC b pv lv' (afterStep m' i said) ++ A a') (And.intro rfl (And.intro ?_ (Exists.intro said (Exists.intro lv' (Exists.intro m' (Exists.intro a' (And.intro hS rfl)))))))))
      rw [haft, hsd, saidT3]
      exact .cons .here (.cons .here (Ent.row (tcells_set (l := m'.tasks) (k := i) (t := ⟨st', wa', true, false⟩)) .refl))
    · have hsd : said = 2 := by omega
      refine And.intro rfl (Exists.intro _ (Exists.intro (schC b pv lv' (afterStep m' i said) ++ A a') (And.intro rfl (And.intro ?_ (Exists.intro said (Exists.intro lv' (Exists.intro m' (Exists.intro a' (And.intro hS rfl)))))))))
      rw [haft, hsd, saidT2f]
      exact .cons .here (.cons .here (Ent.row (tcells_set (l := m'.tasks) (k := i) (t := ⟨st', true, dn', false⟩)) .refl))
    · refine And.intro rfl (Exists.intro _ (Exists.intro (schC b pv lv' (afterStep m' i said) ++ A a') (And.intro rfl (And.intro ?_ (Exists.intro said (Exists.intro lv' (Exists.intro m' (Exists.intro a' (And.intro hS rfl)))))))))
      rw [haft, saidTe (by omega) (by omega)]
      exact .cons .here (.cons .here (Ent.row (congrArg tcells (set_same ht').symm) .refl))
  | true =>
    (repeat' (first | (first | refine SLl.nil ?_ | ((show SLl _ _ _ _ _ (⟨⟨_, _, _, _, _, _⟩, _, _⟩ :: _) _ _ _); first | refine SLl.ev rfl rfl rfl rfl ?_ | ((show SLl _ _ _ _ _ (⟨⟨_, .load _ _, _, _, _, _⟩, _, _⟩ :: _) _ _ _); (refine SLl.rdSeq rfl rfl (Rd.load rfl rfl (by (first | (apply Reads.blk; (· (repeat (apply Sel.here))); (· rfl)) | (apply Reads.row; (· (repeat (first | apply Sel.here | apply Sel.there))); (· (assumption)); (· rfl))))) ?_)) | ((show SLl _ _ _ _ _ (⟨⟨_, .fieldAddr _ _ _, _, _, _, _⟩, _, _⟩ :: _) _ _ _); (first | refine SLl.pu rfl rfl rfl (Pu.fieldAddr rfl) ?_ | refine SLl.rdSeq rfl rfl (Rd.fieldAddrEl rfl (by (first | exact Len.nil | (apply Len.row; (· (repeat (first | apply Sel.here | apply Sel.there)))))) (by omega)) ?_)) | ((show SLl _ _ _ _ _ (⟨⟨_, .indexAddr _ _ _, _, _, _, _⟩, _, _⟩ :: _) _ _ _); (refine SLl.rdSeq rfl rfl (Rd.indexAddr rfl rfl (by ((apply Len.row; (· (repeat (first | apply Sel.here | apply Sel.there)))))) (by (rfl)) (by omega)) ?_)) | ((show SLl _ _ _ _ _ (⟨⟨_, .binOp _ _ _ _ _, _, _, _, _⟩, _, _⟩ :: _) _ _ _); (first | refine SLl.pu rfl rfl rfl (Pu.add rfl rfl (IntWalk.i64_in _ (by omega))) ?_ | (refine SLl.cmp rfl rfl rfl rfl rfl rfl ?_ ?_ <;> intro hq <;> simp only [cmpP] at hq <;> try ((exfalso; omega))))) | ((show SLl _ _ _ _ _ (⟨⟨_, .store _ _ _, _, _, _, _⟩, _, _⟩ :: _) _ _ _); ((refine SLl.seq0 rfl (SLo.store rfl rfl rfl (by (exact One.lit rfl)) (by (first | (apply Wr.blk; (· (repeat (apply Upd.here))); (· exact Nat.le_of_ble_eq_true rfl)) | (apply Wr.row; (· (assumption)); (· exact Nat.le_of_ble_eq_true rfl); (· (repeat (first | apply Upd.here | apply Upd.there)))))) ?_)))) | refine SLl.skip rfl rfl ?_)) | (first | refine SLc.seq ?_ | refine SLc.region rfl ?_ | refine SLc.condT rfl ?_ | refine SLc.condF rfl ?_ | refine SLc.block ?_ | refine SLc.skip ?_)))
    · have hsd : said = 3 := by omega
      refine And.intro rfl (Exists.intro _ (Exists.intro (schC b pv lv' (afterStep m' i said) ++ A a') (And.intro rfl (And.intro ?_ (Exists.intro said (Exists.intro lv' (Exists.intro m' (Exists.intro a' (And.intro hS rfl)))))))))
      rw [haft, hsd, saidT3]
      exact .cons .here (.cons .here (Ent.row (tcells_set (l := m'.tasks) (k := i) (t := ⟨st', wa', true, true⟩)) .refl))
    · have hsd : said = 2 := by omega
      refine And.intro rfl (Exists.intro _ (Exists.intro (schC b pv lv' (afterStep m' i said) ++ A a') (And.intro rfl (And.intro ?_ (Exists.intro said (Exists.intro lv' (Exists.intro m' (Exists.intro a' (And.intro hS rfl)))))))))
      rw [haft, hsd, saidT2t]
      exact .cons .here (.cons .here (Ent.row (tcells_set (l := m'.tasks) (k := i) (t := ⟨st', wa', dn', false⟩)) .refl))
    · refine And.intro rfl (Exists.intro _ (Exists.intro (schC b pv lv' (afterStep m' i said) ++ A a') (And.intro rfl (And.intro ?_ (Exists.intro said (Exists.intro lv' (Exists.intro m' (Exists.intro a' (And.intro hS rfl)))))))))
      rw [haft, saidTe (by omega) (by omega)]
      exact .cons .here (.cons .here (Ent.row (congrArg tcells (set_same ht').symm) .refl))
end Go.Sl
