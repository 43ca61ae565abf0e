/- sched: the contracts of can, Waiting, Open, Now, pick. -/
import Derived.Test.YtloeicnadchkpaaLock
import Derived.Test.YtloeicnadchkpaaSL12
namespace Go.Sl
open Go.Proofs
attribute [local irreducible] SLc SLl SLo SLf Pu Rd

def natI (n : Nat) : Int := n
def natL (l : List Nat) : List (List Value) := ints (l.map natI)
theorem natL_len {l : List Nat} : (natL l).length = l.length := by simp [natL, ints]
theorem natL_one {l : List Nat} : ∀ c ∈ natL l, c.length = 1 := intsL_one
theorem natL_ones {W : World} {σ : List Chunk} {l : List Nat} : ∀ c ∈ natL l, ∀ q ∈ c, One W σ q := intsL_ones
theorem natL_at {l : List Nat} {k n : Nat} (h : l[k]? = some n) : (natL l)[k]? = some [.int .i64 (n : Int)] := by simp [natL, ints, natI, h]
theorem natL_app {l : List Nat} {k : Nat} : natL l ++ [[.int .i64 (k : Int)]] = natL (l ++ [k]) := by simp [natL, ints, natI]
/-- The numbers of those for whom something holds, among the first so many. -/
def pickN (f : Task → Bool) (l : List Task) (k : Nat) : List Nat := (List.range k).filter fun i => ((l[i]?).map f).getD false
theorem pickN_succ {f : Task → Bool} {l : List Task} {k : Nat} {t : Task} (h : l[k]? = some t) : pickN f l (k + 1) = if f t then pickN f l k ++ [k] else pickN f l k := by
  unfold pickN
  rw [List.range_succ, List.filter_append]
  simp only [List.filter_cons, List.filter_nil, h, Option.map_some, Option.getD_some]
  split <;> simp
theorem pickN_le {f : Task → Bool} {l : List Task} {k : Nat} : (pickN f l k).length ≤ k := by
  have := List.length_filter_le (fun i => ((l[i]?).map f).getD false) (List.range k)
  simpa [pickN] using this
theorem pickN_mem {f : Task → Bool} {l : List Task} {k i : Nat} (h : i ∈ pickN f l k) : i < k ∧ ∃ t, l[i]? = some t ∧ f t = true := by
  unfold pickN at h
  rw [List.mem_filter, List.mem_range] at h
  obtain ⟨h1, h2⟩ := h
  cases hl : l[i]? with
  | none => simp [hl] at h2
  | some t => simp [hl] at h2; exact ⟨h1, t, rfl, h2⟩
def runsT (t : Task) : Bool := !t.waits && !t.done
def waitsT (t : Task) : Bool := t.waits && !t.done
def canN (m : Sch) : List Nat := pickN runsT m.tasks m.tasks.length
def waitN (m : Sch) : List Nat := pickN waitsT m.tasks m.tasks.length
def openUp (l : List Task) (k : Nat) : Nat := ((l.take k).filter fun t => !t.done).length
def openN (m : Sch) : Nat := openUp m.tasks m.tasks.length
theorem openUp_succ {l : List Task} {k : Nat} {t : Task} (h : l[k]? = some t) : openUp l (k + 1) = openUp l k + if t.done then 0 else 1 := by
  obtain ⟨hk, rfl⟩ := List.getElem?_eq_some_iff.1 h
  unfold openUp
  rw [List.take_succ_eq_append_getElem hk, List.filter_append, List.length_append]
  cases hd : (l[k]).done <;> simp [hd]
theorem openUp_le {l : List Task} {k : Nat} : openUp l k ≤ k := by
  have := List.length_filter_le (fun t : Task => !t.done) (l.take k)
  unfold openUp
  simp only [List.length_take] at this
  omega
/-- A step is one cell; there are not too many tasks. -/
structure SchOk (m : Sch) : Prop where
  steps : ∀ t ∈ m.tasks, t.step.oneCell' = true
  few : m.tasks.length ≤ 128
theorem Now_ok (W : World) (F : List Chunk) (b : Nat) (pv lv : Value) (m : Sch) : SLf Try.prog W 55 [ptr b] (schC b pv lv m ++ F) (fun r σ => r = .int .i64 m.now ∧ σ = schC b pv lv m ++ F) := by
  refine SLf.enter Try.func55 rfl (Nat.le_of_ble_eq_true rfl) ?_
  simp only [schC, List.cons_append, List.nil_append]
  (repeat' (first | (first | refine SLl.nil ?_ | ((show SLl _ _ _ _ _ (⟨⟨_, _, _, _, _, _⟩, _, _⟩ :: _) _ _ _); first | refine SLl.ev rfl rfl rfl rfl ?_ | ((show SLl _ _ _ _ _ (⟨⟨_, .load _ _, _, _, _, _⟩, _, _⟩ :: _) _ _ _); (refine SLl.rdSeq rfl rfl (Rd.load rfl rfl (by ((apply Reads.blk; (· (repeat (apply Sel.here))); (· rfl))))) ?_)) | ((show SLl _ _ _ _ _ (⟨⟨_, .fieldAddr _ _ _, _, _, _, _⟩, _, _⟩ :: _) _ _ _); (refine SLl.pu rfl rfl rfl (Pu.fieldAddr rfl) ?_)) | ((show SLl _ _ _ _ _ (⟨⟨_, .binOp _ _ _ _ _, _, _, _, _⟩, _, _⟩ :: _) _ _ _); (refine SLl.pu rfl rfl rfl (Pu.eqPtrNil rfl rfl) ?_)))) | (first | refine SLc.seq ?_ | refine SLc.region rfl ?_ | refine SLc.condF rfl ?_ | refine SLc.skip ?_ | refine SLc.ret ?_)))
  exact And.intro rfl (Exists.intro _ (Exists.intro _ (And.intro rfl (And.intro .refl (And.intro rfl rfl)))))
theorem Can_ok (W : World) (F : List Chunk) (b : Nat) (pv lv : Value) (m : Sch) (hm : SchOk m) : SLf Try.prog W 85 [ptr b] (schC b pv lv m ++ F) (fun r σ => σ = .row r 3 1 (natL (canN m)) :: (schC b pv lv m ++ F)) := by
  have htl := @tcells_len m.tasks
  have hfew := hm.few
  refine SLf.enter Try.func85 rfl (Nat.le_of_ble_eq_true rfl) ?_
  simp only [schC, List.cons_append, List.nil_append]
  (repeat' (first | (first | refine SLl.nil ?_ | ((show SLl _ _ _ _ _ (⟨⟨_, _, _, _, _, _⟩, _, _⟩ :: _) _ _ _); first | refine SLl.ev rfl rfl rfl rfl ?_ | ((show SLl _ _ _ _ _ (⟨⟨_, .load _ _, _, _, _, _⟩, _, _⟩ :: _) _ _ _); (refine SLl.rdSeq rfl rfl (Rd.load rfl rfl (by ((apply Reads.blk; (· (repeat (apply Sel.here))); (· rfl))))) ?_)) | ((show SLl _ _ _ _ _ (⟨⟨_, .fieldAddr _ _ _, _, _, _, _⟩, _, _⟩ :: _) _ _ _); (refine SLl.pu rfl rfl rfl (Pu.fieldAddr rfl) ?_)) | ((show SLl _ _ _ _ _ (⟨⟨_, .call ⟨.builtin .len, _, _⟩, _, _, _, _⟩, _, _⟩ :: _) _ _ _); refine SLl.rdSeq rfl rfl (Rd.len rfl (by ((apply Len.row; (· (repeat (first | apply Sel.here | apply Sel.there))))))) ?_))) | (first | refine SLc.seq ?_ | refine SLc.region rfl ?_ | refine SLc.block ?_)))
  refine SLc.loop (ι := Nat × Value) (fun s => [(11, .int .i64 s.1), (10, .int .i64 (tcells m.tasks).length), (9, lv), (3, s.2), (0, ptr b)]) (fun s => .row s.2 3 1 (natL (pickN runsT m.tasks s.1)) :: (schC b pv lv m ++ F)) (fun s => s.1 ≤ m.tasks.length) (fun s => m.tasks.length - s.1) (0, .slice none 0 0) (Nat.zero_le _) (by (repeat' (first | exact trivial | apply And.intro | rfl))) (.nil .refl) ?_
  rintro ⟨k, ov⟩ hk
  simp only [schC, List.cons_append, List.nil_append] at hk ⊢
  by_cases hlt : k < m.tasks.length
  · have ht : m.tasks[k]? = some m.tasks[k] := List.getElem?_eq_getElem hlt
    have hps := pickN_succ (f := runsT) ht
    have hstep := hm.steps _ (List.getElem_mem hlt)
    generalize m.tasks[k] = t at ht hps hstep
    have htc := tcells_at ht
    have hone : One W F t.step := One.lit hstep
    have hpl := @natL_len (pickN runsT m.tasks k)
    have hple := @pickN_le runsT m.tasks k
    obtain ⟨st, wa, dn, wo⟩ := t
    dsimp only at htc hone
    cases wa <;> cases dn
    case false.false =>
      (repeat' (first | (first | refine SLl.nil ?_ | ((show SLl _ _ _ _ _ (⟨⟨_, _, _, _, _, _⟩, _, _⟩ :: _) _ _ _); first | refine SLl.ev rfl rfl rfl rfl ?_ | ((show SLl _ _ _ _ _ (⟨⟨_, .load _ _, _, _, _, _⟩, _, _⟩ :: _) _ _ _); (first | refine SLl.rdSeq rfl rfl (Rd.load rfl rfl (by (first | (apply Reads.blk; (· (repeat (apply Sel.here))); (· rfl)) | (apply Reads.row; (· (repeat (first | apply Sel.here | apply Sel.there))); (· (assumption)); (· rfl))))) ?_ | refine SLl.rdSeq rfl rfl (Rd.loadN rfl rfl (by ((apply ReadsN.row0; (· (repeat (first | apply Sel.here | apply Sel.there))); (· (assumption))))) (by rfl)) ?_)) | ((show SLl _ _ _ _ _ (⟨⟨_, .fieldAddr _ _ _, _, _, _, _⟩, _, _⟩ :: _) _ _ _); (refine SLl.pu rfl rfl rfl (Pu.fieldAddr rfl) ?_)) | ((show SLl _ _ _ _ _ (⟨⟨_, .indexAddr _ _ _, _, _, _, _⟩, _, _⟩ :: _) _ _ _); (refine SLl.rdSeq rfl rfl (Rd.indexAddr rfl rfl (by ((apply Len.row; (· (repeat (first | apply Sel.here | apply Sel.there)))))) (by (rfl)) (by omega)) ?_)) | ((show SLl _ _ _ _ _ (⟨⟨_, .binOp _ _ _ _ _, _, _, _, _⟩, _, _⟩ :: _) _ _ _); ((refine SLl.cmp rfl rfl rfl rfl rfl rfl ?_ ?_ <;> intro hq <;> simp only [cmpP] at hq <;> try ((exfalso; omega))))) | ((show SLl _ _ _ _ _ (⟨⟨_, .store _ _ _, _, _, _, _⟩, _, _⟩ :: _) _ _ _); ((refine SLl.seq0 rfl (SLo.storeN rfl rfl rfl (by (repeat' (first | exact trivial | (apply And.intro; (· (first | exact One.lit rfl | exact One.lit (by assumption))))))) (Nat.le_of_ble_eq_true rfl) (by (repeat (apply Upd.here))) ?_)))) | ((show SLl _ _ _ _ _ (⟨⟨_, .alloc _, _, _, _, _⟩, _, _⟩ :: _) _ _ _); refine SLl.seq rfl rfl (SLo.alloc ?_); intro b))) | (first | refine SLc.seq ?_ | refine SLc.region rfl ?_ | refine SLc.condT rfl ?_ | refine SLc.block ?_ | refine SLc.skip ?_)))
      refine SLl.seq rfl rfl (SLo.buildSliceE (ints [(k : Int)]) (by decide) (by decide) rfl (by (repeat (first | exact CellsW.nil | (apply CellsW.cons; (· (exact Cel.one (by (exact One.lit rfl)))))))) (by simp [ints]) rfl (by rfl) ?_)
      intro nv hnv
      refine SLl.seq rfl rfl (SLo.append (es := natL (pickN runsT m.tasks k)) (ys := [[.int .i64 (k : Int)]]) (by rfl) (by omega) rfl rfl (by (repeat (first | apply Sel.here | apply Sel.there))) (Src.row .here (by simp)) (One.lits (by simp [Value.oneCell'])) (by simp only [List.length_singleton]; omega) (by simp only [List.length_singleton]; omega) ?_)
      intro ov' hov
      (repeat' (first | (first | refine SLl.nil ?_ | ((show SLl _ _ _ _ _ (⟨⟨_, _, _, _, _, _⟩, _, _⟩ :: _) _ _ _); first | refine SLl.ev rfl rfl rfl rfl ?_ | ((show SLl _ _ _ _ _ (⟨⟨_, .binOp _ _ _ _ _, _, _, _, _⟩, _, _⟩ :: _) _ _ _); (refine SLl.pu rfl rfl rfl (Pu.add rfl rfl (IntWalk.i64_in _ (by omega))) ?_)))) | (refine SLc.region rfl ?_)))
      refine And.intro rfl (Exists.intro (k + 1, ov') (And.intro (by dsimp only; omega) (And.intro (by dsimp only; omega) (And.intro (by (repeat' (first | exact trivial | apply And.intro | rfl))) ?_))))
      dsimp only
      rw [hps]
      refine Ent.row ?_ (.skip (.skip .refl))
      rw [natL_app]
      rfl
    all_goals
      (repeat' (first | (first | refine SLl.nil ?_ | ((show SLl _ _ _ _ _ (⟨⟨_, _, _, _, _, _⟩, _, _⟩ :: _) _ _ _); first | refine SLl.ev rfl rfl rfl rfl ?_ | ((show SLl _ _ _ _ _ (⟨⟨_, .load _ _, _, _, _, _⟩, _, _⟩ :: _) _ _ _); (first | refine SLl.rdSeq rfl rfl (Rd.load rfl rfl (by (first | (apply Reads.blk; (· (repeat (apply Sel.here))); (· rfl)) | (apply Reads.row; (· (repeat (first | apply Sel.here | apply Sel.there))); (· (assumption)); (· rfl))))) ?_ | refine SLl.rdSeq rfl rfl (Rd.loadN rfl rfl (by (first | (apply ReadsN.blk0; (· (repeat (apply Sel.here)))) | (apply ReadsN.row0; (· (repeat (first | apply Sel.here | apply Sel.there))); (· (assumption))))) (by rfl)) ?_)) | ((show SLl _ _ _ _ _ (⟨⟨_, .fieldAddr _ _ _, _, _, _, _⟩, _, _⟩ :: _) _ _ _); (refine SLl.pu rfl rfl rfl (Pu.fieldAddr rfl) ?_)) | ((show SLl _ _ _ _ _ (⟨⟨_, .indexAddr _ _ _, _, _, _, _⟩, _, _⟩ :: _) _ _ _); (refine SLl.rdSeq rfl rfl (Rd.indexAddr rfl rfl (by ((apply Len.row; (· (repeat (first | apply Sel.here | apply Sel.there)))))) (by (rfl)) (by omega)) ?_)) | ((show SLl _ _ _ _ _ (⟨⟨_, .binOp _ _ _ _ _, _, _, _, _⟩, _, _⟩ :: _) _ _ _); (first | refine SLl.pu rfl rfl rfl (Pu.add rfl rfl (IntWalk.i64_in _ (by omega))) ?_ | (refine SLl.cmp rfl rfl rfl rfl rfl rfl ?_ ?_ <;> intro hq <;> simp only [cmpP] at hq <;> try ((exfalso; omega))))) | ((show SLl _ _ _ _ _ (⟨⟨_, .store _ _ _, _, _, _, _⟩, _, _⟩ :: _) _ _ _); ((refine SLl.seq0 rfl (SLo.storeN rfl rfl rfl (by (repeat' (first | exact trivial | (apply And.intro; (· (first | exact One.lit rfl | exact One.lit (by assumption))))))) (Nat.le_of_ble_eq_true rfl) (by (repeat (apply Upd.here))) ?_)))) | ((show SLl _ _ _ _ _ (⟨⟨_, .alloc _, _, _, _, _⟩, _, _⟩ :: _) _ _ _); refine SLl.seq rfl rfl (SLo.alloc ?_); intro b) | refine SLl.skip rfl rfl ?_)) | (first | refine SLc.seq ?_ | refine SLc.region rfl ?_ | refine SLc.condT rfl ?_ | refine SLc.condF rfl ?_ | refine SLc.block ?_ | refine SLc.skip ?_)))
      refine And.intro rfl (Exists.intro (k + 1, ov) (And.intro (by dsimp only; omega) (And.intro (by dsimp only; omega) (And.intro (by (repeat' (first | exact trivial | apply And.intro | rfl))) ?_))))
      dsimp only
      rw [hps]
      exact .skip .refl
  · have hkl : k = m.tasks.length := by omega
    subst hkl
    (repeat' (first | (first | refine SLl.nil ?_ | ((show SLl _ _ _ _ _ (⟨⟨_, _, _, _, _, _⟩, _, _⟩ :: _) _ _ _); first | refine SLl.ev rfl rfl rfl rfl ?_ | ((show SLl _ _ _ _ _ (⟨⟨_, .binOp _ _ _ _ _, _, _, _, _⟩, _, _⟩ :: _) _ _ _); ((refine SLl.cmp rfl rfl rfl rfl rfl rfl ?_ ?_ <;> intro hq <;> simp only [cmpP] at hq <;> try ((exfalso; omega))))))) | (first | refine SLc.seq ?_ | refine SLc.region rfl ?_ | refine SLc.condF rfl ?_ | refine SLc.exit ?_ | refine SLc.ret ?_)))
    exact And.intro rfl (Exists.intro _ (Exists.intro _ (And.intro rfl (And.intro .refl rfl))))
end Go.Sl
