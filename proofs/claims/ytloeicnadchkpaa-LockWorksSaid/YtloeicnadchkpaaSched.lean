/- sched: the contracts of New, Go, there, Wake. -/
import Derived.Test.YtloeicnadchkpaaTy24
import Derived.Test.YtloeicnadchkpaaSL11
namespace Go.Sl
open Go.Proofs
attribute [local irreducible] SLc SLl SLo SLf Pu Rd

/-- Small numbers as cells. -/
def u8C (n : Nat) : List Value := [.int .u8 (n : Int)]
def u8L (l : List Nat) : List (List Value) := l.map u8C
theorem u8L_len {l : List Nat} : (u8L l).length = l.length := by simp [u8L]
theorem u8L_at {l : List Nat} {k n : Nat} (h : l[k]? = some n) : (u8L l)[k]? = some [.int .u8 (n : Int)] := by simp [u8L, u8C, h]
theorem u8L_one {l : List Nat} : ∀ c ∈ u8L l, c.length = 1 := fun c hc => by obtain ⟨x, _, rfl⟩ := List.mem_map.1 hc; rfl
theorem u8L_ones {W : World} {σ : List Chunk} {l : List Nat} : ∀ c ∈ u8L l, ∀ q ∈ c, One W σ q := fun c hc q hq => by
  obtain ⟨x, _, rfl⟩ := List.mem_map.1 hc
  simp only [u8C, List.mem_singleton] at hq
  subst hq
  exact One.lit rfl
structure Task where
  step : Value
  waits : Bool
  done : Bool
  woken : Bool
def Task.cells (t : Task) : List Value := [t.step, .bool t.waits, .bool t.done, .bool t.woken]
def tcells (l : List Task) : List (List Value) := l.map Task.cells
theorem tcells_len {l : List Task} : (tcells l).length = l.length := by simp [tcells]
theorem tcells_at {l : List Task} {k : Nat} {t : Task} (h : l[k]? = some t) : (tcells l)[k]? = some [t.step, .bool t.waits, .bool t.done, .bool t.woken] := by simp [tcells, h, Task.cells]
theorem tcells_set {l : List Task} {k : Nat} {t : Task} : (tcells l).set k t.cells = tcells (l.set k t) := by simp [tcells, List.map_set]
theorem tcells_app {l : List Task} {t : Task} : tcells l ++ [t.cells] = tcells (l ++ [t]) := by simp [tcells]
structure Sch where
  picks : List Nat
  tasks : List Task
  made : Nat
  now : Int
  runs : Bool
/-- The memory of a scheduler. -/
def schC (b : Nat) (pv lv : Value) (m : Sch) : List Chunk :=
  [.blk b 130 [pv, lv, .int .i64 (m.made : Int), .int .i64 m.now, .bool m.runs], .row pv 5 1 (u8L m.picks), .row lv 132 4 (tcells m.tasks)]
abbrev ptr (b : Nat) : Value := .pointer (some ⟨b, 0, none⟩)

theorem New_ok (W : World) (F : List Chunk) (v : Value) (picks : List Nat) (hv : Rs W F v 1 (u8L picks)) (hp : picks.length ≤ 140737488355328) :
    SLf Try.prog W 35 [v] F (fun r σ => ∃ b pv, r = ptr b ∧ σ = schC b pv (.slice none 0 0) ⟨picks, [], 0, -1, false⟩ ++ F) := by
  have hpl := @u8L_len picks
  refine SLf.enter Try.func35 rfl (Nat.le_of_ble_eq_true rfl) ?_
  (repeat' (first | (first | refine SLl.nil ?_ | ((show SLl _ _ _ _ _ (⟨⟨_, _, _, _, _, _⟩, _, _⟩ :: _) _ _ _); refine SLl.ev rfl rfl rfl rfl ?_)) | (first | refine SLc.seq ?_ | refine SLc.region rfl ?_)))
  refine SLl.seq rfl rfl (SLo.nilRow 5 1 (SLo.append (es := []) (ys := u8L picks) (by rfl) (by omega) rfl rfl .here (Src.rs (hv.mono (.skip .refl))) u8L_ones (by simp only [List.length_nil]; omega) (by simp only [List.length_nil]; omega) ?_))
  intro pv hpv
  (repeat' (first | (first | refine SLl.nil ?_ | ((show SLl _ _ _ _ _ (⟨⟨_, _, _, _, _, _⟩, _, _⟩ :: _) _ _ _); first | refine SLl.ev rfl rfl rfl rfl ?_ | ((show SLl _ _ _ _ _ (⟨⟨_, .box _ _, _, _, _, _⟩, _, _⟩ :: _) _ _ _); refine SLl.seq rfl rfl (SLo.boxC rfl (by (exact Cel.agg)) ?_); intro b) | ((show SLl _ _ _ _ _ (⟨⟨_, .build _ _, _, _, _, _⟩, _, _⟩ :: _) _ _ _); refine SLl.rdSeq rfl rfl (Rd.build rfl (by (repeat (first | exact CellsW.nil | (apply CellsW.cons; (· (exact Cel.one (by (first | exact One.lit rfl | exact One.len (by ((apply Len.row; (· (repeat (apply Sel.here)))))))))))))) (by rfl)) ?_))) | (refine SLc.ret ?_)))
  refine And.intro rfl (Exists.intro _ (Exists.intro (schC b pv (.slice none 0 0) ⟨picks, [], 0, -1, false⟩ ++ F) (And.intro rfl (And.intro ?_ (Exists.intro b (Exists.intro pv (And.intro rfl rfl)))))))
  exact .cons .here (.cons .here (.nil .refl))
def addTask (m : Sch) (t : Task) : Sch := { m with tasks := m.tasks ++ [t] }
theorem Go_ok (W : World) (F : List Chunk) (b : Nat) (pv lv : Value) (m : Sch) (fn : Fn) (a1 a2 : Array Value) (hn : m.tasks.length < 128) :
    SLf Try.prog W 36 [ptr b, .func fn a1 a2] (schC b pv lv m ++ F) (fun r σ => ∃ lv', r = .tuple #[.int .i64 (m.tasks.length : Int), .int .i64 0] ∧ σ = schC b pv lv' (addTask m ⟨.func fn a1 a2, false, false, false⟩) ++ F) := by
  have htl := @tcells_len m.tasks
  refine SLf.enter Try.func36 rfl (Nat.le_of_ble_eq_true rfl) ?_
  simp only [schC, List.cons_append, List.nil_append]
  (repeat' (first | (first | refine SLl.nil ?_ | ((show SLl _ _ _ _ _ (⟨⟨_, _, _, _, _, _⟩, _, _⟩ :: _) _ _ _); first | refine SLl.ev rfl rfl rfl rfl ?_ | ((show SLl _ _ _ _ _ (⟨⟨_, .load _ _, _, _, _, _⟩, _, _⟩ :: _) _ _ _); (refine SLl.rdSeq rfl rfl (Rd.load rfl rfl (by ((apply Reads.blk; (· (repeat (apply Sel.here))); (· rfl))))) ?_)) | ((show SLl _ _ _ _ _ (⟨⟨_, .fieldAddr _ _ _, _, _, _, _⟩, _, _⟩ :: _) _ _ _); (refine SLl.pu rfl rfl rfl (Pu.fieldAddr rfl) ?_)) | ((show SLl _ _ _ _ _ (⟨⟨_, .call ⟨.builtin .len, _, _⟩, _, _, _, _⟩, _, _⟩ :: _) _ _ _); refine SLl.rdSeq rfl rfl (Rd.len rfl (by ((apply Len.row; (· (repeat (first | apply Sel.here | apply Sel.there))))))) ?_) | ((show SLl _ _ _ _ _ (⟨⟨_, .binOp _ _ _ _ _, _, _, _, _⟩, _, _⟩ :: _) _ _ _); (first | (refine SLl.cmp rfl rfl rfl rfl rfl rfl ?_ ?_ <;> intro hq <;> simp only [cmpP] at hq <;> try ((exfalso; omega))) | refine SLl.pu rfl rfl rfl (Pu.eqPtrNil rfl rfl) ?_ | refine SLl.pu rfl rfl rfl (Pu.eqFuncNilF rfl rfl) ?_)) | ((show SLl _ _ _ _ _ (⟨⟨_, .build _ _, _, _, _, _⟩, _, _⟩ :: _) _ _ _); refine SLl.rdSeq rfl rfl (Rd.build rfl (by (repeat (first | exact CellsW.nil | (apply CellsW.cons; (· (exact Cel.one (by (exact One.lit rfl)))))))) (by rfl)) ?_))) | (first | refine SLc.seq ?_ | refine SLc.region rfl ?_ | refine SLc.condF rfl ?_ | refine SLc.block ?_ | refine SLc.skip ?_)))
  refine SLl.seq rfl rfl (SLo.buildSliceE [Task.cells ⟨.func fn a1 a2, false, false, false⟩] (by decide) (by decide) rfl (by (repeat (first | exact CellsW.nil | (apply CellsW.cons; (· (exact Cel.agg)))))) (by simp [Task.cells]) rfl (by rfl) ?_)
  intro nv hnv
  refine SLl.seq rfl rfl (SLo.append (es := tcells m.tasks) (ys := [Task.cells ⟨.func fn a1 a2, false, false, false⟩]) (by rfl) (by omega) rfl rfl (by (repeat (first | apply Sel.here | apply Sel.there))) (Src.row .here (by simp [Task.cells])) (One.lits (by simp [Task.cells, Value.oneCell'])) (by simp only [List.length_singleton]; omega) (by simp only [List.length_singleton]; omega) ?_)
  intro lv' hlv
  have htl2 : (tcells m.tasks ++ [Task.cells ⟨.func fn a1 a2, false, false, false⟩]).length = m.tasks.length + 1 := by simp [tcells]
  (repeat' (first | (first | refine SLl.nil ?_ | ((show SLl _ _ _ _ _ (⟨⟨_, _, _, _, _, _⟩, _, _⟩ :: _) _ _ _); first | refine SLl.ev rfl rfl rfl rfl ?_ | ((show SLl _ _ _ _ _ (⟨⟨_, .load _ _, _, _, _, _⟩, _, _⟩ :: _) _ _ _); (refine SLl.rdSeq rfl rfl (Rd.load rfl rfl (by ((apply Reads.blk; (· (repeat (first | apply Sel.here | apply Sel.there))); (· rfl))))) ?_)) | ((show SLl _ _ _ _ _ (⟨⟨_, .fieldAddr _ _ _, _, _, _, _⟩, _, _⟩ :: _) _ _ _); (refine SLl.pu rfl rfl rfl (Pu.fieldAddr rfl) ?_)) | ((show SLl _ _ _ _ _ (⟨⟨_, .call ⟨.builtin .len, _, _⟩, _, _, _, _⟩, _, _⟩ :: _) _ _ _); refine SLl.rdSeq rfl rfl (Rd.len rfl (by ((apply Len.row; (· (repeat (apply Sel.here))))))) ?_) | ((show SLl _ _ _ _ _ (⟨⟨_, .binOp _ _ _ _ _, _, _, _, _⟩, _, _⟩ :: _) _ _ _); (refine SLl.pu rfl rfl rfl (Pu.sub rfl rfl (IntWalk.i64_in _ (by omega))) ?_)) | ((show SLl _ _ _ _ _ (⟨⟨_, .store _ _ _, _, _, _, _⟩, _, _⟩ :: _) _ _ _); ((refine SLl.seq0 rfl (SLo.store rfl rfl rfl (by (exact One.len (by ((apply Len.row; (· (repeat (apply Sel.here)))))))) (by ((apply Wr.blk; (· (repeat (first | apply Upd.here | apply Upd.there))); (· exact Nat.le_of_ble_eq_true rfl)))) ?_)))))) | (first | refine SLc.seq ?_ | refine SLc.region rfl ?_ | refine SLc.ret ?_)))
  refine And.intro rfl (Exists.intro _ (Exists.intro (schC b pv lv' (addTask m ⟨.func fn a1 a2, false, false, false⟩) ++ F) (And.intro rfl (And.intro ?_ (Exists.intro lv' (And.intro (congrArg (fun z : Int => Value.tuple #[.int .i64 z, .int .i64 0]) (by omega)) rfl))))))
  exact .cons (by (repeat (first | apply Sel.here | apply Sel.there))) (.cons (by (repeat (first | apply Sel.here | apply Sel.there))) (Ent.row tcells_app (.skip .refl)))
theorem Go_full (W : World) (F : List Chunk) (b : Nat) (pv lv : Value) (m : Sch) (fn : Fn) (a1 a2 : Array Value) (hn : 128 ≤ m.tasks.length) :
    SLf Try.prog W 36 [ptr b, .func fn a1 a2] (schC b pv lv m ++ F) (fun r σ => r = .tuple #[.int .i64 0, .int .i64 13] ∧ σ = schC b pv lv m ++ F) := by
  have htl := @tcells_len m.tasks
  refine SLf.enter Try.func36 rfl (Nat.le_of_ble_eq_true rfl) ?_
  simp only [schC, List.cons_append, List.nil_append]
  (repeat' (first | (first | refine SLl.nil ?_ | ((show SLl _ _ _ _ _ (⟨⟨_, _, _, _, _, _⟩, _, _⟩ :: _) _ _ _); first | refine SLl.ev rfl rfl rfl rfl ?_ | ((show SLl _ _ _ _ _ (⟨⟨_, .load _ _, _, _, _, _⟩, _, _⟩ :: _) _ _ _); (refine SLl.rdSeq rfl rfl (Rd.load rfl rfl (by ((apply Reads.blk; (· (repeat (apply Sel.here))); (· rfl))))) ?_)) | ((show SLl _ _ _ _ _ (⟨⟨_, .fieldAddr _ _ _, _, _, _, _⟩, _, _⟩ :: _) _ _ _); (refine SLl.pu rfl rfl rfl (Pu.fieldAddr rfl) ?_)) | ((show SLl _ _ _ _ _ (⟨⟨_, .call ⟨.builtin .len, _, _⟩, _, _, _, _⟩, _, _⟩ :: _) _ _ _); refine SLl.rdSeq rfl rfl (Rd.len rfl (by ((apply Len.row; (· (repeat (first | apply Sel.here | apply Sel.there))))))) ?_) | ((show SLl _ _ _ _ _ (⟨⟨_, .binOp _ _ _ _ _, _, _, _, _⟩, _, _⟩ :: _) _ _ _); (first | (refine SLl.cmp rfl rfl rfl rfl rfl rfl ?_ ?_ <;> intro hq <;> simp only [cmpP] at hq <;> try ((exfalso; omega))) | refine SLl.pu rfl rfl rfl (Pu.eqPtrNil rfl rfl) ?_ | refine SLl.pu rfl rfl rfl (Pu.eqFuncNilF rfl rfl) ?_)))) | (first | refine SLc.seq ?_ | refine SLc.region rfl ?_ | refine SLc.condT rfl ?_ | refine SLc.condF rfl ?_ | refine SLc.block ?_ | refine SLc.ret ?_)))
  exact And.intro rfl (Exists.intro _ (Exists.intro _ (And.intro rfl (And.intro .refl (And.intro rfl rfl)))))
theorem Go_nil (W : World) (F : List Chunk) (b : Nat) :
    SLf Try.prog W 36 [ptr b, .nilFunc] F (fun r σ => r = .tuple #[.int .i64 0, .int .i64 1] ∧ σ = F) := by
  refine SLf.enter Try.func36 rfl (Nat.le_of_ble_eq_true rfl) ?_
  (repeat' (first | (first | refine SLl.nil ?_ | ((show SLl _ _ _ _ _ (⟨⟨_, _, _, _, _, _⟩, _, _⟩ :: _) _ _ _); first | refine SLl.ev rfl rfl rfl rfl ?_ | ((show SLl _ _ _ _ _ (⟨⟨_, .binOp _ _ _ _ _, _, _, _, _⟩, _, _⟩ :: _) _ _ _); (first | refine SLl.pu rfl rfl rfl (Pu.eqPtrNil rfl rfl) ?_ | refine SLl.pu rfl rfl rfl (Pu.eqFuncNilT rfl rfl) ?_)))) | (first | refine SLc.seq ?_ | refine SLc.region rfl ?_ | refine SLc.condT rfl ?_ | refine SLc.block ?_ | refine SLc.ret ?_)))
  exact And.intro rfl (Exists.intro _ (Exists.intro _ (And.intro rfl (And.intro .refl (And.intro rfl rfl)))))
def thereM (m : Sch) (id : Int) : Bool := decide (0 ≤ id) && decide (id < m.tasks.length)
theorem There_ok (W : World) (F : List Chunk) (b : Nat) (pv lv : Value) (m : Sch) (id : Int) :
    SLf Try.prog W 90 [ptr b, .int .i64 id] (schC b pv lv m ++ F) (fun r σ => r = .bool (thereM m id) ∧ σ = schC b pv lv m ++ F) := by
  have htl := @tcells_len m.tasks
  refine SLf.enter Try.func90 rfl (Nat.le_of_ble_eq_true rfl) ?_
  simp only [schC, List.cons_append, List.nil_append]
  (repeat' (first | (first | refine SLl.nil ?_ | ((show SLl _ _ _ _ _ (⟨⟨_, _, _, _, _, _⟩, _, _⟩ :: _) _ _ _); first | refine SLl.ev rfl rfl rfl rfl ?_ | ((show SLl _ _ _ _ _ (⟨⟨_, .load _ _, _, _, _, _⟩, _, _⟩ :: _) _ _ _); (refine SLl.rdSeq rfl rfl (Rd.load rfl rfl (by ((apply Reads.blk; (· (repeat (apply Sel.here))); (· rfl))))) ?_)) | ((show SLl _ _ _ _ _ (⟨⟨_, .fieldAddr _ _ _, _, _, _, _⟩, _, _⟩ :: _) _ _ _); (refine SLl.pu rfl rfl rfl (Pu.fieldAddr rfl) ?_)) | ((show SLl _ _ _ _ _ (⟨⟨_, .call ⟨.builtin .len, _, _⟩, _, _, _, _⟩, _, _⟩ :: _) _ _ _); refine SLl.rdSeq rfl rfl (Rd.len rfl (by ((apply Len.row; (· (repeat (first | apply Sel.here | apply Sel.there))))))) ?_) | ((show SLl _ _ _ _ _ (⟨⟨_, .binOp _ _ _ _ _, _, _, _, _⟩, _, _⟩ :: _) _ _ _); (first | (refine SLl.cmp rfl rfl rfl rfl rfl rfl ?_ ?_ <;> intro hq <;> simp only [cmpP] at hq <;> try (fail)) | refine SLl.pu rfl rfl rfl (Pu.nePtrNil rfl rfl) ?_)) | refine SLl.skip rfl rfl ?_)) | (first | refine SLc.seq ?_ | refine SLc.region rfl ?_ | refine SLc.ret ?_)))
  all_goals
    refine And.intro rfl (Exists.intro _ (Exists.intro _ (And.intro rfl (And.intro .refl (And.intro (congrArg Value.bool (Eq.symm ?_)) rfl)))))
    simp only [thereM, Bool.and_eq_true, Bool.and_eq_false_iff, decide_eq_true_eq, decide_eq_false_iff_not]
    omega
/-- Who is woken: he waits no more; who did not wait is noted. -/
def wokenT (t : Task) : Task := { t with woken := t.woken || !t.waits, waits := false }
def wakeM (m : Sch) (id : Int) : Bool × Sch :=
  if thereM m id then
    match m.tasks[id.toNat]? with
    | some t => if t.done then (false, m) else (true, { m with tasks := m.tasks.set id.toNat (wokenT t) })
    | none => (false, m)
  else (false, m)
theorem Wake_ok (W : World) (F : List Chunk) (b : Nat) (pv lv : Value) (m : Sch) (id : Int) :
    SLf Try.prog W 57 [ptr b, .int .i64 id] (schC b pv lv m ++ F) (fun r σ => r = .bool (wakeM m id).1 ∧ σ = schC b pv lv (wakeM m id).2 ++ F) := by
  have htl := @tcells_len m.tasks
  refine SLf.enter Try.func57 rfl (Nat.le_of_ble_eq_true rfl) ?_
  (repeat' (first | (first | refine SLl.nil ?_ | ((show SLl _ _ _ _ _ (⟨⟨_, _, _, _, _, _⟩, _, _⟩ :: _) _ _ _); refine SLl.ev rfl rfl rfl rfl ?_)) | (first | refine SLc.seq ?_ | refine SLc.region rfl ?_)))
  refine SLl.seq rfl rfl (SLo.call plain90 rfl (SLf.mono (There_ok W F b pv lv m id) ?_))
  rintro v σ ⟨hv, rfl⟩
  cases ht : thereM m id with
  | false =>
    rw [ht] at hv
    subst hv
    (repeat' (first | (first | refine SLl.nil ?_ | ((show SLl _ _ _ _ _ (⟨⟨_, _, _, _, _, _⟩, _, _⟩ :: _) _ _ _); first | refine SLl.ev rfl rfl rfl rfl ?_ | refine SLl.skip rfl rfl ?_)) | (first | refine SLc.seq ?_ | refine SLc.region rfl ?_ | refine SLc.condT rfl ?_ | refine SLc.ret ?_)))
    have hw : wakeM m id = (false, m) := by simp [wakeM, ht]
    rw [hw]
    exact And.intro rfl (Exists.intro _ (Exists.intro _ (And.intro rfl (And.intro .refl (And.intro rfl rfl)))))
  | true =>
    rw [ht] at hv
    subst hv
    have ht2 := ht
    simp only [thereM, Bool.and_eq_true, decide_eq_true_eq] at ht2
    obtain ⟨k, rfl⟩ := Int.eq_ofNat_of_zero_le ht2.1
    have hlt : k < m.tasks.length := by omega
    have hk : m.tasks[k]? = some (m.tasks[k]'hlt) := List.getElem?_eq_getElem hlt
    generalize m.tasks[k]'hlt = t at hk
    have htk := tcells_at hk
    simp only [schC, List.cons_append, List.nil_append]
    obtain ⟨st, wa, dn, wo⟩ := t
    cases dn with
    | true =>
      have hw : wakeM m (k : Int) = (false, m) := by simp [wakeM, ht, hk]
      rw [hw]
      (repeat' (first | (first | refine SLl.nil ?_ | ((show SLl _ _ _ _ _ (⟨⟨_, _, _, _, _, _⟩, _, _⟩ :: _) _ _ _); first | refine SLl.ev rfl rfl rfl rfl ?_ | ((show SLl _ _ _ _ _ (⟨⟨_, .load _ _, _, _, _, _⟩, _, _⟩ :: _) _ _ _); (refine SLl.rdSeq rfl rfl (Rd.load rfl rfl (by (first | (apply Reads.blk; (· (repeat (apply Sel.here))); (· rfl)) | (apply Reads.row; (· (repeat (first | apply Sel.here | apply Sel.there))); (· (assumption)); (· rfl))))) ?_)) | ((show SLl _ _ _ _ _ (⟨⟨_, .fieldAddr _ _ _, _, _, _, _⟩, _, _⟩ :: _) _ _ _); (first | refine SLl.pu rfl rfl rfl (Pu.fieldAddr rfl) ?_ | refine SLl.rdSeq rfl rfl (Rd.fieldAddrEl rfl (by ((apply Len.row; (· (repeat (first | apply Sel.here | apply Sel.there)))))) (by omega)) ?_)) | ((show SLl _ _ _ _ _ (⟨⟨_, .indexAddr _ _ _, _, _, _, _⟩, _, _⟩ :: _) _ _ _); (refine SLl.rdSeq rfl rfl (Rd.indexAddr rfl rfl (by ((apply Len.row; (· (repeat (first | apply Sel.here | apply Sel.there)))))) (by (rfl)) (by omega)) ?_)))) | (first | refine SLc.seq ?_ | refine SLc.region rfl ?_ | refine SLc.condT rfl ?_ | refine SLc.ret ?_)))
      exact And.intro rfl (Exists.intro _ (Exists.intro _ (And.intro rfl (And.intro .refl (And.intro rfl rfl)))))
    | false =>
      have hw : wakeM m (k : Int) = (true, { m with tasks := m.tasks.set k (wokenT ⟨st, wa, false, wo⟩) }) := by simp [wakeM, ht, hk]
      rw [hw]
      cases wo with
      | true =>
        (repeat' (first | (first | refine SLl.nil ?_ | ((show SLl _ _ _ _ _ (⟨⟨_, _, _, _, _, _⟩, _, _⟩ :: _) _ _ _); first | refine SLl.ev rfl rfl rfl rfl ?_ | ((show SLl _ _ _ _ _ (⟨⟨_, .load _ _, _, _, _, _⟩, _, _⟩ :: _) _ _ _); (refine SLl.rdSeq rfl rfl (Rd.load rfl rfl (by (first | (apply Reads.blk; (· (repeat (apply Sel.here))); (· rfl)) | (apply Reads.row; (· (repeat (first | apply Sel.here | apply Sel.there))); (· (assumption)); (· rfl))))) ?_)) | ((show SLl _ _ _ _ _ (⟨⟨_, .fieldAddr _ _ _, _, _, _, _⟩, _, _⟩ :: _) _ _ _); (first | refine SLl.pu rfl rfl rfl (Pu.fieldAddr rfl) ?_ | refine SLl.rdSeq rfl rfl (Rd.fieldAddrEl rfl (by (first | exact Len.nil | (apply Len.row; (· (repeat (first | apply Sel.here | apply Sel.there)))))) (by omega)) ?_)) | ((show SLl _ _ _ _ _ (⟨⟨_, .indexAddr _ _ _, _, _, _, _⟩, _, _⟩ :: _) _ _ _); (refine SLl.rdSeq rfl rfl (Rd.indexAddr rfl rfl (by ((apply Len.row; (· (repeat (first | apply Sel.here | apply Sel.there)))))) (by (rfl)) (by omega)) ?_)) | ((show SLl _ _ _ _ _ (⟨⟨_, .store _ _ _, _, _, _, _⟩, _, _⟩ :: _) _ _ _); ((refine SLl.seq0 rfl (SLo.store rfl rfl rfl (by (exact One.lit rfl)) (by ((apply Wr.row; (· (assumption)); (· exact Nat.le_of_ble_eq_true rfl); (· (repeat (first | apply Upd.here | apply Upd.there)))))) ?_)))) | refine SLl.skip rfl rfl ?_)) | (first | refine SLc.seq ?_ | refine SLc.region rfl ?_ | refine SLc.condF rfl ?_ | refine SLc.skip ?_)))
        generalize hE : (tcells m.tasks).set k _ = E
        have hEl : E.length = m.tasks.length := by rw [← hE, List.length_set]; exact htl
        have hEk : E[k]? = some [st, .bool wa, .bool false, .bool true] := by rw [← hE]; exact List.getElem?_set_self (by omega)
        (repeat' (first | (first | refine SLl.nil ?_ | ((show SLl _ _ _ _ _ (⟨⟨_, _, _, _, _, _⟩, _, _⟩ :: _) _ _ _); first | refine SLl.ev rfl rfl rfl rfl ?_ | ((show SLl _ _ _ _ _ (⟨⟨_, .fieldAddr _ _ _, _, _, _, _⟩, _, _⟩ :: _) _ _ _); (refine SLl.rdSeq rfl rfl (Rd.fieldAddrEl rfl (by ((apply Len.row; (· (repeat (first | apply Sel.here | apply Sel.there)))))) (by omega)) ?_)) | ((show SLl _ _ _ _ _ (⟨⟨_, .store _ _ _, _, _, _, _⟩, _, _⟩ :: _) _ _ _); ((refine SLl.seq0 rfl (SLo.store rfl rfl rfl (by (exact One.lit rfl)) (by ((apply Wr.row; (· (assumption)); (· exact Nat.le_of_ble_eq_true rfl); (· (repeat (first | apply Upd.here | apply Upd.there)))))) ?_)))))) | (first | refine SLc.seq ?_ | refine SLc.region rfl ?_ | refine SLc.ret ?_)))
        refine And.intro rfl (Exists.intro _ (Exists.intro _ (And.intro rfl (And.intro ?_ (And.intro rfl rfl)))))
        refine .cons .here (.cons .here (Ent.row ?_ .refl))
        rw [← hE, List.set_set, ← tcells_set]
        rfl
      | false =>
        (repeat' (first | (first | refine SLl.nil ?_ | ((show SLl _ _ _ _ _ (⟨⟨_, _, _, _, _, _⟩, _, _⟩ :: _) _ _ _); first | refine SLl.ev rfl rfl rfl rfl ?_ | ((show SLl _ _ _ _ _ (⟨⟨_, .load _ _, _, _, _, _⟩, _, _⟩ :: _) _ _ _); (refine SLl.rdSeq rfl rfl (Rd.load rfl rfl (by (first | (apply Reads.blk; (· (repeat (apply Sel.here))); (· rfl)) | (apply Reads.row; (· (repeat (first | apply Sel.here | apply Sel.there))); (· (assumption)); (· rfl))))) ?_)) | ((show SLl _ _ _ _ _ (⟨⟨_, .fieldAddr _ _ _, _, _, _, _⟩, _, _⟩ :: _) _ _ _); (first | refine SLl.pu rfl rfl rfl (Pu.fieldAddr rfl) ?_ | refine SLl.rdSeq rfl rfl (Rd.fieldAddrEl rfl (by ((apply Len.row; (· (repeat (first | apply Sel.here | apply Sel.there)))))) (by omega)) ?_)) | ((show SLl _ _ _ _ _ (⟨⟨_, .indexAddr _ _ _, _, _, _, _⟩, _, _⟩ :: _) _ _ _); (refine SLl.rdSeq rfl rfl (Rd.indexAddr rfl rfl (by ((apply Len.row; (· (repeat (first | apply Sel.here | apply Sel.there)))))) (by (rfl)) (by omega)) ?_)) | ((show SLl _ _ _ _ _ (⟨⟨_, .store _ _ _, _, _, _, _⟩, _, _⟩ :: _) _ _ _); ((refine SLl.seq0 rfl (SLo.store rfl rfl rfl (by (exact One.lit rfl)) (by ((apply Wr.row; (· (assumption)); (· exact Nat.le_of_ble_eq_true rfl); (· (repeat (first | apply Upd.here | apply Upd.there)))))) ?_)))))) | (first | refine SLc.seq ?_ | refine SLc.region rfl ?_ | refine SLc.condF rfl ?_ | refine SLc.skip ?_)))
        generalize hE : (tcells m.tasks).set k _ = E
        have hEl : E.length = m.tasks.length := by rw [← hE, List.length_set]; exact htl
        have hEk : E[k]? = some [st, .bool wa, .bool false, .bool (!wa)] := by rw [← hE]; exact List.getElem?_set_self (by omega)
        (repeat' (first | (first | refine SLl.nil ?_ | ((show SLl _ _ _ _ _ (⟨⟨_, _, _, _, _, _⟩, _, _⟩ :: _) _ _ _); first | refine SLl.ev rfl rfl rfl rfl ?_ | ((show SLl _ _ _ _ _ (⟨⟨_, .fieldAddr _ _ _, _, _, _, _⟩, _, _⟩ :: _) _ _ _); (refine SLl.rdSeq rfl rfl (Rd.fieldAddrEl rfl (by ((apply Len.row; (· (repeat (first | apply Sel.here | apply Sel.there)))))) (by omega)) ?_)) | ((show SLl _ _ _ _ _ (⟨⟨_, .store _ _ _, _, _, _, _⟩, _, _⟩ :: _) _ _ _); ((refine SLl.seq0 rfl (SLo.store rfl rfl rfl (by (exact One.lit rfl)) (by ((apply Wr.row; (· (assumption)); (· exact Nat.le_of_ble_eq_true rfl); (· (repeat (first | apply Upd.here | apply Upd.there)))))) ?_)))))) | (first | refine SLc.seq ?_ | refine SLc.region rfl ?_ | refine SLc.ret ?_)))
        refine And.intro rfl (Exists.intro _ (Exists.intro _ (And.intro rfl (And.intro ?_ (And.intro rfl rfl)))))
        refine .cons .here (.cons .here (Ent.row ?_ .refl))
        rw [← hE, List.set_set, ← tcells_set]
        rfl
end Go.Sl
