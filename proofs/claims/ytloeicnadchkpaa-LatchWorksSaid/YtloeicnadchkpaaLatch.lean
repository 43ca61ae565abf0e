/- latch: the contracts. -/
import Derived.Test.YtloeicnadchkpaaStays
namespace Go.Sl
open Go.Proofs
attribute [local irreducible] SLc SLl SLo SLf Pu Rd

structure Lat where
  left : Int
  queue : List Int
/-- The memory of a latch. -/
def latC (lb sb : Nat) (qv : Value) (L : Lat) : List Chunk := [.blk lb 149 [ptr sb, .int .i64 L.left, qv], .row qv 3 1 (ints L.queue)]
theorem LaNew_ok (W : World) (F : List Chunk) (sb : Nat) (n : Int) : SLf Try.prog W 68 [ptr sb, .int .i64 n] F (fun r σ => ∃ lb, r = ptr lb ∧ σ = latC lb sb (.slice none 0 0) ⟨max n 0, []⟩ ++ F) := by
  refine SLf.enter Try.func68 rfl (Nat.le_of_ble_eq_true rfl) ?_
  (repeat' (first | (first | refine SLl.nil ?_ | ((show SLl _ _ _ _ _ (⟨⟨_, _, _, _, _, _⟩, _, _⟩ :: _) _ _ _); refine SLl.ev rfl rfl rfl rfl ?_)) | (first | refine SLc.seq ?_ | refine SLc.region rfl ?_)))
  refine SLl.pu rfl rfl rfl (Pu.max2 rfl rfl rfl) ?_
  (repeat' (first | (first | refine SLl.nil ?_ | ((show SLl _ _ _ _ _ (⟨⟨_, _, _, _, _, _⟩, _, _⟩ :: _) _ _ _); first | refine SLl.ev rfl rfl rfl rfl ?_ | ((show SLl _ _ _ _ _ (⟨⟨_, .box _ _, _, _, _, _⟩, _, _⟩ :: _) _ _ _); refine SLl.seq rfl rfl (SLo.boxC rfl (by (exact Cel.agg)) ?_); intro b) | ((show SLl _ _ _ _ _ (⟨⟨_, .build _ _, _, _, _, _⟩, _, _⟩ :: _) _ _ _); refine SLl.rdSeq rfl rfl (Rd.build rfl (by (repeat (first | exact CellsW.nil | (apply CellsW.cons; (· (exact Cel.one (by (exact One.lit rfl)))))))) (by rfl)) ?_))) | (refine SLc.ret ?_)))
  exact And.intro rfl (Exists.intro _ (Exists.intro _ (And.intro rfl (And.intro (.cons .here (.nil .refl)) (Exists.intro b (And.intro rfl rfl))))))
theorem Left_ok (W : World) (F : List Chunk) (lb sb : Nat) (qv : Value) (L : Lat) : SLf Try.prog W 73 [ptr lb] (latC lb sb qv L ++ F) (fun r σ => r = .int .i64 L.left ∧ σ = latC lb sb qv L ++ F) := by
  refine SLf.enter Try.func73 rfl (Nat.le_of_ble_eq_true rfl) ?_
  simp only [latC, List.cons_append, List.nil_append]
  (repeat' (first | (first | refine SLl.nil ?_ | ((show SLl _ _ _ _ _ (⟨⟨_, _, _, _, _, _⟩, _, _⟩ :: _) _ _ _); first | refine SLl.ev rfl rfl rfl rfl ?_ | ((show SLl _ _ _ _ _ (⟨⟨_, .load _ _, _, _, _, _⟩, _, _⟩ :: _) _ _ _); (refine SLl.rdSeq rfl rfl (Rd.load rfl rfl (by ((apply Reads.blk; (· (repeat (apply Sel.here))); (· rfl))))) ?_)) | ((show SLl _ _ _ _ _ (⟨⟨_, .fieldAddr _ _ _, _, _, _, _⟩, _, _⟩ :: _) _ _ _); (refine SLl.pu rfl rfl rfl (Pu.fieldAddr rfl) ?_)) | ((show SLl _ _ _ _ _ (⟨⟨_, .binOp _ _ _ _ _, _, _, _, _⟩, _, _⟩ :: _) _ _ _); (refine SLl.pu rfl rfl rfl (Pu.eqPtrNil rfl rfl) ?_)))) | (first | refine SLc.seq ?_ | refine SLc.region rfl ?_ | refine SLc.condF rfl ?_ | refine SLc.skip ?_ | refine SLc.ret ?_)))
  exact And.intro rfl (Exists.intro _ (Exists.intro _ (And.intro rfl (And.intro .refl (And.intro rfl rfl)))))
def upOk (L : Lat) (n : Int) : Bool := decide (0 ≤ n) && decide (n ≤ 1073741824) && decide (L.left ≠ 0)
theorem Up_ok (W : World) (F : List Chunk) (lb sb : Nat) (qv : Value) (L : Lat) (n : Int) (h0 : 0 ≤ L.left) (h1 : L.left ≤ 4611686018427387904) :
    SLf Try.prog W 75 [ptr lb, .int .i64 n] (latC lb sb qv L ++ F) (fun r σ => r = .bool (upOk L n) ∧ σ = latC lb sb qv (if upOk L n then { L with left := L.left + n } else L) ++ F) := by
  refine SLf.enter Try.func75 rfl (Nat.le_of_ble_eq_true rfl) ?_
  simp only [latC, List.cons_append, List.nil_append]
  obtain ⟨lf, q⟩ := L
  dsimp only at h0 h1 ⊢
  by_cases hu : 0 ≤ n ∧ n ≤ 1073741824 ∧ lf ≠ 0
  · have he : upOk ⟨lf, q⟩ n = true := by simp [upOk, hu.1, hu.2.1, hu.2.2]
    rw [he]
    obtain ⟨u1, u2, u3⟩ := hu
    (repeat' (first | (first | refine SLl.nil ?_ | ((show SLl _ _ _ _ _ (⟨⟨_, _, _, _, _, _⟩, _, _⟩ :: _) _ _ _); first | refine SLl.ev rfl rfl rfl rfl ?_ | ((show SLl _ _ _ _ _ (⟨⟨_, .load _ _, _, _, _, _⟩, _, _⟩ :: _) _ _ _); (refine SLl.rdSeq rfl rfl (Rd.load rfl rfl (by ((apply Reads.blk; (· (repeat (apply Sel.here))); (· rfl))))) ?_)) | ((show SLl _ _ _ _ _ (⟨⟨_, .fieldAddr _ _ _, _, _, _, _⟩, _, _⟩ :: _) _ _ _); (refine SLl.pu rfl rfl rfl (Pu.fieldAddr rfl) ?_)) | ((show SLl _ _ _ _ _ (⟨⟨_, .binOp _ _ _ _ _, _, _, _, _⟩, _, _⟩ :: _) _ _ _); (first | refine SLl.pu rfl rfl rfl (Pu.add rfl rfl (IntWalk.i64_in _ (by omega))) ?_ | (refine SLl.cmp rfl rfl rfl rfl rfl rfl ?_ ?_ <;> intro hq <;> simp only [cmpP] at hq <;> try ((exfalso; omega))) | refine SLl.pu rfl rfl rfl (Pu.eqPtrNil rfl rfl) ?_)) | ((show SLl _ _ _ _ _ (⟨⟨_, .store _ _ _, _, _, _, _⟩, _, _⟩ :: _) _ _ _); ((refine SLl.seq0 rfl (SLo.store rfl rfl rfl (by (exact One.lit rfl)) (by ((apply Wr.blk; (· (repeat (apply Upd.here))); (· exact Nat.le_of_ble_eq_true rfl)))) ?_)))))) | (first | refine SLc.seq ?_ | refine SLc.region rfl ?_ | refine SLc.condF rfl ?_ | refine SLc.skip ?_ | refine SLc.ret ?_)))
    exact And.intro rfl (Exists.intro _ (Exists.intro _ (And.intro rfl (And.intro .refl (And.intro rfl rfl)))))
  · have he : upOk ⟨lf, q⟩ n = false := by
      simp only [upOk, Bool.and_eq_false_iff, decide_eq_false_iff_not]
      omega
    rw [he]
    (repeat' (first | (first | refine SLl.nil ?_ | ((show SLl _ _ _ _ _ (⟨⟨_, _, _, _, _, _⟩, _, _⟩ :: _) _ _ _); first | refine SLl.ev rfl rfl rfl rfl ?_ | ((show SLl _ _ _ _ _ (⟨⟨_, .load _ _, _, _, _, _⟩, _, _⟩ :: _) _ _ _); (refine SLl.rdSeq rfl rfl (Rd.load rfl rfl (by ((apply Reads.blk; (· (repeat (apply Sel.here))); (· rfl))))) ?_)) | ((show SLl _ _ _ _ _ (⟨⟨_, .fieldAddr _ _ _, _, _, _, _⟩, _, _⟩ :: _) _ _ _); (refine SLl.pu rfl rfl rfl (Pu.fieldAddr rfl) ?_)) | ((show SLl _ _ _ _ _ (⟨⟨_, .binOp _ _ _ _ _, _, _, _, _⟩, _, _⟩ :: _) _ _ _); (first | (refine SLl.cmp rfl rfl rfl rfl rfl rfl ?_ ?_ <;> intro hq <;> simp only [cmpP] at hq <;> try ((exfalso; omega))) | refine SLl.pu rfl rfl rfl (Pu.eqPtrNil rfl rfl) ?_)) | refine SLl.skip rfl rfl ?_)) | (first | refine SLc.seq ?_ | refine SLc.region rfl ?_ | refine SLc.condT rfl ?_ | refine SLc.ret ?_)))
    all_goals exact And.intro rfl (Exists.intro _ (Exists.intro _ (And.intro rfl (And.intro .refl (And.intro rfl rfl)))))
def awaitM (L : Lat) (id : Int) : Bool × Lat :=
  if L.left = 0 then (true, L) else if id ∈ L.queue then (false, L) else (false, { L with queue := L.queue ++ [id] })
theorem Await_ok (W : World) (F : List Chunk) (lb sb : Nat) (qv : Value) (L : Lat) (id : Int) (hl : L.queue.length ≤ 100000) :
    SLf Try.prog W 70 [ptr lb, .int .i64 id] (latC lb sb qv L ++ F) (fun r σ => ∃ qv', r = .bool (awaitM L id).1 ∧ σ = latC lb sb qv' (awaitM L id).2 ++ F) := by
  have hil := @ints_len L.queue
  refine SLf.enter Try.func70 rfl (Nat.le_of_ble_eq_true rfl) ?_
  simp only [latC, List.cons_append, List.nil_append]
  obtain ⟨lf, q⟩ := L
  dsimp only at hl hil ⊢
  by_cases h0 : lf = 0
  · have ht : awaitM ⟨lf, q⟩ id = (true, ⟨lf, q⟩) := by simp [awaitM, h0]
    rw [ht]
    (repeat' (first | (first | refine SLl.nil ?_ | ((show SLl _ _ _ _ _ (⟨⟨_, _, _, _, _, _⟩, _, _⟩ :: _) _ _ _); first | refine SLl.ev rfl rfl rfl rfl ?_ | ((show SLl _ _ _ _ _ (⟨⟨_, .load _ _, _, _, _, _⟩, _, _⟩ :: _) _ _ _); (refine SLl.rdSeq rfl rfl (Rd.load rfl rfl (by ((apply Reads.blk; (· (repeat (apply Sel.here))); (· rfl))))) ?_)) | ((show SLl _ _ _ _ _ (⟨⟨_, .fieldAddr _ _ _, _, _, _, _⟩, _, _⟩ :: _) _ _ _); (refine SLl.pu rfl rfl rfl (Pu.fieldAddr rfl) ?_)) | ((show SLl _ _ _ _ _ (⟨⟨_, .binOp _ _ _ _ _, _, _, _, _⟩, _, _⟩ :: _) _ _ _); (first | (refine SLl.cmp rfl rfl rfl rfl rfl rfl ?_ ?_ <;> intro hq <;> simp only [cmpP] at hq <;> try ((exfalso; omega))) | refine SLl.pu rfl rfl rfl (Pu.eqPtrNil rfl rfl) ?_)))) | (first | refine SLc.seq ?_ | refine SLc.region rfl ?_ | refine SLc.condT rfl ?_ | refine SLc.condF rfl ?_ | refine SLc.skip ?_ | refine SLc.ret ?_)))
    exact And.intro rfl (Exists.intro _ (Exists.intro _ (And.intro rfl (And.intro .refl (Exists.intro qv (And.intro rfl rfl))))))
  · (repeat' (first | (first | refine SLl.nil ?_ | ((show SLl _ _ _ _ _ (⟨⟨_, _, _, _, _, _⟩, _, _⟩ :: _) _ _ _); first | refine SLl.ev rfl rfl rfl rfl ?_ | ((show SLl _ _ _ _ _ (⟨⟨_, .load _ _, _, _, _, _⟩, _, _⟩ :: _) _ _ _); (refine SLl.rdSeq rfl rfl (Rd.load rfl rfl (by ((apply Reads.blk; (· (repeat (apply Sel.here))); (· rfl))))) ?_)) | ((show SLl _ _ _ _ _ (⟨⟨_, .fieldAddr _ _ _, _, _, _, _⟩, _, _⟩ :: _) _ _ _); (refine SLl.pu rfl rfl rfl (Pu.fieldAddr rfl) ?_)) | ((show SLl _ _ _ _ _ (⟨⟨_, .binOp _ _ _ _ _, _, _, _, _⟩, _, _⟩ :: _) _ _ _); (first | (refine SLl.cmp rfl rfl rfl rfl rfl rfl ?_ ?_ <;> intro hq <;> simp only [cmpP] at hq <;> try ((exfalso; omega))) | refine SLl.pu rfl rfl rfl (Pu.eqPtrNil rfl rfl) ?_)))) | (first | refine SLc.seq ?_ | refine SLc.region rfl ?_ | refine SLc.condF rfl ?_ | refine SLc.skip ?_)))
    refine SLl.seq rfl rfl (SLo.call plain82 rfl (SLf.mono (Contains_ok W _ qv q id (Rs.row (.there .here) intsL_one) (by omega)) ?_))
    rintro v σ ⟨rfl, rfl⟩
    by_cases hm : id ∈ q
    · have ht : awaitM ⟨lf, q⟩ id = (false, ⟨lf, q⟩) := by simp [awaitM, h0, hm]
      rw [ht, decide_eq_true hm]
      (repeat' (first | (first | refine SLl.nil ?_ | ((show SLl _ _ _ _ _ (⟨⟨_, _, _, _, _, _⟩, _, _⟩ :: _) _ _ _); refine SLl.ev rfl rfl rfl rfl ?_)) | (first | refine SLc.seq ?_ | refine SLc.region rfl ?_ | refine SLc.condF rfl ?_ | refine SLc.skip ?_ | refine SLc.ret ?_)))
      exact And.intro rfl (Exists.intro _ (Exists.intro _ (And.intro rfl (And.intro .refl (Exists.intro qv (And.intro rfl rfl))))))
    · have ht : awaitM ⟨lf, q⟩ id = (false, ⟨lf, q ++ [id]⟩) := by simp [awaitM, h0, hm]
      rw [ht, decide_eq_false hm]
      (repeat' (first | (first | refine SLl.nil ?_ | ((show SLl _ _ _ _ _ (⟨⟨_, _, _, _, _, _⟩, _, _⟩ :: _) _ _ _); first | refine SLl.ev rfl rfl rfl rfl ?_ | ((show SLl _ _ _ _ _ (⟨⟨_, .load _ _, _, _, _, _⟩, _, _⟩ :: _) _ _ _); (refine SLl.rdSeq rfl rfl (Rd.load rfl rfl (by ((apply Reads.blk; (· (repeat (apply Sel.here))); (· rfl))))) ?_)) | ((show SLl _ _ _ _ _ (⟨⟨_, .fieldAddr _ _ _, _, _, _, _⟩, _, _⟩ :: _) _ _ _); (refine SLl.pu rfl rfl rfl (Pu.fieldAddr rfl) ?_)))) | (first | refine SLc.region rfl ?_ | refine SLc.condT rfl ?_)))
      refine SLl.seq rfl rfl (SLo.buildSliceE (ints [id]) (by decide) (by decide) rfl (by (repeat (first | exact CellsW.nil | (apply CellsW.cons; (· (exact Cel.one (by (exact One.lit rfl)))))))) (by simp [ints]) rfl (by rfl) ?_)
      intro nv hnv
      refine SLl.seq rfl rfl (SLo.append (es := ints q) (ys := ints [id]) (by rfl) (by omega) rfl rfl (by (repeat (first | apply Sel.here | apply Sel.there))) (Src.row .here intsL_one) intsL_ones (by simp only [ints_len, List.length_singleton] at *; omega) (by simp only [ints_len, List.length_singleton] at *; omega) ?_)
      intro qv' hqv'
      (repeat' (first | (first | refine SLl.nil ?_ | ((show SLl _ _ _ _ _ (⟨⟨_, _, _, _, _, _⟩, _, _⟩ :: _) _ _ _); first | refine SLl.ev rfl rfl rfl rfl ?_ | ((show SLl _ _ _ _ _ (⟨⟨_, .fieldAddr _ _ _, _, _, _, _⟩, _, _⟩ :: _) _ _ _); (refine SLl.pu rfl rfl rfl (Pu.fieldAddr rfl) ?_)) | ((show SLl _ _ _ _ _ (⟨⟨_, .store _ _ _, _, _, _, _⟩, _, _⟩ :: _) _ _ _); ((refine SLl.seq0 rfl (SLo.store rfl rfl rfl (by (exact One.len (by ((apply Len.row; (· (repeat (apply Sel.here)))))))) (by ((apply Wr.blk; (· (repeat (first | apply Upd.here | apply Upd.there))); (· exact Nat.le_of_ble_eq_true rfl)))) ?_)))))) | (first | refine SLc.seq ?_ | refine SLc.region rfl ?_ | refine SLc.ret ?_)))
      refine And.intro rfl (Exists.intro _ (Exists.intro _ (And.intro rfl (And.intro ?_ (Exists.intro qv' (And.intro rfl rfl))))))
      exact .cons (by (repeat (first | apply Sel.here | apply Sel.there))) (Ent.row (by simp [ints]) (.skip .refl))
def wakeAll (m : Sch) (q : List Int) : Sch := q.foldl (fun m id => (wakeM m id).2) m
def downM (L : Lat) (m : Sch) : Int × Lat × Sch :=
  if L.left = 0 then (0, L, m) else if 1 < L.left then (L.left - 1, { L with left := L.left - 1 }, m) else (0, ⟨0, []⟩, wakeAll m L.queue)
theorem Down_ok (W : World) (F : List Chunk) (lb sb : Nat) (qv pv lv : Value) (L : Lat) (m : Sch) (h0 : 0 ≤ L.left) (h1 : L.left ≤ 9223372036854775807) (hl : L.queue.length ≤ 100000) :
    SLf Try.prog W 72 [ptr lb] (latC lb sb qv L ++ (schC sb pv lv m ++ F)) (fun r σ => ∃ qv', r = .int .i64 (downM L m).1 ∧ σ = latC lb sb qv' (downM L m).2.1 ++ (schC sb pv lv (downM L m).2.2 ++ F)) := by
  have hil := @ints_len L.queue
  refine SLf.enter Try.func72 rfl (Nat.le_of_ble_eq_true rfl) ?_
  simp only [latC, List.cons_append, List.nil_append]
  obtain ⟨lf, q⟩ := L
  dsimp only at h0 h1 hl hil ⊢
  by_cases hz : lf = 0
  · have ht : downM ⟨lf, q⟩ m = (0, ⟨lf, q⟩, m) := by simp [downM, hz]
    rw [ht]
    (repeat' (first | (first | refine SLl.nil ?_ | ((show SLl _ _ _ _ _ (⟨⟨_, _, _, _, _, _⟩, _, _⟩ :: _) _ _ _); first | refine SLl.ev rfl rfl rfl rfl ?_ | ((show SLl _ _ _ _ _ (⟨⟨_, .load _ _, _, _, _, _⟩, _, _⟩ :: _) _ _ _); (refine SLl.rdSeq rfl rfl (Rd.load rfl rfl (by ((apply Reads.blk; (· (repeat (apply Sel.here))); (· rfl))))) ?_)) | ((show SLl _ _ _ _ _ (⟨⟨_, .fieldAddr _ _ _, _, _, _, _⟩, _, _⟩ :: _) _ _ _); (refine SLl.pu rfl rfl rfl (Pu.fieldAddr rfl) ?_)) | ((show SLl _ _ _ _ _ (⟨⟨_, .binOp _ _ _ _ _, _, _, _, _⟩, _, _⟩ :: _) _ _ _); (first | (refine SLl.cmp rfl rfl rfl rfl rfl rfl ?_ ?_ <;> intro hq <;> simp only [cmpP] at hq <;> try ((exfalso; omega))) | refine SLl.pu rfl rfl rfl (Pu.eqPtrNil rfl rfl) ?_)))) | (first | refine SLc.seq ?_ | refine SLc.region rfl ?_ | refine SLc.condT rfl ?_ | refine SLc.ret ?_)))
    exact And.intro rfl (Exists.intro _ (Exists.intro _ (And.intro rfl (And.intro .refl (Exists.intro qv (And.intro rfl rfl))))))
  · by_cases hb : 1 < lf
    · have ht : downM ⟨lf, q⟩ m = (lf - 1, ⟨lf - 1, q⟩, m) := by simp [downM, hz, hb]
      rw [ht]
      (repeat' (first | (first | refine SLl.nil ?_ | ((show SLl _ _ _ _ _ (⟨⟨_, _, _, _, _, _⟩, _, _⟩ :: _) _ _ _); first | refine SLl.ev rfl rfl rfl rfl ?_ | ((show SLl _ _ _ _ _ (⟨⟨_, .load _ _, _, _, _, _⟩, _, _⟩ :: _) _ _ _); (refine SLl.rdSeq rfl rfl (Rd.load rfl rfl (by ((apply Reads.blk; (· (repeat (apply Sel.here))); (· rfl))))) ?_)) | ((show SLl _ _ _ _ _ (⟨⟨_, .fieldAddr _ _ _, _, _, _, _⟩, _, _⟩ :: _) _ _ _); (refine SLl.pu rfl rfl rfl (Pu.fieldAddr rfl) ?_)) | ((show SLl _ _ _ _ _ (⟨⟨_, .binOp _ _ _ _ _, _, _, _, _⟩, _, _⟩ :: _) _ _ _); (first | refine SLl.pu rfl rfl rfl (Pu.sub rfl rfl (IntWalk.i64_in _ (by omega))) ?_ | (refine SLl.cmp rfl rfl rfl rfl rfl rfl ?_ ?_ <;> intro hq <;> simp only [cmpP] at hq <;> try ((exfalso; omega))) | refine SLl.pu rfl rfl rfl (Pu.eqPtrNil rfl rfl) ?_)) | ((show SLl _ _ _ _ _ (⟨⟨_, .store _ _ _, _, _, _, _⟩, _, _⟩ :: _) _ _ _); ((refine SLl.seq0 rfl (SLo.store rfl rfl rfl (by (exact One.lit rfl)) (by ((apply Wr.blk; (· (repeat (apply Upd.here))); (· exact Nat.le_of_ble_eq_true rfl)))) ?_)))))) | (first | refine SLc.seq ?_ | refine SLc.region rfl ?_ | refine SLc.condT rfl ?_ | refine SLc.condF rfl ?_ | refine SLc.skip ?_ | refine SLc.ret ?_)))
      exact And.intro rfl (Exists.intro _ (Exists.intro _ (And.intro rfl (And.intro .refl (Exists.intro qv (And.intro rfl rfl))))))
    · have hone : lf = 1 := by omega
      subst hone
      have ht : downM ⟨1, q⟩ m = (0, ⟨0, []⟩, wakeAll m q) := by simp [downM]
      rw [ht]
      (repeat' (first | (first | refine SLl.nil ?_ | ((show SLl _ _ _ _ _ (⟨⟨_, _, _, _, _, _⟩, _, _⟩ :: _) _ _ _); first | refine SLl.ev rfl rfl rfl rfl ?_ | ((show SLl _ _ _ _ _ (⟨⟨_, .load _ _, _, _, _, _⟩, _, _⟩ :: _) _ _ _); (refine SLl.rdSeq rfl rfl (Rd.load rfl rfl (by ((apply Reads.blk; (· (repeat (apply Sel.here))); (· rfl))))) ?_)) | ((show SLl _ _ _ _ _ (⟨⟨_, .fieldAddr _ _ _, _, _, _, _⟩, _, _⟩ :: _) _ _ _); (refine SLl.pu rfl rfl rfl (Pu.fieldAddr rfl) ?_)) | ((show SLl _ _ _ _ _ (⟨⟨_, .call ⟨.builtin .len, _, _⟩, _, _, _, _⟩, _, _⟩ :: _) _ _ _); refine SLl.rdSeq rfl rfl (Rd.len rfl (by ((apply Len.row; (· (repeat (first | apply Sel.here | apply Sel.there))))))) ?_) | ((show SLl _ _ _ _ _ (⟨⟨_, .binOp _ _ _ _ _, _, _, _, _⟩, _, _⟩ :: _) _ _ _); (first | refine SLl.pu rfl rfl rfl (Pu.sub rfl rfl (IntWalk.i64_in _ (by omega))) ?_ | (refine SLl.cmp rfl rfl rfl rfl rfl rfl ?_ ?_ <;> intro hq <;> simp only [cmpP] at hq <;> try ((exfalso; omega))) | refine SLl.pu rfl rfl rfl (Pu.eqPtrNil rfl rfl) ?_)) | ((show SLl _ _ _ _ _ (⟨⟨_, .store _ _ _, _, _, _, _⟩, _, _⟩ :: _) _ _ _); ((refine SLl.seq0 rfl (SLo.store rfl rfl rfl (by (exact One.lit rfl)) (by ((apply Wr.blk; (· (repeat (apply Upd.here))); (· exact Nat.le_of_ble_eq_true rfl)))) ?_)))))) | (first | refine SLc.seq ?_ | refine SLc.region rfl ?_ | refine SLc.condF rfl ?_ | refine SLc.block ?_ | refine SLc.skip ?_)))
      refine SLc.loop (ι := Nat) (fun k => [(40, .int .i64 k), (39, .int .i64 (ints q).length), (38, qv), (0, ptr lb)]) (fun k => schC sb pv lv (wakeAll m (q.take k)) ++ (.blk lb 149 [ptr sb, .int .i64 0, .slice none 0 0] :: .row qv 3 1 (ints q) :: F))
        (fun k => k ≤ q.length) (fun k => q.length - k) 0 (Nat.zero_le _) (by (repeat' (first | exact trivial | apply And.intro | rfl))) ?_ ?_
      · exact .trans (.cons .here .into) .into
      intro k hk
      have hqr : Rs W (.blk lb 149 [ptr sb, .int .i64 0, .slice none 0 0] :: .row qv 3 1 (ints q) :: F) qv 1 (ints q) := Rs.row (.there .here) intsL_one
      have hbr : Reads W (.blk lb 149 [ptr sb, .int .i64 0, .slice none 0 0] :: .row qv 3 1 (ints q) :: F) ⟨lb, 0, none⟩ (ptr sb) := Reads.blk .here rfl
      by_cases hlt : k < q.length
      · have hx : q[k]? = some q[k] := List.getElem?_eq_getElem hlt
        have htk : q.take (k + 1) = q.take k ++ [q[k]] := List.take_succ_eq_append_getElem hlt
        generalize q[k] = x at hx htk
        have hxc := ints_at hx
        have hwa : wakeAll m (q.take (k + 1)) = (wakeM (wakeAll m (q.take k)) x).2 := by rw [htk]; simp [wakeAll]
        (repeat' (first | (first | refine SLl.nil ?_ | ((show SLl _ _ _ _ _ (⟨⟨_, _, _, _, _, _⟩, _, _⟩ :: _) _ _ _); first | refine SLl.ev rfl rfl rfl rfl ?_ | ((show SLl _ _ _ _ _ (⟨⟨_, .load _ _, _, _, _, _⟩, _, _⟩ :: _) _ _ _); (refine SLl.rdSeq rfl rfl (Rd.load rfl rfl (by (first | (apply Reads.blk; (· (repeat (first | apply Sel.here | apply Sel.there))); (· rfl)) | (apply Reads.row; (· (repeat (first | apply Sel.here | apply Sel.there))); (· (assumption)); (· rfl))))) ?_)) | ((show SLl _ _ _ _ _ (⟨⟨_, .fieldAddr _ _ _, _, _, _, _⟩, _, _⟩ :: _) _ _ _); (refine SLl.pu rfl rfl rfl (Pu.fieldAddr rfl) ?_)) | ((show SLl _ _ _ _ _ (⟨⟨_, .indexAddr _ _ _, _, _, _, _⟩, _, _⟩ :: _) _ _ _); (refine SLl.rdSeq rfl rfl (Rd.indexAddr rfl rfl (by ((apply Len.row; (· (repeat (first | apply Sel.here | apply Sel.there)))))) (by (rfl)) (by omega)) ?_)) | ((show SLl _ _ _ _ _ (⟨⟨_, .binOp _ _ _ _ _, _, _, _, _⟩, _, _⟩ :: _) _ _ _); ((refine SLl.cmp rfl rfl rfl rfl rfl rfl ?_ ?_ <;> intro hq <;> simp only [cmpP] at hq <;> try ((exfalso; omega))))))) | (first | refine SLc.seq ?_ | refine SLc.region rfl ?_ | refine SLc.condT rfl ?_ | refine SLc.block ?_ | refine SLc.skip ?_)))
        refine SLl.seq rfl rfl (SLo.call plain57 rfl (SLf.mono (Wake_ok W _ sb pv lv (wakeAll m (q.take k)) x) ?_))
        rintro v σ ⟨rfl, rfl⟩
        rw [← hwa]
        (repeat' (first | (first | refine SLl.nil ?_ | ((show SLl _ _ _ _ _ (⟨⟨_, _, _, _, _, _⟩, _, _⟩ :: _) _ _ _); first | refine SLl.ev rfl rfl rfl rfl ?_ | ((show SLl _ _ _ _ _ (⟨⟨_, .binOp _ _ _ _ _, _, _, _, _⟩, _, _⟩ :: _) _ _ _); (refine SLl.pu rfl rfl rfl (Pu.add rfl rfl (IntWalk.i64_in _ (by omega))) ?_)))) | (refine SLc.region rfl ?_)))
        exact And.intro rfl (Exists.intro (k + 1) (And.intro (by omega) (And.intro (by omega) (And.intro (by (repeat' (first | exact trivial | apply And.intro | rfl))) .refl))))
      · have htk : q.take k = q := List.take_of_length_le (by omega)
        rw [htk]
        (repeat' (first | (first | refine SLl.nil ?_ | ((show SLl _ _ _ _ _ (⟨⟨_, _, _, _, _, _⟩, _, _⟩ :: _) _ _ _); first | refine SLl.ev rfl rfl rfl rfl ?_ | ((show SLl _ _ _ _ _ (⟨⟨_, .binOp _ _ _ _ _, _, _, _, _⟩, _, _⟩ :: _) _ _ _); ((refine SLl.cmp rfl rfl rfl rfl rfl rfl ?_ ?_ <;> intro hq <;> simp only [cmpP] at hq <;> try ((exfalso; omega))))))) | (first | refine SLc.seq ?_ | refine SLc.region rfl ?_ | refine SLc.condF rfl ?_ | refine SLc.exit ?_ | refine SLc.ret ?_)))
        refine And.intro rfl (Exists.intro _ (Exists.intro _ (And.intro rfl (And.intro ?_ (Exists.intro (.slice none 0 0) (And.intro rfl rfl))))))
        exact .trans (.perm List.perm_middle) (.cons .here (.nil (Ent.left _ (.skip .refl))))
end Go.Sl
