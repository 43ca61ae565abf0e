/- lock: the contract of Leave. -/
import Derived.Test.YtloeicnadchkpaaLock
namespace Go.Sl
open Go.Proofs
attribute [local irreducible] SLc SLl SLo SLf Pu Rd

def leaveM (L : Lck) (m : Sch) (id : Int) : Bool × Lck × Sch :=
  if L.taken = true ∧ L.owner = id then
    match L.queue with
    | [] => (true, { L with taken := false }, m)
    | x :: r => (true, ⟨true, x, r⟩, (wakeM m x).2)
  else (false, L, m)
theorem Leave_ok (W : World) (F : List Chunk) (lb sb : Nat) (qv pv lv : Value) (L : Lck) (m : Sch) (id : Int) (hn : qv = .slice none 0 0 → L.queue = []) (hl : L.queue.length ≤ 100000) :
    SLf Try.prog W 39 [ptr lb, .int .i64 id] (lockC lb sb qv L ++ (schC sb pv lv m ++ F)) (fun r σ => ∃ qv', r = .bool (leaveM L m id).1 ∧ (qv' = .slice none 0 0 → (leaveM L m id).2.1.queue = []) ∧ σ = lockC lb sb qv' (leaveM L m id).2.1 ++ (schC sb pv lv (leaveM L m id).2.2 ++ F)) := by
  have hil := @ints_len L.queue
  refine SLf.enter Try.func39 rfl (Nat.le_of_ble_eq_true rfl) ?_
  simp only [lockC, List.cons_append, List.nil_append]
  obtain ⟨tk, ow, q⟩ := L
  dsimp only at hn hl hil ⊢
  cases tk with
  | false =>
    have ht : leaveM ⟨false, ow, q⟩ m id = (false, ⟨false, ow, q⟩, m) := by simp [leaveM]
    rw [ht]
    (repeat' (first | (first | refine SLl.nil ?_ | ((show SLl _ _ _ _ _ (⟨⟨_, _, _, _, _, _⟩, _, _⟩ :: _) _ _ _); first | refine SLl.ev rfl rfl rfl rfl ?_ | ((show SLl _ _ _ _ _ (⟨⟨_, .load _ _, _, _, _, _⟩, _, _⟩ :: _) _ _ _); (refine SLl.rdSeq rfl rfl (Rd.load rfl rfl (by ((apply Reads.blk; (· (repeat (apply Sel.here))); (· rfl))))) ?_)) | ((show SLl _ _ _ _ _ (⟨⟨_, .fieldAddr _ _ _, _, _, _, _⟩, _, _⟩ :: _) _ _ _); (refine SLl.pu rfl rfl rfl (Pu.fieldAddr rfl) ?_)) | ((show SLl _ _ _ _ _ (⟨⟨_, .binOp _ _ _ _ _, _, _, _, _⟩, _, _⟩ :: _) _ _ _); (refine SLl.pu rfl rfl rfl (Pu.eqPtrNil rfl rfl) ?_)) | refine SLl.skip rfl rfl ?_)) | (first | refine SLc.seq ?_ | refine SLc.region rfl ?_ | refine SLc.condT rfl ?_ | refine SLc.ret ?_)))
    exact And.intro rfl (Exists.intro _ (Exists.intro _ (And.intro rfl (And.intro .refl (Exists.intro qv (And.intro rfl (And.intro hn rfl)))))))
  | true =>
    by_cases ho : ow = id
    · subst ho
      cases q with
      | nil =>
        have ht : leaveM ⟨true, ow, []⟩ m ow = (true, ⟨false, ow, []⟩, m) := by simp [leaveM]
        rw [ht]
        have hil0 : (ints []).length = 0 := rfl
        (repeat' (first | (first | refine SLl.nil ?_ | ((show SLl _ _ _ _ _ (⟨⟨_, _, _, _, _, _⟩, _, _⟩ :: _) _ _ _); first | refine SLl.ev rfl rfl rfl rfl ?_ | ((show SLl _ _ _ _ _ (⟨⟨_, .load _ _, _, _, _, _⟩, _, _⟩ :: _) _ _ _); (refine SLl.rdSeq rfl rfl (Rd.load rfl rfl (by ((apply Reads.blk; (· (repeat (apply Sel.here))); (· rfl))))) ?_)) | ((show SLl _ _ _ _ _ (⟨⟨_, .fieldAddr _ _ _, _, _, _, _⟩, _, _⟩ :: _) _ _ _); (refine SLl.pu rfl rfl rfl (Pu.fieldAddr rfl) ?_)) | ((show SLl _ _ _ _ _ (⟨⟨_, .call ⟨.builtin .len, _, _⟩, _, _, _, _⟩, _, _⟩ :: _) _ _ _); refine SLl.rdSeq rfl rfl (Rd.len rfl (by ((apply Len.row; (· (repeat (first | apply Sel.here | apply Sel.there))))))) ?_) | ((show SLl _ _ _ _ _ (⟨⟨_, .binOp _ _ _ _ _, _, _, _, _⟩, _, _⟩ :: _) _ _ _); (first | (refine SLl.cmp rfl rfl rfl rfl rfl rfl ?_ ?_ <;> intro hq <;> simp only [cmpP] at hq <;> try ((exfalso; omega))) | refine SLl.pu rfl rfl rfl (Pu.eqPtrNil rfl rfl) ?_)) | ((show SLl _ _ _ _ _ (⟨⟨_, .store _ _ _, _, _, _, _⟩, _, _⟩ :: _) _ _ _); ((refine SLl.seq0 rfl (SLo.store rfl rfl rfl (by (exact One.lit rfl)) (by ((apply Wr.blk; (· (repeat (apply Upd.here))); (· exact Nat.le_of_ble_eq_true rfl)))) ?_)))))) | (first | refine SLc.seq ?_ | refine SLc.region rfl ?_ | refine SLc.condF rfl ?_ | refine SLc.skip ?_ | refine SLc.ret ?_)))
        exact And.intro rfl (Exists.intro _ (Exists.intro _ (And.intro rfl (And.intro .refl (Exists.intro qv (And.intro rfl (And.intro hn rfl)))))))
      | cons x r =>
        have ht : leaveM ⟨true, ow, x :: r⟩ m ow = (true, ⟨true, x, r⟩, (wakeM m x).2) := by simp [leaveM]
        rw [ht]
        have hil1 : (ints (x :: r)).length = r.length + 1 := by simp [ints]
        have hat : (ints (x :: r))[0]? = some [.int .i64 x] := rfl
        (repeat' (first | (first | refine SLl.nil ?_ | ((show SLl _ _ _ _ _ (⟨⟨_, _, _, _, _, _⟩, _, _⟩ :: _) _ _ _); first | refine SLl.ev rfl rfl rfl rfl ?_ | ((show SLl _ _ _ _ _ (⟨⟨_, .load _ _, _, _, _, _⟩, _, _⟩ :: _) _ _ _); (refine SLl.rdSeq rfl rfl (Rd.load rfl rfl (by (first | (apply Reads.blk; (· (repeat (apply Sel.here))); (· rfl)) | (apply Reads.row; (· (repeat (first | apply Sel.here | apply Sel.there))); (· (rfl)); (· rfl))))) ?_)) | ((show SLl _ _ _ _ _ (⟨⟨_, .fieldAddr _ _ _, _, _, _, _⟩, _, _⟩ :: _) _ _ _); (refine SLl.pu rfl rfl rfl (Pu.fieldAddr rfl) ?_)) | ((show SLl _ _ _ _ _ (⟨⟨_, .indexAddr _ _ _, _, _, _, _⟩, _, _⟩ :: _) _ _ _); (refine SLl.rdSeq rfl rfl (Rd.indexAddr rfl rfl (by ((apply Len.row; (· (repeat (first | apply Sel.here | apply Sel.there)))))) (by (exact ij0)) (by omega)) ?_)) | ((show SLl _ _ _ _ _ (⟨⟨_, .call ⟨.builtin .len, _, _⟩, _, _, _, _⟩, _, _⟩ :: _) _ _ _); refine SLl.rdSeq rfl rfl (Rd.len rfl (by ((apply Len.row; (· (repeat (first | apply Sel.here | apply Sel.there))))))) ?_) | ((show SLl _ _ _ _ _ (⟨⟨_, .binOp _ _ _ _ _, _, _, _, _⟩, _, _⟩ :: _) _ _ _); (first | (refine SLl.cmp rfl rfl rfl rfl rfl rfl ?_ ?_ <;> intro hq <;> simp only [cmpP] at hq <;> try ((exfalso; omega))) | refine SLl.pu rfl rfl rfl (Pu.eqPtrNil rfl rfl) ?_)) | ((show SLl _ _ _ _ _ (⟨⟨_, .store _ _ _, _, _, _, _⟩, _, _⟩ :: _) _ _ _); ((refine SLl.seq0 rfl (SLo.store rfl rfl rfl (by (exact One.lit rfl)) (by ((apply Wr.blk; (· (repeat (apply Upd.here))); (· exact Nat.le_of_ble_eq_true rfl)))) ?_)))))) | (first | refine SLc.seq ?_ | refine SLc.region rfl ?_ | refine SLc.condT rfl ?_ | refine SLc.condF rfl ?_ | refine SLc.skip ?_)))
        refine SLl.seq rfl rfl (SLo.slice (lo := 1) (es := ints (x :: r)) rfl rfl (by (repeat (first | apply Sel.here | apply Sel.there))) (by omega) (by omega) ?_)
        intro qv' hqv'
        (repeat' ((first | refine SLl.nil ?_ | ((show SLl _ _ _ _ _ (⟨⟨_, _, _, _, _, _⟩, _, _⟩ :: _) _ _ _); first | refine SLl.ev rfl rfl rfl rfl ?_ | ((show SLl _ _ _ _ _ (⟨⟨_, .fieldAddr _ _ _, _, _, _, _⟩, _, _⟩ :: _) _ _ _); (refine SLl.pu rfl rfl rfl (Pu.fieldAddr rfl) ?_)) | ((show SLl _ _ _ _ _ (⟨⟨_, .store _ _ _, _, _, _, _⟩, _, _⟩ :: _) _ _ _); ((refine SLl.seq0 rfl (SLo.store rfl rfl rfl (by (exact One.len (by ((apply Len.row; (· (repeat (apply Sel.here)))))))) (by ((apply Wr.blk; (· (repeat (first | apply Upd.here | apply Upd.there))); (· exact Nat.le_of_ble_eq_true rfl)))) ?_))))))))
        refine SLc.draws [.blk lb 134 [ptr sb, .bool true, .int .i64 x, qv']] [(0, .take), (1, .take), (2, .take), (3, .take), (4, .take), (5, .take), (6, .take), (7, .take), (8, .eff true)] mixed (by kernel_rfl) (.cons (by (repeat (first | apply Sel.here | apply Sel.there))) .drop) ?_
        (repeat' ((((show SLl _ _ _ _ _ (⟨⟨_, _, _, _, _, _⟩, _, _⟩ :: _) _ _ _); first | refine SLl.ev rfl rfl rfl rfl ?_ | ((show SLl _ _ _ _ _ (⟨⟨_, .load _ _, _, _, _, _⟩, _, _⟩ :: _) _ _ _); (refine SLl.rdTake rfl rfl (Rd.load rfl rfl (by ((apply Reads.blk; (· (repeat (apply Sel.here))); (· rfl))))) ?_)) | ((show SLl _ _ _ _ _ (⟨⟨_, .fieldAddr _ _ _, _, _, _, _⟩, _, _⟩ :: _) _ _ _); (refine SLl.pu rfl rfl rfl (Pu.fieldAddr rfl) ?_))))))
        refine SLl.eff rfl rfl (SLo.call plain57 rfl (SLf.ent (σ' := schC sb pv lv m ++ (.blk lb 134 [ptr sb, .bool true, .int .i64 x, qv'] :: .row qv' 3 1 (ints r) :: F)) ?_ (SLf.mono (Wake_ok W _ sb pv lv m x) ?_)))
        · exact .cons (by (repeat (first | apply Sel.here | apply Sel.there))) (.cons (by (repeat (first | apply Sel.here | apply Sel.there))) (.cons (by (repeat (first | apply Sel.here | apply Sel.there))) (.cons (by (repeat (first | apply Sel.here | apply Sel.there))) (.cons (by (repeat (apply Sel.here))) .refl))))
        rintro v σ ⟨rfl, rfl⟩
        refine And.intro (fun _ => .cons (.there (.there (.there .here))) .drop) ?_
        (repeat' (first | (first | refine SLl.nil ?_ | ((show SLl _ _ _ _ _ (⟨⟨_, _, _, _, _, _⟩, _, _⟩ :: _) _ _ _); refine SLl.ev rfl rfl rfl rfl ?_)) | (first | refine SLc.seq ?_ | refine SLc.region rfl ?_ | refine SLc.ret ?_)))
        refine And.intro rfl (Exists.intro _ (Exists.intro _ (And.intro rfl (And.intro ?_ (Exists.intro qv' (And.intro rfl (And.intro (fun h => absurd h hqv') rfl)))))))
        exact .cons (.there (.there (.there .here))) (.cons (.there (.there (.there .here))) .refl)
    · have ht : leaveM ⟨true, ow, q⟩ m id = (false, ⟨true, ow, q⟩, m) := by simp [leaveM, ho]
      rw [ht]
      (repeat' (first | (first | refine SLl.nil ?_ | ((show SLl _ _ _ _ _ (⟨⟨_, _, _, _, _, _⟩, _, _⟩ :: _) _ _ _); first | refine SLl.ev rfl rfl rfl rfl ?_ | ((show SLl _ _ _ _ _ (⟨⟨_, .load _ _, _, _, _, _⟩, _, _⟩ :: _) _ _ _); (refine SLl.rdSeq rfl rfl (Rd.load rfl rfl (by ((apply Reads.blk; (· (repeat (apply Sel.here))); (· rfl))))) ?_)) | ((show SLl _ _ _ _ _ (⟨⟨_, .fieldAddr _ _ _, _, _, _, _⟩, _, _⟩ :: _) _ _ _); (refine SLl.pu rfl rfl rfl (Pu.fieldAddr rfl) ?_)) | ((show SLl _ _ _ _ _ (⟨⟨_, .binOp _ _ _ _ _, _, _, _, _⟩, _, _⟩ :: _) _ _ _); (first | (refine SLl.cmp rfl rfl rfl rfl rfl rfl ?_ ?_ <;> intro hq <;> simp only [cmpP] at hq <;> try ((exfalso; omega))) | refine SLl.pu rfl rfl rfl (Pu.eqPtrNil rfl rfl) ?_)))) | (first | refine SLc.seq ?_ | refine SLc.region rfl ?_ | refine SLc.condT rfl ?_ | refine SLc.ret ?_)))
      exact And.intro rfl (Exists.intro _ (Exists.intro _ (And.intro rfl (And.intro .refl (Exists.intro qv (And.intro rfl (And.intro hn rfl)))))))
end Go.Sl
