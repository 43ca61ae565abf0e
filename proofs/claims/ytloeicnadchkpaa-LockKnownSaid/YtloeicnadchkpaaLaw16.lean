/- backstitchlaw16: the statement's own example, LockKnown: the walks. -/
import Derived.Test.YtloeicnadchkpaaLock2
namespace Go.Sl
open Go.Proofs
attribute [local irreducible] SLc SLl SLo SLf Pu Rd

theorem Ent.left (l : List Chunk) {F F' : List Chunk} (h : Ent F F') : Ent (l ++ F) (l ++ F') := by
  induction l with
  | nil => exact h
  | cons c l ih => exact .cons .here ih
theorem Ent.into {c : Chunk} {l F : List Chunk} : Ent (c :: (l ++ F)) (l ++ (c :: F)) := .perm List.perm_middle.symm
/-- Tasks that wait for ever. -/
def stayT (k : Nat) : Task := ⟨.func (.func k) #[] #[], false, false, false⟩
def stays (k n : Nat) : Sch := ⟨[], List.replicate n (stayT k), 0, -1, false⟩
theorem stays_add {k n : Nat} : addTask (stays k n) ⟨.func (.func k) #[] #[], false, false, false⟩ = stays k (n + 1) := by
  simp [addTask, stays, List.replicate_succ', stayT]
theorem stays_len {k n : Nat} : (stays k n).tasks.length = n := by simp [stays]
theorem Take_at (W : World) (F : List Chunk) (lb sb : Nat) (qv : Value) {L L' : Lck} {id : Int} {bv : Bool} (h : takeM L id = (bv, L')) (hn : qv = .slice none 0 0 → L.queue = []) (hl : Nat.ble L.queue.length 100000 = true) :
    SLf Try.prog W 41 [ptr lb, .int .i64 id] (lockC lb sb qv L ++ F) (fun r σ => ∃ qv', r = .bool bv ∧ (qv' = .slice none 0 0 → L'.queue = []) ∧ σ = lockC lb sb qv' L' ++ F) := by
  have := Take_ok W F lb sb qv L id hn (Nat.le_of_ble_eq_true hl)
  rw [h] at this
  exact this
theorem Leave_at (W : World) (F : List Chunk) (lb sb : Nat) (qv pv lv : Value) {L L' : Lck} {m m' : Sch} {id : Int} {bv : Bool} (h : leaveM L m id = (bv, L', m')) (hn : qv = .slice none 0 0 → L.queue = []) (hl : Nat.ble L.queue.length 100000 = true) :
    SLf Try.prog W 39 [ptr lb, .int .i64 id] (lockC lb sb qv L ++ (schC sb pv lv m ++ F)) (fun r σ => ∃ qv', r = .bool bv ∧ (qv' = .slice none 0 0 → L'.queue = []) ∧ σ = lockC lb sb qv' L' ++ (schC sb pv lv m' ++ F)) := by
  have := Leave_ok W F lb sb qv pv lv L m id hn (Nat.le_of_ble_eq_true hl)
  rw [h] at this
  exact this
theorem Awake16 (W : World) (F : List Chunk) : SLf Try.prog W 34 [] F (fun v σ => v = .bool true ∧ σ = F) := by
  refine SLf.enter Try.func34 rfl (Nat.le_of_ble_eq_true rfl) ?_
  (repeat' (first
 | (first
 | refine SLl.nil ?_
 | ((show SLl _ _ _ _ _ (⟨⟨_, _, _, _, _, _⟩, _, _⟩ :: _) _ _ _); first
 | refine SLl.ev rfl rfl rfl rfl ?_
 | ((show SLl _ _ _ _ _ (⟨⟨_, .load _ _, _, _, _, _⟩, _, _⟩ :: _) _ _ _); (first | refine SLl.rdSeq rfl rfl (Rd.load rfl rfl (by (first | (apply Reads.blk; (· (repeat (first | apply Sel.here | apply Sel.there | apply Upd.here | apply Upd.there))); (· rfl)) | (apply Reads.row; (· (repeat (first | apply Sel.here | apply Sel.there | apply Upd.here | apply Upd.there))); (· (first | rfl | assumption)); (· rfl)) | (apply Reads.rs; (· exact Rs.mono (by assumption) (by (repeat' (first | exact Ent.refl | exact Ent.drop | exact Ent.appR | apply Ent.skip)))); (· (first | rfl | assumption)); (· rfl)) | exact Reads.mono (by assumption) (by (repeat' (first | exact Ent.refl | exact Ent.drop | exact Ent.appR | apply Ent.skip)))))) ?_ | refine SLl.rdSeq rfl rfl (Rd.loadN rfl rfl (by (first | exact ReadsN.mono (by assumption) (by (repeat' (first | exact Ent.refl | exact Ent.drop | exact Ent.appR | apply Ent.skip))) | (apply ReadsN.blk0; (· (repeat (first | apply Sel.here | apply Sel.there | apply Upd.here | apply Upd.there)))) | (apply ReadsN.row0; (· (repeat (first | apply Sel.here | apply Sel.there | apply Upd.here | apply Upd.there))); (· (first | rfl | assumption))) | (apply ReadsN.rs0; (· exact Rs.mono (by assumption) (by (repeat' (first | exact Ent.refl | exact Ent.drop | exact Ent.appR | apply Ent.skip)))); (· (first | rfl | assumption))))) (by rfl)) ?_))
 | ((show SLl _ _ _ _ _ (⟨⟨_, .fieldAddr _ _ _, _, _, _, _⟩, _, _⟩ :: _) _ _ _); (first | refine SLl.pu rfl rfl rfl (Pu.fieldAddr rfl) ?_ | refine SLl.rdSeq rfl rfl (Rd.fieldAddrEl rfl (by (first | exact Len.nil | (apply Len.row; (· (repeat (first | apply Sel.here | apply Sel.there | apply Upd.here | apply Upd.there)))) | (apply Len.rs; exact Rs.mono (by assumption) (by (repeat' (first | exact Ent.refl | exact Ent.drop | exact Ent.appR | apply Ent.skip)))))) (by omega)) ?_))
 | ((show SLl _ _ _ _ _ (⟨⟨_, .indexAddr _ _ _, _, _, _, _⟩, _, _⟩ :: _) _ _ _); (refine SLl.rdSeq rfl rfl (Rd.indexAddr rfl rfl (by (first | exact Len.nil | (apply Len.row; (· (repeat (first | apply Sel.here | apply Sel.there | apply Upd.here | apply Upd.there)))) | (apply Len.rs; exact Rs.mono (by assumption) (by (repeat' (first | exact Ent.refl | exact Ent.drop | exact Ent.appR | apply Ent.skip)))))) (by (first | exact ij0 | exact ij1 | exact ij2 | exact ij3 | exact ij4 | exact ij5 | exact ijs _ | exact ijm _ | rfl | exact (Int.toNat_of_nonneg (by omega)).symm)) (by omega)) ?_))
 | ((show SLl _ _ _ _ _ (⟨⟨_, .call ⟨.builtin .len, _, _⟩, _, _, _, _⟩, _, _⟩ :: _) _ _ _); refine SLl.rdSeq rfl rfl (Rd.len rfl (by (first | exact Len.nil | (apply Len.row; (· (repeat (first | apply Sel.here | apply Sel.there | apply Upd.here | apply Upd.there)))) | (apply Len.rs; exact Rs.mono (by assumption) (by (repeat' (first | exact Ent.refl | exact Ent.drop | exact Ent.appR | apply Ent.skip))))))) ?_)
 | ((show SLl _ _ _ _ _ (⟨⟨_, .binOp _ _ _ _ _, _, _, _, _⟩, _, _⟩ :: _) _ _ _); (first
 | refine SLl.pu rfl rfl rfl (Pu.add rfl rfl (IntWalk.i64_in _ (by omega))) ?_
 | refine SLl.pu rfl rfl rfl (Pu.sub rfl rfl (IntWalk.i64_in _ (by omega))) ?_
 | (refine SLl.cmp rfl rfl rfl rfl rfl rfl ?_ ?_ <;> intro hq <;> simp only [cmpP] at hq <;> try (first
 | exact (hq trivial).elim
 | (exfalso; omega)))
 | refine SLl.pu rfl rfl rfl (Pu.eqNilT rfl rfl) ?_
 | refine SLl.pu rfl rfl rfl (Pu.neNilF rfl rfl) ?_
 | refine SLl.rdSeq rfl rfl (Rd.eqNilF rfl rfl (by (first | exact Len.nil | (apply Len.row; (· (repeat (first | apply Sel.here | apply Sel.there | apply Upd.here | apply Upd.there)))) | (apply Len.rs; exact Rs.mono (by assumption) (by (repeat' (first | exact Ent.refl | exact Ent.drop | exact Ent.appR | apply Ent.skip)))))) (by assumption)) ?_
 | refine SLl.rdSeq rfl rfl (Rd.neNilT rfl rfl (by (first | exact Len.nil | (apply Len.row; (· (repeat (first | apply Sel.here | apply Sel.there | apply Upd.here | apply Upd.there)))) | (apply Len.rs; exact Rs.mono (by assumption) (by (repeat' (first | exact Ent.refl | exact Ent.drop | exact Ent.appR | apply Ent.skip)))))) (by assumption)) ?_
 | refine SLl.pu rfl rfl rfl (Pu.eqPtrNil rfl rfl) ?_
 | refine SLl.pu rfl rfl rfl (Pu.eqBool rfl rfl) ?_
 | refine SLl.pu rfl rfl rfl (Pu.neBool rfl rfl) ?_
 | refine SLl.pu rfl rfl rfl (Pu.nePtrNil rfl rfl) ?_
 | refine SLl.pu rfl rfl rfl (Pu.eqFuncNilF rfl rfl) ?_
 | refine SLl.pu rfl rfl rfl (Pu.eqFuncNilT rfl rfl) ?_))
 | ((show SLl _ _ _ _ _ (⟨⟨_, .store _ _ _, _, _, _, _⟩, _, _⟩ :: _) _ _ _); (first | (refine SLl.seq0 rfl (SLo.store rfl rfl rfl (by (first | exact One.lit rfl | exact One.lit (by assumption) | exact One.mono (by assumption) (by (repeat' (first | exact Ent.refl | exact Ent.drop | exact Ent.appR | apply Ent.skip))) | exact One.len (by (first | exact Len.nil | (apply Len.row; (· (repeat (first | apply Sel.here | apply Sel.there | apply Upd.here | apply Upd.there)))) | (apply Len.rs; exact Rs.mono (by assumption) (by (repeat' (first | exact Ent.refl | exact Ent.drop | exact Ent.appR | apply Ent.skip)))))))) (by (first | (apply Wr.blk; (· (repeat (first | apply Sel.here | apply Sel.there | apply Upd.here | apply Upd.there))); (· exact Nat.le_of_ble_eq_true rfl)) | (apply Wr.row; (· (first | rfl | assumption)); (· exact Nat.le_of_ble_eq_true rfl); (· (repeat (first | apply Sel.here | apply Sel.there | apply Upd.here | apply Upd.there)))))) ?_)) | (refine SLl.seq0 rfl (SLo.storeN rfl rfl rfl (by (repeat' (first | exact trivial | (apply And.intro; (· (first | exact One.lit rfl | exact One.lit (by assumption) | exact One.mono (by assumption) (by (repeat' (first | exact Ent.refl | exact Ent.drop | exact Ent.appR | apply Ent.skip))) | exact One.len (by (first | exact Len.nil | (apply Len.row; (· (repeat (first | apply Sel.here | apply Sel.there | apply Upd.here | apply Upd.there)))) | (apply Len.rs; exact Rs.mono (by assumption) (by (repeat' (first | exact Ent.refl | exact Ent.drop | exact Ent.appR | apply Ent.skip)))))))))))) (Nat.le_of_ble_eq_true rfl) (by (repeat (first | apply Sel.here | apply Sel.there | apply Upd.here | apply Upd.there))) ?_))))
 | ((show SLl _ _ _ _ _ (⟨⟨_, .box _ _, _, _, _, _⟩, _, _⟩ :: _) _ _ _); refine SLl.seq rfl rfl (SLo.boxC rfl (by (first | exact Cel.one (by (first | exact One.lit rfl | exact One.lit (by assumption) | exact One.mono (by assumption) (by (repeat' (first | exact Ent.refl | exact Ent.drop | exact Ent.appR | apply Ent.skip))) | exact One.len (by (first | exact Len.nil | (apply Len.row; (· (repeat (first | apply Sel.here | apply Sel.there | apply Upd.here | apply Upd.there)))) | (apply Len.rs; exact Rs.mono (by assumption) (by (repeat' (first | exact Ent.refl | exact Ent.drop | exact Ent.appR | apply Ent.skip)))))))) | exact Cel.agg)) ?_); intro b)
 | ((show SLl _ _ _ _ _ (⟨⟨_, .alloc _, _, _, _, _⟩, _, _⟩ :: _) _ _ _); refine SLl.seq rfl rfl (SLo.alloc ?_); intro b)
 | ((show SLl _ _ _ _ _ (⟨⟨_, .build _ _, _, _, _, _⟩, _, _⟩ :: _) _ _ _); first
 | refine SLl.rdSeq rfl rfl (Rd.build rfl (by (repeat (first | exact CellsW.nil | (apply CellsW.cons; (· (first | exact Cel.one (by (first | exact One.lit rfl | exact One.lit (by assumption) | exact One.mono (by assumption) (by (repeat' (first | exact Ent.refl | exact Ent.drop | exact Ent.appR | apply Ent.skip))) | exact One.len (by (first | exact Len.nil | (apply Len.row; (· (repeat (first | apply Sel.here | apply Sel.there | apply Upd.here | apply Upd.there)))) | (apply Len.rs; exact Rs.mono (by assumption) (by (repeat' (first | exact Ent.refl | exact Ent.drop | exact Ent.appR | apply Ent.skip)))))))) | exact Cel.agg)))))) (by rfl)) ?_
 | refine SLl.pu rfl rfl rfl (Pu.build rfl rfl) ?_)
 | refine SLl.skip rfl rfl ?_))
 | (first
 | refine SLc.seq ?_
 | refine SLc.region rfl ?_
 | refine SLc.condT rfl ?_
 | refine SLc.condF rfl ?_
 | refine SLc.block ?_
 | refine SLc.skip ?_
 | refine SLc.exit ?_
 | refine SLc.ret ?_)))
  refine SLl.seq rfl rfl (SLo.call plain35 rfl (SLf.mono (New_ok W F (.slice none 0 0) [] Rs.nil (by simp)) ?_))
  rintro v σ ⟨sb, pv, rfl, rfl⟩
  (repeat' (first
 | (first
 | refine SLl.nil ?_
 | ((show SLl _ _ _ _ _ (⟨⟨_, _, _, _, _, _⟩, _, _⟩ :: _) _ _ _); first
 | refine SLl.ev rfl rfl rfl rfl ?_
 | ((show SLl _ _ _ _ _ (⟨⟨_, .load _ _, _, _, _, _⟩, _, _⟩ :: _) _ _ _); (first | refine SLl.rdSeq rfl rfl (Rd.load rfl rfl (by (first | (apply Reads.blk; (· (repeat (first | apply Sel.here | apply Sel.there | apply Upd.here | apply Upd.there))); (· rfl)) | (apply Reads.row; (· (repeat (first | apply Sel.here | apply Sel.there | apply Upd.here | apply Upd.there))); (· (first | rfl | assumption)); (· rfl)) | (apply Reads.rs; (· exact Rs.mono (by assumption) (by (repeat' (first | exact Ent.refl | exact Ent.drop | exact Ent.appR | apply Ent.skip)))); (· (first | rfl | assumption)); (· rfl)) | exact Reads.mono (by assumption) (by (repeat' (first | exact Ent.refl | exact Ent.drop | exact Ent.appR | apply Ent.skip)))))) ?_ | refine SLl.rdSeq rfl rfl (Rd.loadN rfl rfl (by (first | exact ReadsN.mono (by assumption) (by (repeat' (first | exact Ent.refl | exact Ent.drop | exact Ent.appR | apply Ent.skip))) | (apply ReadsN.blk0; (· (repeat (first | apply Sel.here | apply Sel.there | apply Upd.here | apply Upd.there)))) | (apply ReadsN.row0; (· (repeat (first | apply Sel.here | apply Sel.there | apply Upd.here | apply Upd.there))); (· (first | rfl | assumption))) | (apply ReadsN.rs0; (· exact Rs.mono (by assumption) (by (repeat' (first | exact Ent.refl | exact Ent.drop | exact Ent.appR | apply Ent.skip)))); (· (first | rfl | assumption))))) (by rfl)) ?_))
 | ((show SLl _ _ _ _ _ (⟨⟨_, .fieldAddr _ _ _, _, _, _, _⟩, _, _⟩ :: _) _ _ _); (first | refine SLl.pu rfl rfl rfl (Pu.fieldAddr rfl) ?_ | refine SLl.rdSeq rfl rfl (Rd.fieldAddrEl rfl (by (first | exact Len.nil | (apply Len.row; (· (repeat (first | apply Sel.here | apply Sel.there | apply Upd.here | apply Upd.there)))) | (apply Len.rs; exact Rs.mono (by assumption) (by (repeat' (first | exact Ent.refl | exact Ent.drop | exact Ent.appR | apply Ent.skip)))))) (by omega)) ?_))
 | ((show SLl _ _ _ _ _ (⟨⟨_, .indexAddr _ _ _, _, _, _, _⟩, _, _⟩ :: _) _ _ _); (refine SLl.rdSeq rfl rfl (Rd.indexAddr rfl rfl (by (first | exact Len.nil | (apply Len.row; (· (repeat (first | apply Sel.here | apply Sel.there | apply Upd.here | apply Upd.there)))) | (apply Len.rs; exact Rs.mono (by assumption) (by (repeat' (first | exact Ent.refl | exact Ent.drop | exact Ent.appR | apply Ent.skip)))))) (by (first | exact ij0 | exact ij1 | exact ij2 | exact ij3 | exact ij4 | exact ij5 | exact ijs _ | exact ijm _ | rfl | exact (Int.toNat_of_nonneg (by omega)).symm)) (by omega)) ?_))
 | ((show SLl _ _ _ _ _ (⟨⟨_, .call ⟨.builtin .len, _, _⟩, _, _, _, _⟩, _, _⟩ :: _) _ _ _); refine SLl.rdSeq rfl rfl (Rd.len rfl (by (first | exact Len.nil | (apply Len.row; (· (repeat (first | apply Sel.here | apply Sel.there | apply Upd.here | apply Upd.there)))) | (apply Len.rs; exact Rs.mono (by assumption) (by (repeat' (first | exact Ent.refl | exact Ent.drop | exact Ent.appR | apply Ent.skip))))))) ?_)
 | ((show SLl _ _ _ _ _ (⟨⟨_, .binOp _ _ _ _ _, _, _, _, _⟩, _, _⟩ :: _) _ _ _); (first
 | refine SLl.pu rfl rfl rfl (Pu.add rfl rfl (IntWalk.i64_in _ (by omega))) ?_
 | refine SLl.pu rfl rfl rfl (Pu.sub rfl rfl (IntWalk.i64_in _ (by omega))) ?_
 | (refine SLl.cmp rfl rfl rfl rfl rfl rfl ?_ ?_ <;> intro hq <;> simp only [cmpP] at hq <;> try (first
 | exact (hq trivial).elim
 | (exfalso; omega)))
 | refine SLl.pu rfl rfl rfl (Pu.eqNilT rfl rfl) ?_
 | refine SLl.pu rfl rfl rfl (Pu.neNilF rfl rfl) ?_
 | refine SLl.rdSeq rfl rfl (Rd.eqNilF rfl rfl (by (first | exact Len.nil | (apply Len.row; (· (repeat (first | apply Sel.here | apply Sel.there | apply Upd.here | apply Upd.there)))) | (apply Len.rs; exact Rs.mono (by assumption) (by (repeat' (first | exact Ent.refl | exact Ent.drop | exact Ent.appR | apply Ent.skip)))))) (by assumption)) ?_
 | refine SLl.rdSeq rfl rfl (Rd.neNilT rfl rfl (by (first | exact Len.nil | (apply Len.row; (· (repeat (first | apply Sel.here | apply Sel.there | apply Upd.here | apply Upd.there)))) | (apply Len.rs; exact Rs.mono (by assumption) (by (repeat' (first | exact Ent.refl | exact Ent.drop | exact Ent.appR | apply Ent.skip)))))) (by assumption)) ?_
 | refine SLl.pu rfl rfl rfl (Pu.eqPtrNil rfl rfl) ?_
 | refine SLl.pu rfl rfl rfl (Pu.eqBool rfl rfl) ?_
 | refine SLl.pu rfl rfl rfl (Pu.neBool rfl rfl) ?_
 | refine SLl.pu rfl rfl rfl (Pu.nePtrNil rfl rfl) ?_
 | refine SLl.pu rfl rfl rfl (Pu.eqFuncNilF rfl rfl) ?_
 | refine SLl.pu rfl rfl rfl (Pu.eqFuncNilT rfl rfl) ?_))
 | ((show SLl _ _ _ _ _ (⟨⟨_, .store _ _ _, _, _, _, _⟩, _, _⟩ :: _) _ _ _); (first | (refine SLl.seq0 rfl (SLo.store rfl rfl rfl (by (first | exact One.lit rfl | exact One.lit (by assumption) | exact One.mono (by assumption) (by (repeat' (first | exact Ent.refl | exact Ent.drop | exact Ent.appR | apply Ent.skip))) | exact One.len (by (first | exact Len.nil | (apply Len.row; (· (repeat (first | apply Sel.here | apply Sel.there | apply Upd.here | apply Upd.there)))) | (apply Len.rs; exact Rs.mono (by assumption) (by (repeat' (first | exact Ent.refl | exact Ent.drop | exact Ent.appR | apply Ent.skip)))))))) (by (first | (apply Wr.blk; (· (repeat (first | apply Sel.here | apply Sel.there | apply Upd.here | apply Upd.there))); (· exact Nat.le_of_ble_eq_true rfl)) | (apply Wr.row; (· (first | rfl | assumption)); (· exact Nat.le_of_ble_eq_true rfl); (· (repeat (first | apply Sel.here | apply Sel.there | apply Upd.here | apply Upd.there)))))) ?_)) | (refine SLl.seq0 rfl (SLo.storeN rfl rfl rfl (by (repeat' (first | exact trivial | (apply And.intro; (· (first | exact One.lit rfl | exact One.lit (by assumption) | exact One.mono (by assumption) (by (repeat' (first | exact Ent.refl | exact Ent.drop | exact Ent.appR | apply Ent.skip))) | exact One.len (by (first | exact Len.nil | (apply Len.row; (· (repeat (first | apply Sel.here | apply Sel.there | apply Upd.here | apply Upd.there)))) | (apply Len.rs; exact Rs.mono (by assumption) (by (repeat' (first | exact Ent.refl | exact Ent.drop | exact Ent.appR | apply Ent.skip)))))))))))) (Nat.le_of_ble_eq_true rfl) (by (repeat (first | apply Sel.here | apply Sel.there | apply Upd.here | apply Upd.there))) ?_))))
 | ((show SLl _ _ _ _ _ (⟨⟨_, .box _ _, _, _, _, _⟩, _, _⟩ :: _) _ _ _); refine SLl.seq rfl rfl (SLo.boxC rfl (by (first | exact Cel.one (by (first | exact One.lit rfl | exact One.lit (by assumption) | exact One.mono (by assumption) (by (repeat' (first | exact Ent.refl | exact Ent.drop | exact Ent.appR | apply Ent.skip))) | exact One.len (by (first | exact Len.nil | (apply Len.row; (· (repeat (first | apply Sel.here | apply Sel.there | apply Upd.here | apply Upd.there)))) | (apply Len.rs; exact Rs.mono (by assumption) (by (repeat' (first | exact Ent.refl | exact Ent.drop | exact Ent.appR | apply Ent.skip)))))))) | exact Cel.agg)) ?_); intro b)
 | ((show SLl _ _ _ _ _ (⟨⟨_, .alloc _, _, _, _, _⟩, _, _⟩ :: _) _ _ _); refine SLl.seq rfl rfl (SLo.alloc ?_); intro b)
 | ((show SLl _ _ _ _ _ (⟨⟨_, .build _ _, _, _, _, _⟩, _, _⟩ :: _) _ _ _); first
 | refine SLl.rdSeq rfl rfl (Rd.build rfl (by (repeat (first | exact CellsW.nil | (apply CellsW.cons; (· (first | exact Cel.one (by (first | exact One.lit rfl | exact One.lit (by assumption) | exact One.mono (by assumption) (by (repeat' (first | exact Ent.refl | exact Ent.drop | exact Ent.appR | apply Ent.skip))) | exact One.len (by (first | exact Len.nil | (apply Len.row; (· (repeat (first | apply Sel.here | apply Sel.there | apply Upd.here | apply Upd.there)))) | (apply Len.rs; exact Rs.mono (by assumption) (by (repeat' (first | exact Ent.refl | exact Ent.drop | exact Ent.appR | apply Ent.skip)))))))) | exact Cel.agg)))))) (by rfl)) ?_
 | refine SLl.pu rfl rfl rfl (Pu.build rfl rfl) ?_)
 | refine SLl.skip rfl rfl ?_))
 | (first
 | refine SLc.seq ?_
 | refine SLc.region rfl ?_
 | refine SLc.condT rfl ?_
 | refine SLc.condF rfl ?_
 | refine SLc.block ?_
 | refine SLc.skip ?_
 | refine SLc.exit ?_
 | refine SLc.ret ?_)))
  refine SLc.loop (ι := Nat × Value) (fun s => [(2, .int .i64 s.1), (1, ptr sb)]) (fun s => schC sb pv s.2 (stays 37 s.1) ++ F) (fun s => s.1 ≤ 3) (fun s => 3 - s.1) (0, .slice none 0 0) (Nat.zero_le _) (by (repeat' (first | exact trivial | apply And.intro | rfl))) .refl ?_
  rintro ⟨i, lv⟩ hi
  dsimp only at hi ⊢
  by_cases hlt : i < 3
  · (repeat' (first
 | (first
 | refine SLl.nil ?_
 | ((show SLl _ _ _ _ _ (⟨⟨_, _, _, _, _, _⟩, _, _⟩ :: _) _ _ _); first
 | refine SLl.ev rfl rfl rfl rfl ?_
 | ((show SLl _ _ _ _ _ (⟨⟨_, .load _ _, _, _, _, _⟩, _, _⟩ :: _) _ _ _); (first | refine SLl.rdSeq rfl rfl (Rd.load rfl rfl (by (first | (apply Reads.blk; (· (repeat (first | apply Sel.here | apply Sel.there | apply Upd.here | apply Upd.there))); (· rfl)) | (apply Reads.row; (· (repeat (first | apply Sel.here | apply Sel.there | apply Upd.here | apply Upd.there))); (· (first | rfl | assumption)); (· rfl)) | (apply Reads.rs; (· exact Rs.mono (by assumption) (by (repeat' (first | exact Ent.refl | exact Ent.drop | exact Ent.appR | apply Ent.skip)))); (· (first | rfl | assumption)); (· rfl)) | exact Reads.mono (by assumption) (by (repeat' (first | exact Ent.refl | exact Ent.drop | exact Ent.appR | apply Ent.skip)))))) ?_ | refine SLl.rdSeq rfl rfl (Rd.loadN rfl rfl (by (first | exact ReadsN.mono (by assumption) (by (repeat' (first | exact Ent.refl | exact Ent.drop | exact Ent.appR | apply Ent.skip))) | (apply ReadsN.blk0; (· (repeat (first | apply Sel.here | apply Sel.there | apply Upd.here | apply Upd.there)))) | (apply ReadsN.row0; (· (repeat (first | apply Sel.here | apply Sel.there | apply Upd.here | apply Upd.there))); (· (first | rfl | assumption))) | (apply ReadsN.rs0; (· exact Rs.mono (by assumption) (by (repeat' (first | exact Ent.refl | exact Ent.drop | exact Ent.appR | apply Ent.skip)))); (· (first | rfl | assumption))))) (by rfl)) ?_))
 | ((show SLl _ _ _ _ _ (⟨⟨_, .fieldAddr _ _ _, _, _, _, _⟩, _, _⟩ :: _) _ _ _); (first | refine SLl.pu rfl rfl rfl (Pu.fieldAddr rfl) ?_ | refine SLl.rdSeq rfl rfl (Rd.fieldAddrEl rfl (by (first | exact Len.nil | (apply Len.row; (· (repeat (first | apply Sel.here | apply Sel.there | apply Upd.here | apply Upd.there)))) | (apply Len.rs; exact Rs.mono (by assumption) (by (repeat' (first | exact Ent.refl | exact Ent.drop | exact Ent.appR | apply Ent.skip)))))) (by omega)) ?_))
 | ((show SLl _ _ _ _ _ (⟨⟨_, .indexAddr _ _ _, _, _, _, _⟩, _, _⟩ :: _) _ _ _); (refine SLl.rdSeq rfl rfl (Rd.indexAddr rfl rfl (by (first | exact Len.nil | (apply Len.row; (· (repeat (first | apply Sel.here | apply Sel.there | apply Upd.here | apply Upd.there)))) | (apply Len.rs; exact Rs.mono (by assumption) (by (repeat' (first | exact Ent.refl | exact Ent.drop | exact Ent.appR | apply Ent.skip)))))) (by (first | exact ij0 | exact ij1 | exact ij2 | exact ij3 | exact ij4 | exact ij5 | exact ijs _ | exact ijm _ | rfl | exact (Int.toNat_of_nonneg (by omega)).symm)) (by omega)) ?_))
 | ((show SLl _ _ _ _ _ (⟨⟨_, .call ⟨.builtin .len, _, _⟩, _, _, _, _⟩, _, _⟩ :: _) _ _ _); refine SLl.rdSeq rfl rfl (Rd.len rfl (by (first | exact Len.nil | (apply Len.row; (· (repeat (first | apply Sel.here | apply Sel.there | apply Upd.here | apply Upd.there)))) | (apply Len.rs; exact Rs.mono (by assumption) (by (repeat' (first | exact Ent.refl | exact Ent.drop | exact Ent.appR | apply Ent.skip))))))) ?_)
 | ((show SLl _ _ _ _ _ (⟨⟨_, .binOp _ _ _ _ _, _, _, _, _⟩, _, _⟩ :: _) _ _ _); (first
 | refine SLl.pu rfl rfl rfl (Pu.add rfl rfl (IntWalk.i64_in _ (by omega))) ?_
 | refine SLl.pu rfl rfl rfl (Pu.sub rfl rfl (IntWalk.i64_in _ (by omega))) ?_
 | (refine SLl.cmp rfl rfl rfl rfl rfl rfl ?_ ?_ <;> intro hq <;> simp only [cmpP] at hq <;> try (first
 | exact (hq trivial).elim
 | (exfalso; omega)))
 | refine SLl.pu rfl rfl rfl (Pu.eqNilT rfl rfl) ?_
 | refine SLl.pu rfl rfl rfl (Pu.neNilF rfl rfl) ?_
 | refine SLl.rdSeq rfl rfl (Rd.eqNilF rfl rfl (by (first | exact Len.nil | (apply Len.row; (· (repeat (first | apply Sel.here | apply Sel.there | apply Upd.here | apply Upd.there)))) | (apply Len.rs; exact Rs.mono (by assumption) (by (repeat' (first | exact Ent.refl | exact Ent.drop | exact Ent.appR | apply Ent.skip)))))) (by assumption)) ?_
 | refine SLl.rdSeq rfl rfl (Rd.neNilT rfl rfl (by (first | exact Len.nil | (apply Len.row; (· (repeat (first | apply Sel.here | apply Sel.there | apply Upd.here | apply Upd.there)))) | (apply Len.rs; exact Rs.mono (by assumption) (by (repeat' (first | exact Ent.refl | exact Ent.drop | exact Ent.appR | apply Ent.skip)))))) (by assumption)) ?_
 | refine SLl.pu rfl rfl rfl (Pu.eqPtrNil rfl rfl) ?_
 | refine SLl.pu rfl rfl rfl (Pu.eqBool rfl rfl) ?_
 | refine SLl.pu rfl rfl rfl (Pu.neBool rfl rfl) ?_
 | refine SLl.pu rfl rfl rfl (Pu.nePtrNil rfl rfl) ?_
 | refine SLl.pu rfl rfl rfl (Pu.eqFuncNilF rfl rfl) ?_
 | refine SLl.pu rfl rfl rfl (Pu.eqFuncNilT rfl rfl) ?_))
 | ((show SLl _ _ _ _ _ (⟨⟨_, .store _ _ _, _, _, _, _⟩, _, _⟩ :: _) _ _ _); (first | (refine SLl.seq0 rfl (SLo.store rfl rfl rfl (by (first | exact One.lit rfl | exact One.lit (by assumption) | exact One.mono (by assumption) (by (repeat' (first | exact Ent.refl | exact Ent.drop | exact Ent.appR | apply Ent.skip))) | exact One.len (by (first | exact Len.nil | (apply Len.row; (· (repeat (first | apply Sel.here | apply Sel.there | apply Upd.here | apply Upd.there)))) | (apply Len.rs; exact Rs.mono (by assumption) (by (repeat' (first | exact Ent.refl | exact Ent.drop | exact Ent.appR | apply Ent.skip)))))))) (by (first | (apply Wr.blk; (· (repeat (first | apply Sel.here | apply Sel.there | apply Upd.here | apply Upd.there))); (· exact Nat.le_of_ble_eq_true rfl)) | (apply Wr.row; (· (first | rfl | assumption)); (· exact Nat.le_of_ble_eq_true rfl); (· (repeat (first | apply Sel.here | apply Sel.there | apply Upd.here | apply Upd.there)))))) ?_)) | (refine SLl.seq0 rfl (SLo.storeN rfl rfl rfl (by (repeat' (first | exact trivial | (apply And.intro; (· (first | exact One.lit rfl | exact One.lit (by assumption) | exact One.mono (by assumption) (by (repeat' (first | exact Ent.refl | exact Ent.drop | exact Ent.appR | apply Ent.skip))) | exact One.len (by (first | exact Len.nil | (apply Len.row; (· (repeat (first | apply Sel.here | apply Sel.there | apply Upd.here | apply Upd.there)))) | (apply Len.rs; exact Rs.mono (by assumption) (by (repeat' (first | exact Ent.refl | exact Ent.drop | exact Ent.appR | apply Ent.skip)))))))))))) (Nat.le_of_ble_eq_true rfl) (by (repeat (first | apply Sel.here | apply Sel.there | apply Upd.here | apply Upd.there))) ?_))))
 | ((show SLl _ _ _ _ _ (⟨⟨_, .box _ _, _, _, _, _⟩, _, _⟩ :: _) _ _ _); refine SLl.seq rfl rfl (SLo.boxC rfl (by (first | exact Cel.one (by (first | exact One.lit rfl | exact One.lit (by assumption) | exact One.mono (by assumption) (by (repeat' (first | exact Ent.refl | exact Ent.drop | exact Ent.appR | apply Ent.skip))) | exact One.len (by (first | exact Len.nil | (apply Len.row; (· (repeat (first | apply Sel.here | apply Sel.there | apply Upd.here | apply Upd.there)))) | (apply Len.rs; exact Rs.mono (by assumption) (by (repeat' (first | exact Ent.refl | exact Ent.drop | exact Ent.appR | apply Ent.skip)))))))) | exact Cel.agg)) ?_); intro b)
 | ((show SLl _ _ _ _ _ (⟨⟨_, .alloc _, _, _, _, _⟩, _, _⟩ :: _) _ _ _); refine SLl.seq rfl rfl (SLo.alloc ?_); intro b)
 | ((show SLl _ _ _ _ _ (⟨⟨_, .build _ _, _, _, _, _⟩, _, _⟩ :: _) _ _ _); first
 | refine SLl.rdSeq rfl rfl (Rd.build rfl (by (repeat (first | exact CellsW.nil | (apply CellsW.cons; (· (first | exact Cel.one (by (first | exact One.lit rfl | exact One.lit (by assumption) | exact One.mono (by assumption) (by (repeat' (first | exact Ent.refl | exact Ent.drop | exact Ent.appR | apply Ent.skip))) | exact One.len (by (first | exact Len.nil | (apply Len.row; (· (repeat (first | apply Sel.here | apply Sel.there | apply Upd.here | apply Upd.there)))) | (apply Len.rs; exact Rs.mono (by assumption) (by (repeat' (first | exact Ent.refl | exact Ent.drop | exact Ent.appR | apply Ent.skip)))))))) | exact Cel.agg)))))) (by rfl)) ?_
 | refine SLl.pu rfl rfl rfl (Pu.build rfl rfl) ?_)
 | refine SLl.skip rfl rfl ?_))
 | (first
 | refine SLc.seq ?_
 | refine SLc.region rfl ?_
 | refine SLc.condT rfl ?_
 | refine SLc.condF rfl ?_
 | refine SLc.block ?_
 | refine SLc.skip ?_
 | refine SLc.exit ?_
 | refine SLc.ret ?_)))
    refine SLl.seq rfl rfl (SLo.call plain36 rfl (SLf.mono (Go_ok W F sb pv lv (stays 37 i) (.func 37) #[] #[] (by rw [stays_len]; omega)) ?_))
    rintro v σ ⟨lv', rfl, rfl⟩
    rw [stays_add]
    (repeat' (first
 | (first
 | refine SLl.nil ?_
 | ((show SLl _ _ _ _ _ (⟨⟨_, _, _, _, _, _⟩, _, _⟩ :: _) _ _ _); first
 | refine SLl.ev rfl rfl rfl rfl ?_
 | ((show SLl _ _ _ _ _ (⟨⟨_, .load _ _, _, _, _, _⟩, _, _⟩ :: _) _ _ _); (first | refine SLl.rdSeq rfl rfl (Rd.load rfl rfl (by (first | (apply Reads.blk; (· (repeat (first | apply Sel.here | apply Sel.there | apply Upd.here | apply Upd.there))); (· rfl)) | (apply Reads.row; (· (repeat (first | apply Sel.here | apply Sel.there | apply Upd.here | apply Upd.there))); (· (first | rfl | assumption)); (· rfl)) | (apply Reads.rs; (· exact Rs.mono (by assumption) (by (repeat' (first | exact Ent.refl | exact Ent.drop | exact Ent.appR | apply Ent.skip)))); (· (first | rfl | assumption)); (· rfl)) | exact Reads.mono (by assumption) (by (repeat' (first | exact Ent.refl | exact Ent.drop | exact Ent.appR | apply Ent.skip)))))) ?_ | refine SLl.rdSeq rfl rfl (Rd.loadN rfl rfl (by (first | exact ReadsN.mono (by assumption) (by (repeat' (first | exact Ent.refl | exact Ent.drop | exact Ent.appR | apply Ent.skip))) | (apply ReadsN.blk0; (· (repeat (first | apply Sel.here | apply Sel.there | apply Upd.here | apply Upd.there)))) | (apply ReadsN.row0; (· (repeat (first | apply Sel.here | apply Sel.there | apply Upd.here | apply Upd.there))); (· (first | rfl | assumption))) | (apply ReadsN.rs0; (· exact Rs.mono (by assumption) (by (repeat' (first | exact Ent.refl | exact Ent.drop | exact Ent.appR | apply Ent.skip)))); (· (first | rfl | assumption))))) (by rfl)) ?_))
 | ((show SLl _ _ _ _ _ (⟨⟨_, .fieldAddr _ _ _, _, _, _, _⟩, _, _⟩ :: _) _ _ _); (first | refine SLl.pu rfl rfl rfl (Pu.fieldAddr rfl) ?_ | refine SLl.rdSeq rfl rfl (Rd.fieldAddrEl rfl (by (first | exact Len.nil | (apply Len.row; (· (repeat (first | apply Sel.here | apply Sel.there | apply Upd.here | apply Upd.there)))) | (apply Len.rs; exact Rs.mono (by assumption) (by (repeat' (first | exact Ent.refl | exact Ent.drop | exact Ent.appR | apply Ent.skip)))))) (by omega)) ?_))
 | ((show SLl _ _ _ _ _ (⟨⟨_, .indexAddr _ _ _, _, _, _, _⟩, _, _⟩ :: _) _ _ _); (refine SLl.rdSeq rfl rfl (Rd.indexAddr rfl rfl (by (first | exact Len.nil | (apply Len.row; (· (repeat (first | apply Sel.here | apply Sel.there | apply Upd.here | apply Upd.there)))) | (apply Len.rs; exact Rs.mono (by assumption) (by (repeat' (first | exact Ent.refl | exact Ent.drop | exact Ent.appR | apply Ent.skip)))))) (by (first | exact ij0 | exact ij1 | exact ij2 | exact ij3 | exact ij4 | exact ij5 | exact ijs _ | exact ijm _ | rfl | exact (Int.toNat_of_nonneg (by omega)).symm)) (by omega)) ?_))
 | ((show SLl _ _ _ _ _ (⟨⟨_, .call ⟨.builtin .len, _, _⟩, _, _, _, _⟩, _, _⟩ :: _) _ _ _); refine SLl.rdSeq rfl rfl (Rd.len rfl (by (first | exact Len.nil | (apply Len.row; (· (repeat (first | apply Sel.here | apply Sel.there | apply Upd.here | apply Upd.there)))) | (apply Len.rs; exact Rs.mono (by assumption) (by (repeat' (first | exact Ent.refl | exact Ent.drop | exact Ent.appR | apply Ent.skip))))))) ?_)
 | ((show SLl _ _ _ _ _ (⟨⟨_, .binOp _ _ _ _ _, _, _, _, _⟩, _, _⟩ :: _) _ _ _); (first
 | refine SLl.pu rfl rfl rfl (Pu.add rfl rfl (IntWalk.i64_in _ (by omega))) ?_
 | refine SLl.pu rfl rfl rfl (Pu.sub rfl rfl (IntWalk.i64_in _ (by omega))) ?_
 | (refine SLl.cmp rfl rfl rfl rfl rfl rfl ?_ ?_ <;> intro hq <;> simp only [cmpP] at hq <;> try (first
 | exact (hq trivial).elim
 | (exfalso; omega)))
 | refine SLl.pu rfl rfl rfl (Pu.eqNilT rfl rfl) ?_
 | refine SLl.pu rfl rfl rfl (Pu.neNilF rfl rfl) ?_
 | refine SLl.rdSeq rfl rfl (Rd.eqNilF rfl rfl (by (first | exact Len.nil | (apply Len.row; (· (repeat (first | apply Sel.here | apply Sel.there | apply Upd.here | apply Upd.there)))) | (apply Len.rs; exact Rs.mono (by assumption) (by (repeat' (first | exact Ent.refl | exact Ent.drop | exact Ent.appR | apply Ent.skip)))))) (by assumption)) ?_
 | refine SLl.rdSeq rfl rfl (Rd.neNilT rfl rfl (by (first | exact Len.nil | (apply Len.row; (· (repeat (first | apply Sel.here | apply Sel.there | apply Upd.here | apply Upd.there)))) | (apply Len.rs; exact Rs.mono (by assumption) (by (repeat' (first | exact Ent.refl | exact Ent.drop | exact Ent.appR | apply Ent.skip)))))) (by assumption)) ?_
 | refine SLl.pu rfl rfl rfl (Pu.eqPtrNil rfl rfl) ?_
 | refine SLl.pu rfl rfl rfl (Pu.eqBool rfl rfl) ?_
 | refine SLl.pu rfl rfl rfl (Pu.neBool rfl rfl) ?_
 | refine SLl.pu rfl rfl rfl (Pu.nePtrNil rfl rfl) ?_
 | refine SLl.pu rfl rfl rfl (Pu.eqFuncNilF rfl rfl) ?_
 | refine SLl.pu rfl rfl rfl (Pu.eqFuncNilT rfl rfl) ?_))
 | ((show SLl _ _ _ _ _ (⟨⟨_, .store _ _ _, _, _, _, _⟩, _, _⟩ :: _) _ _ _); (first | (refine SLl.seq0 rfl (SLo.store rfl rfl rfl (by (first | exact One.lit rfl | exact One.lit (by assumption) | exact One.mono (by assumption) (by (repeat' (first | exact Ent.refl | exact Ent.drop | exact Ent.appR | apply Ent.skip))) | exact One.len (by (first | exact Len.nil | (apply Len.row; (· (repeat (first | apply Sel.here | apply Sel.there | apply Upd.here | apply Upd.there)))) | (apply Len.rs; exact Rs.mono (by assumption) (by (repeat' (first | exact Ent.refl | exact Ent.drop | exact Ent.appR | apply Ent.skip)))))))) (by (first | (apply Wr.blk; (· (repeat (first | apply Sel.here | apply Sel.there | apply Upd.here | apply Upd.there))); (· exact Nat.le_of_ble_eq_true rfl)) | (apply Wr.row; (· (first | rfl | assumption)); (· exact Nat.le_of_ble_eq_true rfl); (· (repeat (first | apply Sel.here | apply Sel.there | apply Upd.here | apply Upd.there)))))) ?_)) | (refine SLl.seq0 rfl (SLo.storeN rfl rfl rfl (by (repeat' (first | exact trivial | (apply And.intro; (· (first | exact One.lit rfl | exact One.lit (by assumption) | exact One.mono (by assumption) (by (repeat' (first | exact Ent.refl | exact Ent.drop | exact Ent.appR | apply Ent.skip))) | exact One.len (by (first | exact Len.nil | (apply Len.row; (· (repeat (first | apply Sel.here | apply Sel.there | apply Upd.here | apply Upd.there)))) | (apply Len.rs; exact Rs.mono (by assumption) (by (repeat' (first | exact Ent.refl | exact Ent.drop | exact Ent.appR | apply Ent.skip)))))))))))) (Nat.le_of_ble_eq_true rfl) (by (repeat (first | apply Sel.here | apply Sel.there | apply Upd.here | apply Upd.there))) ?_))))
 | ((show SLl _ _ _ _ _ (⟨⟨_, .box _ _, _, _, _, _⟩, _, _⟩ :: _) _ _ _); refine SLl.seq rfl rfl (SLo.boxC rfl (by (first | exact Cel.one (by (first | exact One.lit rfl | exact One.lit (by assumption) | exact One.mono (by assumption) (by (repeat' (first | exact Ent.refl | exact Ent.drop | exact Ent.appR | apply Ent.skip))) | exact One.len (by (first | exact Len.nil | (apply Len.row; (· (repeat (first | apply Sel.here | apply Sel.there | apply Upd.here | apply Upd.there)))) | (apply Len.rs; exact Rs.mono (by assumption) (by (repeat' (first | exact Ent.refl | exact Ent.drop | exact Ent.appR | apply Ent.skip)))))))) | exact Cel.agg)) ?_); intro b)
 | ((show SLl _ _ _ _ _ (⟨⟨_, .alloc _, _, _, _, _⟩, _, _⟩ :: _) _ _ _); refine SLl.seq rfl rfl (SLo.alloc ?_); intro b)
 | ((show SLl _ _ _ _ _ (⟨⟨_, .build _ _, _, _, _, _⟩, _, _⟩ :: _) _ _ _); first
 | refine SLl.rdSeq rfl rfl (Rd.build rfl (by (repeat (first | exact CellsW.nil | (apply CellsW.cons; (· (first | exact Cel.one (by (first | exact One.lit rfl | exact One.lit (by assumption) | exact One.mono (by assumption) (by (repeat' (first | exact Ent.refl | exact Ent.drop | exact Ent.appR | apply Ent.skip))) | exact One.len (by (first | exact Len.nil | (apply Len.row; (· (repeat (first | apply Sel.here | apply Sel.there | apply Upd.here | apply Upd.there)))) | (apply Len.rs; exact Rs.mono (by assumption) (by (repeat' (first | exact Ent.refl | exact Ent.drop | exact Ent.appR | apply Ent.skip)))))))) | exact Cel.agg)))))) (by rfl)) ?_
 | refine SLl.pu rfl rfl rfl (Pu.build rfl rfl) ?_)
 | refine SLl.skip rfl rfl ?_))
 | (first
 | refine SLc.seq ?_
 | refine SLc.region rfl ?_
 | refine SLc.condT rfl ?_
 | refine SLc.condF rfl ?_
 | refine SLc.block ?_
 | refine SLc.skip ?_
 | refine SLc.exit ?_
 | refine SLc.ret ?_)))
    exact And.intro rfl (Exists.intro (i + 1, lv') (And.intro (by dsimp only; omega) (And.intro (by dsimp only; omega) (And.intro (by (repeat' (first | exact trivial | apply And.intro | rfl))) .refl))))
  · obtain rfl : i = 3 := by omega
    generalize stays 37 3 = m
    (repeat' (first
 | (first
 | refine SLl.nil ?_
 | ((show SLl _ _ _ _ _ (⟨⟨_, _, _, _, _, _⟩, _, _⟩ :: _) _ _ _); first
 | refine SLl.ev rfl rfl rfl rfl ?_
 | ((show SLl _ _ _ _ _ (⟨⟨_, .load _ _, _, _, _, _⟩, _, _⟩ :: _) _ _ _); (first | refine SLl.rdSeq rfl rfl (Rd.load rfl rfl (by (first | (apply Reads.blk; (· (repeat (first | apply Sel.here | apply Sel.there | apply Upd.here | apply Upd.there))); (· rfl)) | (apply Reads.row; (· (repeat (first | apply Sel.here | apply Sel.there | apply Upd.here | apply Upd.there))); (· (first | rfl | assumption)); (· rfl)) | (apply Reads.rs; (· exact Rs.mono (by assumption) (by (repeat' (first | exact Ent.refl | exact Ent.drop | exact Ent.appR | apply Ent.skip)))); (· (first | rfl | assumption)); (· rfl)) | exact Reads.mono (by assumption) (by (repeat' (first | exact Ent.refl | exact Ent.drop | exact Ent.appR | apply Ent.skip)))))) ?_ | refine SLl.rdSeq rfl rfl (Rd.loadN rfl rfl (by (first | exact ReadsN.mono (by assumption) (by (repeat' (first | exact Ent.refl | exact Ent.drop | exact Ent.appR | apply Ent.skip))) | (apply ReadsN.blk0; (· (repeat (first | apply Sel.here | apply Sel.there | apply Upd.here | apply Upd.there)))) | (apply ReadsN.row0; (· (repeat (first | apply Sel.here | apply Sel.there | apply Upd.here | apply Upd.there))); (· (first | rfl | assumption))) | (apply ReadsN.rs0; (· exact Rs.mono (by assumption) (by (repeat' (first | exact Ent.refl | exact Ent.drop | exact Ent.appR | apply Ent.skip)))); (· (first | rfl | assumption))))) (by rfl)) ?_))
 | ((show SLl _ _ _ _ _ (⟨⟨_, .fieldAddr _ _ _, _, _, _, _⟩, _, _⟩ :: _) _ _ _); (first | refine SLl.pu rfl rfl rfl (Pu.fieldAddr rfl) ?_ | refine SLl.rdSeq rfl rfl (Rd.fieldAddrEl rfl (by (first | exact Len.nil | (apply Len.row; (· (repeat (first | apply Sel.here | apply Sel.there | apply Upd.here | apply Upd.there)))) | (apply Len.rs; exact Rs.mono (by assumption) (by (repeat' (first | exact Ent.refl | exact Ent.drop | exact Ent.appR | apply Ent.skip)))))) (by omega)) ?_))
 | ((show SLl _ _ _ _ _ (⟨⟨_, .indexAddr _ _ _, _, _, _, _⟩, _, _⟩ :: _) _ _ _); (refine SLl.rdSeq rfl rfl (Rd.indexAddr rfl rfl (by (first | exact Len.nil | (apply Len.row; (· (repeat (first | apply Sel.here | apply Sel.there | apply Upd.here | apply Upd.there)))) | (apply Len.rs; exact Rs.mono (by assumption) (by (repeat' (first | exact Ent.refl | exact Ent.drop | exact Ent.appR | apply Ent.skip)))))) (by (first | exact ij0 | exact ij1 | exact ij2 | exact ij3 | exact ij4 | exact ij5 | exact ijs _ | exact ijm _ | rfl | exact (Int.toNat_of_nonneg (by omega)).symm)) (by omega)) ?_))
 | ((show SLl _ _ _ _ _ (⟨⟨_, .call ⟨.builtin .len, _, _⟩, _, _, _, _⟩, _, _⟩ :: _) _ _ _); refine SLl.rdSeq rfl rfl (Rd.len rfl (by (first | exact Len.nil | (apply Len.row; (· (repeat (first | apply Sel.here | apply Sel.there | apply Upd.here | apply Upd.there)))) | (apply Len.rs; exact Rs.mono (by assumption) (by (repeat' (first | exact Ent.refl | exact Ent.drop | exact Ent.appR | apply Ent.skip))))))) ?_)
 | ((show SLl _ _ _ _ _ (⟨⟨_, .binOp _ _ _ _ _, _, _, _, _⟩, _, _⟩ :: _) _ _ _); (first
 | refine SLl.pu rfl rfl rfl (Pu.add rfl rfl (IntWalk.i64_in _ (by omega))) ?_
 | refine SLl.pu rfl rfl rfl (Pu.sub rfl rfl (IntWalk.i64_in _ (by omega))) ?_
 | (refine SLl.cmp rfl rfl rfl rfl rfl rfl ?_ ?_ <;> intro hq <;> simp only [cmpP] at hq <;> try (first
 | exact (hq trivial).elim
 | (exfalso; omega)))
 | refine SLl.pu rfl rfl rfl (Pu.eqNilT rfl rfl) ?_
 | refine SLl.pu rfl rfl rfl (Pu.neNilF rfl rfl) ?_
 | refine SLl.rdSeq rfl rfl (Rd.eqNilF rfl rfl (by (first | exact Len.nil | (apply Len.row; (· (repeat (first | apply Sel.here | apply Sel.there | apply Upd.here | apply Upd.there)))) | (apply Len.rs; exact Rs.mono (by assumption) (by (repeat' (first | exact Ent.refl | exact Ent.drop | exact Ent.appR | apply Ent.skip)))))) (by assumption)) ?_
 | refine SLl.rdSeq rfl rfl (Rd.neNilT rfl rfl (by (first | exact Len.nil | (apply Len.row; (· (repeat (first | apply Sel.here | apply Sel.there | apply Upd.here | apply Upd.there)))) | (apply Len.rs; exact Rs.mono (by assumption) (by (repeat' (first | exact Ent.refl | exact Ent.drop | exact Ent.appR | apply Ent.skip)))))) (by assumption)) ?_
 | refine SLl.pu rfl rfl rfl (Pu.eqPtrNil rfl rfl) ?_
 | refine SLl.pu rfl rfl rfl (Pu.eqBool rfl rfl) ?_
 | refine SLl.pu rfl rfl rfl (Pu.neBool rfl rfl) ?_
 | refine SLl.pu rfl rfl rfl (Pu.nePtrNil rfl rfl) ?_
 | refine SLl.pu rfl rfl rfl (Pu.eqFuncNilF rfl rfl) ?_
 | refine SLl.pu rfl rfl rfl (Pu.eqFuncNilT rfl rfl) ?_))
 | ((show SLl _ _ _ _ _ (⟨⟨_, .store _ _ _, _, _, _, _⟩, _, _⟩ :: _) _ _ _); (first | (refine SLl.seq0 rfl (SLo.store rfl rfl rfl (by (first | exact One.lit rfl | exact One.lit (by assumption) | exact One.mono (by assumption) (by (repeat' (first | exact Ent.refl | exact Ent.drop | exact Ent.appR | apply Ent.skip))) | exact One.len (by (first | exact Len.nil | (apply Len.row; (· (repeat (first | apply Sel.here | apply Sel.there | apply Upd.here | apply Upd.there)))) | (apply Len.rs; exact Rs.mono (by assumption) (by (repeat' (first | exact Ent.refl | exact Ent.drop | exact Ent.appR | apply Ent.skip)))))))) (by (first | (apply Wr.blk; (· (repeat (first | apply Sel.here | apply Sel.there | apply Upd.here | apply Upd.there))); (· exact Nat.le_of_ble_eq_true rfl)) | (apply Wr.row; (· (first | rfl | assumption)); (· exact Nat.le_of_ble_eq_true rfl); (· (repeat (first | apply Sel.here | apply Sel.there | apply Upd.here | apply Upd.there)))))) ?_)) | (refine SLl.seq0 rfl (SLo.storeN rfl rfl rfl (by (repeat' (first | exact trivial | (apply And.intro; (· (first | exact One.lit rfl | exact One.lit (by assumption) | exact One.mono (by assumption) (by (repeat' (first | exact Ent.refl | exact Ent.drop | exact Ent.appR | apply Ent.skip))) | exact One.len (by (first | exact Len.nil | (apply Len.row; (· (repeat (first | apply Sel.here | apply Sel.there | apply Upd.here | apply Upd.there)))) | (apply Len.rs; exact Rs.mono (by assumption) (by (repeat' (first | exact Ent.refl | exact Ent.drop | exact Ent.appR | apply Ent.skip)))))))))))) (Nat.le_of_ble_eq_true rfl) (by (repeat (first | apply Sel.here | apply Sel.there | apply Upd.here | apply Upd.there))) ?_))))
 | ((show SLl _ _ _ _ _ (⟨⟨_, .box _ _, _, _, _, _⟩, _, _⟩ :: _) _ _ _); refine SLl.seq rfl rfl (SLo.boxC rfl (by (first | exact Cel.one (by (first | exact One.lit rfl | exact One.lit (by assumption) | exact One.mono (by assumption) (by (repeat' (first | exact Ent.refl | exact Ent.drop | exact Ent.appR | apply Ent.skip))) | exact One.len (by (first | exact Len.nil | (apply Len.row; (· (repeat (first | apply Sel.here | apply Sel.there | apply Upd.here | apply Upd.there)))) | (apply Len.rs; exact Rs.mono (by assumption) (by (repeat' (first | exact Ent.refl | exact Ent.drop | exact Ent.appR | apply Ent.skip)))))))) | exact Cel.agg)) ?_); intro b)
 | ((show SLl _ _ _ _ _ (⟨⟨_, .alloc _, _, _, _, _⟩, _, _⟩ :: _) _ _ _); refine SLl.seq rfl rfl (SLo.alloc ?_); intro b)
 | ((show SLl _ _ _ _ _ (⟨⟨_, .build _ _, _, _, _, _⟩, _, _⟩ :: _) _ _ _); first
 | refine SLl.rdSeq rfl rfl (Rd.build rfl (by (repeat (first | exact CellsW.nil | (apply CellsW.cons; (· (first | exact Cel.one (by (first | exact One.lit rfl | exact One.lit (by assumption) | exact One.mono (by assumption) (by (repeat' (first | exact Ent.refl | exact Ent.drop | exact Ent.appR | apply Ent.skip))) | exact One.len (by (first | exact Len.nil | (apply Len.row; (· (repeat (first | apply Sel.here | apply Sel.there | apply Upd.here | apply Upd.there)))) | (apply Len.rs; exact Rs.mono (by assumption) (by (repeat' (first | exact Ent.refl | exact Ent.drop | exact Ent.appR | apply Ent.skip)))))))) | exact Cel.agg)))))) (by rfl)) ?_
 | refine SLl.pu rfl rfl rfl (Pu.build rfl rfl) ?_)
 | refine SLl.skip rfl rfl ?_))
 | (first
 | refine SLc.seq ?_
 | refine SLc.region rfl ?_
 | refine SLc.condT rfl ?_
 | refine SLc.condF rfl ?_
 | refine SLc.block ?_
 | refine SLc.skip ?_
 | refine SLc.exit ?_
 | refine SLc.ret ?_)))
    refine SLl.seq rfl rfl (SLo.call plain38 rfl (SLf.mono (LNew_ok W _ sb) ?_))
    rintro v σ ⟨lb, rfl, rfl⟩
    (repeat' (first
 | (first
 | refine SLl.nil ?_
 | ((show SLl _ _ _ _ _ (⟨⟨_, _, _, _, _, _⟩, _, _⟩ :: _) _ _ _); first
 | refine SLl.ev rfl rfl rfl rfl ?_
 | ((show SLl _ _ _ _ _ (⟨⟨_, .load _ _, _, _, _, _⟩, _, _⟩ :: _) _ _ _); (first | refine SLl.rdSeq rfl rfl (Rd.load rfl rfl (by (first | (apply Reads.blk; (· (repeat (first | apply Sel.here | apply Sel.there | apply Upd.here | apply Upd.there))); (· rfl)) | (apply Reads.row; (· (repeat (first | apply Sel.here | apply Sel.there | apply Upd.here | apply Upd.there))); (· (first | rfl | assumption)); (· rfl)) | (apply Reads.rs; (· exact Rs.mono (by assumption) (by (repeat' (first | exact Ent.refl | exact Ent.drop | exact Ent.appR | apply Ent.skip)))); (· (first | rfl | assumption)); (· rfl)) | exact Reads.mono (by assumption) (by (repeat' (first | exact Ent.refl | exact Ent.drop | exact Ent.appR | apply Ent.skip)))))) ?_ | refine SLl.rdSeq rfl rfl (Rd.loadN rfl rfl (by (first | exact ReadsN.mono (by assumption) (by (repeat' (first | exact Ent.refl | exact Ent.drop | exact Ent.appR | apply Ent.skip))) | (apply ReadsN.blk0; (· (repeat (first | apply Sel.here | apply Sel.there | apply Upd.here | apply Upd.there)))) | (apply ReadsN.row0; (· (repeat (first | apply Sel.here | apply Sel.there | apply Upd.here | apply Upd.there))); (· (first | rfl | assumption))) | (apply ReadsN.rs0; (· exact Rs.mono (by assumption) (by (repeat' (first | exact Ent.refl | exact Ent.drop | exact Ent.appR | apply Ent.skip)))); (· (first | rfl | assumption))))) (by rfl)) ?_))
 | ((show SLl _ _ _ _ _ (⟨⟨_, .fieldAddr _ _ _, _, _, _, _⟩, _, _⟩ :: _) _ _ _); (first | refine SLl.pu rfl rfl rfl (Pu.fieldAddr rfl) ?_ | refine SLl.rdSeq rfl rfl (Rd.fieldAddrEl rfl (by (first | exact Len.nil | (apply Len.row; (· (repeat (first | apply Sel.here | apply Sel.there | apply Upd.here | apply Upd.there)))) | (apply Len.rs; exact Rs.mono (by assumption) (by (repeat' (first | exact Ent.refl | exact Ent.drop | exact Ent.appR | apply Ent.skip)))))) (by omega)) ?_))
 | ((show SLl _ _ _ _ _ (⟨⟨_, .indexAddr _ _ _, _, _, _, _⟩, _, _⟩ :: _) _ _ _); (refine SLl.rdSeq rfl rfl (Rd.indexAddr rfl rfl (by (first | exact Len.nil | (apply Len.row; (· (repeat (first | apply Sel.here | apply Sel.there | apply Upd.here | apply Upd.there)))) | (apply Len.rs; exact Rs.mono (by assumption) (by (repeat' (first | exact Ent.refl | exact Ent.drop | exact Ent.appR | apply Ent.skip)))))) (by (first | exact ij0 | exact ij1 | exact ij2 | exact ij3 | exact ij4 | exact ij5 | exact ijs _ | exact ijm _ | rfl | exact (Int.toNat_of_nonneg (by omega)).symm)) (by omega)) ?_))
 | ((show SLl _ _ _ _ _ (⟨⟨_, .call ⟨.builtin .len, _, _⟩, _, _, _, _⟩, _, _⟩ :: _) _ _ _); refine SLl.rdSeq rfl rfl (Rd.len rfl (by (first | exact Len.nil | (apply Len.row; (· (repeat (first | apply Sel.here | apply Sel.there | apply Upd.here | apply Upd.there)))) | (apply Len.rs; exact Rs.mono (by assumption) (by (repeat' (first | exact Ent.refl | exact Ent.drop | exact Ent.appR | apply Ent.skip))))))) ?_)
 | ((show SLl _ _ _ _ _ (⟨⟨_, .binOp _ _ _ _ _, _, _, _, _⟩, _, _⟩ :: _) _ _ _); (first
 | refine SLl.pu rfl rfl rfl (Pu.add rfl rfl (IntWalk.i64_in _ (by omega))) ?_
 | refine SLl.pu rfl rfl rfl (Pu.sub rfl rfl (IntWalk.i64_in _ (by omega))) ?_
 | (refine SLl.cmp rfl rfl rfl rfl rfl rfl ?_ ?_ <;> intro hq <;> simp only [cmpP] at hq <;> try (first
 | exact (hq trivial).elim
 | (exfalso; omega)))
 | refine SLl.pu rfl rfl rfl (Pu.eqNilT rfl rfl) ?_
 | refine SLl.pu rfl rfl rfl (Pu.neNilF rfl rfl) ?_
 | refine SLl.rdSeq rfl rfl (Rd.eqNilF rfl rfl (by (first | exact Len.nil | (apply Len.row; (· (repeat (first | apply Sel.here | apply Sel.there | apply Upd.here | apply Upd.there)))) | (apply Len.rs; exact Rs.mono (by assumption) (by (repeat' (first | exact Ent.refl | exact Ent.drop | exact Ent.appR | apply Ent.skip)))))) (by assumption)) ?_
 | refine SLl.rdSeq rfl rfl (Rd.neNilT rfl rfl (by (first | exact Len.nil | (apply Len.row; (· (repeat (first | apply Sel.here | apply Sel.there | apply Upd.here | apply Upd.there)))) | (apply Len.rs; exact Rs.mono (by assumption) (by (repeat' (first | exact Ent.refl | exact Ent.drop | exact Ent.appR | apply Ent.skip)))))) (by assumption)) ?_
 | refine SLl.pu rfl rfl rfl (Pu.eqPtrNil rfl rfl) ?_
 | refine SLl.pu rfl rfl rfl (Pu.eqBool rfl rfl) ?_
 | refine SLl.pu rfl rfl rfl (Pu.neBool rfl rfl) ?_
 | refine SLl.pu rfl rfl rfl (Pu.nePtrNil rfl rfl) ?_
 | refine SLl.pu rfl rfl rfl (Pu.eqFuncNilF rfl rfl) ?_
 | refine SLl.pu rfl rfl rfl (Pu.eqFuncNilT rfl rfl) ?_))
 | ((show SLl _ _ _ _ _ (⟨⟨_, .store _ _ _, _, _, _, _⟩, _, _⟩ :: _) _ _ _); (first | (refine SLl.seq0 rfl (SLo.store rfl rfl rfl (by (first | exact One.lit rfl | exact One.lit (by assumption) | exact One.mono (by assumption) (by (repeat' (first | exact Ent.refl | exact Ent.drop | exact Ent.appR | apply Ent.skip))) | exact One.len (by (first | exact Len.nil | (apply Len.row; (· (repeat (first | apply Sel.here | apply Sel.there | apply Upd.here | apply Upd.there)))) | (apply Len.rs; exact Rs.mono (by assumption) (by (repeat' (first | exact Ent.refl | exact Ent.drop | exact Ent.appR | apply Ent.skip)))))))) (by (first | (apply Wr.blk; (· (repeat (first | apply Sel.here | apply Sel.there | apply Upd.here | apply Upd.there))); (· exact Nat.le_of_ble_eq_true rfl)) | (apply Wr.row; (· (first | rfl | assumption)); (· exact Nat.le_of_ble_eq_true rfl); (· (repeat (first | apply Sel.here | apply Sel.there | apply Upd.here | apply Upd.there)))))) ?_)) | (refine SLl.seq0 rfl (SLo.storeN rfl rfl rfl (by (repeat' (first | exact trivial | (apply And.intro; (· (first | exact One.lit rfl | exact One.lit (by assumption) | exact One.mono (by assumption) (by (repeat' (first | exact Ent.refl | exact Ent.drop | exact Ent.appR | apply Ent.skip))) | exact One.len (by (first | exact Len.nil | (apply Len.row; (· (repeat (first | apply Sel.here | apply Sel.there | apply Upd.here | apply Upd.there)))) | (apply Len.rs; exact Rs.mono (by assumption) (by (repeat' (first | exact Ent.refl | exact Ent.drop | exact Ent.appR | apply Ent.skip)))))))))))) (Nat.le_of_ble_eq_true rfl) (by (repeat (first | apply Sel.here | apply Sel.there | apply Upd.here | apply Upd.there))) ?_))))
 | ((show SLl _ _ _ _ _ (⟨⟨_, .box _ _, _, _, _, _⟩, _, _⟩ :: _) _ _ _); refine SLl.seq rfl rfl (SLo.boxC rfl (by (first | exact Cel.one (by (first | exact One.lit rfl | exact One.lit (by assumption) | exact One.mono (by assumption) (by (repeat' (first | exact Ent.refl | exact Ent.drop | exact Ent.appR | apply Ent.skip))) | exact One.len (by (first | exact Len.nil | (apply Len.row; (· (repeat (first | apply Sel.here | apply Sel.there | apply Upd.here | apply Upd.there)))) | (apply Len.rs; exact Rs.mono (by assumption) (by (repeat' (first | exact Ent.refl | exact Ent.drop | exact Ent.appR | apply Ent.skip)))))))) | exact Cel.agg)) ?_); intro b)
 | ((show SLl _ _ _ _ _ (⟨⟨_, .alloc _, _, _, _, _⟩, _, _⟩ :: _) _ _ _); refine SLl.seq rfl rfl (SLo.alloc ?_); intro b)
 | ((show SLl _ _ _ _ _ (⟨⟨_, .build _ _, _, _, _, _⟩, _, _⟩ :: _) _ _ _); first
 | refine SLl.rdSeq rfl rfl (Rd.build rfl (by (repeat (first | exact CellsW.nil | (apply CellsW.cons; (· (first | exact Cel.one (by (first | exact One.lit rfl | exact One.lit (by assumption) | exact One.mono (by assumption) (by (repeat' (first | exact Ent.refl | exact Ent.drop | exact Ent.appR | apply Ent.skip))) | exact One.len (by (first | exact Len.nil | (apply Len.row; (· (repeat (first | apply Sel.here | apply Sel.there | apply Upd.here | apply Upd.there)))) | (apply Len.rs; exact Rs.mono (by assumption) (by (repeat' (first | exact Ent.refl | exact Ent.drop | exact Ent.appR | apply Ent.skip)))))))) | exact Cel.agg)))))) (by rfl)) ?_
 | refine SLl.pu rfl rfl rfl (Pu.build rfl rfl) ?_)
 | refine SLl.skip rfl rfl ?_))
 | (first
 | refine SLc.seq ?_
 | refine SLc.region rfl ?_
 | refine SLc.condT rfl ?_
 | refine SLc.condF rfl ?_
 | refine SLc.block ?_
 | refine SLc.skip ?_
 | refine SLc.exit ?_
 | refine SLc.ret ?_)))
    refine SLl.seq rfl rfl (SLo.call plain41 rfl (SLf.mono (Take_at W _ lb sb _ (L' := ⟨true, 1, []⟩) (bv := true) rfl (fun _ => rfl) rfl) ?_))
    rintro v σ ⟨q1, rfl, h1, rfl⟩
    (repeat' (first
 | (first
 | refine SLl.nil ?_
 | ((show SLl _ _ _ _ _ (⟨⟨_, _, _, _, _, _⟩, _, _⟩ :: _) _ _ _); first
 | refine SLl.ev rfl rfl rfl rfl ?_
 | ((show SLl _ _ _ _ _ (⟨⟨_, .load _ _, _, _, _, _⟩, _, _⟩ :: _) _ _ _); (first | refine SLl.rdSeq rfl rfl (Rd.load rfl rfl (by (first | (apply Reads.blk; (· (repeat (first | apply Sel.here | apply Sel.there | apply Upd.here | apply Upd.there))); (· rfl)) | (apply Reads.row; (· (repeat (first | apply Sel.here | apply Sel.there | apply Upd.here | apply Upd.there))); (· (first | rfl | assumption)); (· rfl)) | (apply Reads.rs; (· exact Rs.mono (by assumption) (by (repeat' (first | exact Ent.refl | exact Ent.drop | exact Ent.appR | apply Ent.skip)))); (· (first | rfl | assumption)); (· rfl)) | exact Reads.mono (by assumption) (by (repeat' (first | exact Ent.refl | exact Ent.drop | exact Ent.appR | apply Ent.skip)))))) ?_ | refine SLl.rdSeq rfl rfl (Rd.loadN rfl rfl (by (first | exact ReadsN.mono (by assumption) (by (repeat' (first | exact Ent.refl | exact Ent.drop | exact Ent.appR | apply Ent.skip))) | (apply ReadsN.blk0; (· (repeat (first | apply Sel.here | apply Sel.there | apply Upd.here | apply Upd.there)))) | (apply ReadsN.row0; (· (repeat (first | apply Sel.here | apply Sel.there | apply Upd.here | apply Upd.there))); (· (first | rfl | assumption))) | (apply ReadsN.rs0; (· exact Rs.mono (by assumption) (by (repeat' (first | exact Ent.refl | exact Ent.drop | exact Ent.appR | apply Ent.skip)))); (· (first | rfl | assumption))))) (by rfl)) ?_))
 | ((show SLl _ _ _ _ _ (⟨⟨_, .fieldAddr _ _ _, _, _, _, _⟩, _, _⟩ :: _) _ _ _); (first | refine SLl.pu rfl rfl rfl (Pu.fieldAddr rfl) ?_ | refine SLl.rdSeq rfl rfl (Rd.fieldAddrEl rfl (by (first | exact Len.nil | (apply Len.row; (· (repeat (first | apply Sel.here | apply Sel.there | apply Upd.here | apply Upd.there)))) | (apply Len.rs; exact Rs.mono (by assumption) (by (repeat' (first | exact Ent.refl | exact Ent.drop | exact Ent.appR | apply Ent.skip)))))) (by omega)) ?_))
 | ((show SLl _ _ _ _ _ (⟨⟨_, .indexAddr _ _ _, _, _, _, _⟩, _, _⟩ :: _) _ _ _); (refine SLl.rdSeq rfl rfl (Rd.indexAddr rfl rfl (by (first | exact Len.nil | (apply Len.row; (· (repeat (first | apply Sel.here | apply Sel.there | apply Upd.here | apply Upd.there)))) | (apply Len.rs; exact Rs.mono (by assumption) (by (repeat' (first | exact Ent.refl | exact Ent.drop | exact Ent.appR | apply Ent.skip)))))) (by (first | exact ij0 | exact ij1 | exact ij2 | exact ij3 | exact ij4 | exact ij5 | exact ijs _ | exact ijm _ | rfl | exact (Int.toNat_of_nonneg (by omega)).symm)) (by omega)) ?_))
 | ((show SLl _ _ _ _ _ (⟨⟨_, .call ⟨.builtin .len, _, _⟩, _, _, _, _⟩, _, _⟩ :: _) _ _ _); refine SLl.rdSeq rfl rfl (Rd.len rfl (by (first | exact Len.nil | (apply Len.row; (· (repeat (first | apply Sel.here | apply Sel.there | apply Upd.here | apply Upd.there)))) | (apply Len.rs; exact Rs.mono (by assumption) (by (repeat' (first | exact Ent.refl | exact Ent.drop | exact Ent.appR | apply Ent.skip))))))) ?_)
 | ((show SLl _ _ _ _ _ (⟨⟨_, .binOp _ _ _ _ _, _, _, _, _⟩, _, _⟩ :: _) _ _ _); (first
 | refine SLl.pu rfl rfl rfl (Pu.add rfl rfl (IntWalk.i64_in _ (by omega))) ?_
 | refine SLl.pu rfl rfl rfl (Pu.sub rfl rfl (IntWalk.i64_in _ (by omega))) ?_
 | (refine SLl.cmp rfl rfl rfl rfl rfl rfl ?_ ?_ <;> intro hq <;> simp only [cmpP] at hq <;> try (first
 | exact (hq trivial).elim
 | (exfalso; omega)))
 | refine SLl.pu rfl rfl rfl (Pu.eqNilT rfl rfl) ?_
 | refine SLl.pu rfl rfl rfl (Pu.neNilF rfl rfl) ?_
 | refine SLl.rdSeq rfl rfl (Rd.eqNilF rfl rfl (by (first | exact Len.nil | (apply Len.row; (· (repeat (first | apply Sel.here | apply Sel.there | apply Upd.here | apply Upd.there)))) | (apply Len.rs; exact Rs.mono (by assumption) (by (repeat' (first | exact Ent.refl | exact Ent.drop | exact Ent.appR | apply Ent.skip)))))) (by assumption)) ?_
 | refine SLl.rdSeq rfl rfl (Rd.neNilT rfl rfl (by (first | exact Len.nil | (apply Len.row; (· (repeat (first | apply Sel.here | apply Sel.there | apply Upd.here | apply Upd.there)))) | (apply Len.rs; exact Rs.mono (by assumption) (by (repeat' (first | exact Ent.refl | exact Ent.drop | exact Ent.appR | apply Ent.skip)))))) (by assumption)) ?_
 | refine SLl.pu rfl rfl rfl (Pu.eqPtrNil rfl rfl) ?_
 | refine SLl.pu rfl rfl rfl (Pu.eqBool rfl rfl) ?_
 | refine SLl.pu rfl rfl rfl (Pu.neBool rfl rfl) ?_
 | refine SLl.pu rfl rfl rfl (Pu.nePtrNil rfl rfl) ?_
 | refine SLl.pu rfl rfl rfl (Pu.eqFuncNilF rfl rfl) ?_
 | refine SLl.pu rfl rfl rfl (Pu.eqFuncNilT rfl rfl) ?_))
 | ((show SLl _ _ _ _ _ (⟨⟨_, .store _ _ _, _, _, _, _⟩, _, _⟩ :: _) _ _ _); (first | (refine SLl.seq0 rfl (SLo.store rfl rfl rfl (by (first | exact One.lit rfl | exact One.lit (by assumption) | exact One.mono (by assumption) (by (repeat' (first | exact Ent.refl | exact Ent.drop | exact Ent.appR | apply Ent.skip))) | exact One.len (by (first | exact Len.nil | (apply Len.row; (· (repeat (first | apply Sel.here | apply Sel.there | apply Upd.here | apply Upd.there)))) | (apply Len.rs; exact Rs.mono (by assumption) (by (repeat' (first | exact Ent.refl | exact Ent.drop | exact Ent.appR | apply Ent.skip)))))))) (by (first | (apply Wr.blk; (· (repeat (first | apply Sel.here | apply Sel.there | apply Upd.here | apply Upd.there))); (· exact Nat.le_of_ble_eq_true rfl)) | (apply Wr.row; (· (first | rfl | assumption)); (· exact Nat.le_of_ble_eq_true rfl); (· (repeat (first | apply Sel.here | apply Sel.there | apply Upd.here | apply Upd.there)))))) ?_)) | (refine SLl.seq0 rfl (SLo.storeN rfl rfl rfl (by (repeat' (first | exact trivial | (apply And.intro; (· (first | exact One.lit rfl | exact One.lit (by assumption) | exact One.mono (by assumption) (by (repeat' (first | exact Ent.refl | exact Ent.drop | exact Ent.appR | apply Ent.skip))) | exact One.len (by (first | exact Len.nil | (apply Len.row; (· (repeat (first | apply Sel.here | apply Sel.there | apply Upd.here | apply Upd.there)))) | (apply Len.rs; exact Rs.mono (by assumption) (by (repeat' (first | exact Ent.refl | exact Ent.drop | exact Ent.appR | apply Ent.skip)))))))))))) (Nat.le_of_ble_eq_true rfl) (by (repeat (first | apply Sel.here | apply Sel.there | apply Upd.here | apply Upd.there))) ?_))))
 | ((show SLl _ _ _ _ _ (⟨⟨_, .box _ _, _, _, _, _⟩, _, _⟩ :: _) _ _ _); refine SLl.seq rfl rfl (SLo.boxC rfl (by (first | exact Cel.one (by (first | exact One.lit rfl | exact One.lit (by assumption) | exact One.mono (by assumption) (by (repeat' (first | exact Ent.refl | exact Ent.drop | exact Ent.appR | apply Ent.skip))) | exact One.len (by (first | exact Len.nil | (apply Len.row; (· (repeat (first | apply Sel.here | apply Sel.there | apply Upd.here | apply Upd.there)))) | (apply Len.rs; exact Rs.mono (by assumption) (by (repeat' (first | exact Ent.refl | exact Ent.drop | exact Ent.appR | apply Ent.skip)))))))) | exact Cel.agg)) ?_); intro b)
 | ((show SLl _ _ _ _ _ (⟨⟨_, .alloc _, _, _, _, _⟩, _, _⟩ :: _) _ _ _); refine SLl.seq rfl rfl (SLo.alloc ?_); intro b)
 | ((show SLl _ _ _ _ _ (⟨⟨_, .build _ _, _, _, _, _⟩, _, _⟩ :: _) _ _ _); first
 | refine SLl.rdSeq rfl rfl (Rd.build rfl (by (repeat (first | exact CellsW.nil | (apply CellsW.cons; (· (first | exact Cel.one (by (first | exact One.lit rfl | exact One.lit (by assumption) | exact One.mono (by assumption) (by (repeat' (first | exact Ent.refl | exact Ent.drop | exact Ent.appR | apply Ent.skip))) | exact One.len (by (first | exact Len.nil | (apply Len.row; (· (repeat (first | apply Sel.here | apply Sel.there | apply Upd.here | apply Upd.there)))) | (apply Len.rs; exact Rs.mono (by assumption) (by (repeat' (first | exact Ent.refl | exact Ent.drop | exact Ent.appR | apply Ent.skip)))))))) | exact Cel.agg)))))) (by rfl)) ?_
 | refine SLl.pu rfl rfl rfl (Pu.build rfl rfl) ?_)
 | refine SLl.skip rfl rfl ?_))
 | (first
 | refine SLc.seq ?_
 | refine SLc.region rfl ?_
 | refine SLc.condT rfl ?_
 | refine SLc.condF rfl ?_
 | refine SLc.block ?_
 | refine SLc.skip ?_
 | refine SLc.exit ?_
 | refine SLc.ret ?_)))
    refine SLl.seq rfl rfl (SLo.call plain41 rfl (SLf.mono (Take_at W _ lb sb _ (L' := ⟨true, 1, [2]⟩) (bv := false) rfl h1 rfl) ?_))
    rintro v σ ⟨q2, rfl, h2, rfl⟩
    (repeat' (first
 | (first
 | refine SLl.nil ?_
 | ((show SLl _ _ _ _ _ (⟨⟨_, _, _, _, _, _⟩, _, _⟩ :: _) _ _ _); first
 | refine SLl.ev rfl rfl rfl rfl ?_
 | ((show SLl _ _ _ _ _ (⟨⟨_, .load _ _, _, _, _, _⟩, _, _⟩ :: _) _ _ _); (first | refine SLl.rdSeq rfl rfl (Rd.load rfl rfl (by (first | (apply Reads.blk; (· (repeat (first | apply Sel.here | apply Sel.there | apply Upd.here | apply Upd.there))); (· rfl)) | (apply Reads.row; (· (repeat (first | apply Sel.here | apply Sel.there | apply Upd.here | apply Upd.there))); (· (first | rfl | assumption)); (· rfl)) | (apply Reads.rs; (· exact Rs.mono (by assumption) (by (repeat' (first | exact Ent.refl | exact Ent.drop | exact Ent.appR | apply Ent.skip)))); (· (first | rfl | assumption)); (· rfl)) | exact Reads.mono (by assumption) (by (repeat' (first | exact Ent.refl | exact Ent.drop | exact Ent.appR | apply Ent.skip)))))) ?_ | refine SLl.rdSeq rfl rfl (Rd.loadN rfl rfl (by (first | exact ReadsN.mono (by assumption) (by (repeat' (first | exact Ent.refl | exact Ent.drop | exact Ent.appR | apply Ent.skip))) | (apply ReadsN.blk0; (· (repeat (first | apply Sel.here | apply Sel.there | apply Upd.here | apply Upd.there)))) | (apply ReadsN.row0; (· (repeat (first | apply Sel.here | apply Sel.there | apply Upd.here | apply Upd.there))); (· (first | rfl | assumption))) | (apply ReadsN.rs0; (· exact Rs.mono (by assumption) (by (repeat' (first | exact Ent.refl | exact Ent.drop | exact Ent.appR | apply Ent.skip)))); (· (first | rfl | assumption))))) (by rfl)) ?_))
 | ((show SLl _ _ _ _ _ (⟨⟨_, .fieldAddr _ _ _, _, _, _, _⟩, _, _⟩ :: _) _ _ _); (first | refine SLl.pu rfl rfl rfl (Pu.fieldAddr rfl) ?_ | refine SLl.rdSeq rfl rfl (Rd.fieldAddrEl rfl (by (first | exact Len.nil | (apply Len.row; (· (repeat (first | apply Sel.here | apply Sel.there | apply Upd.here | apply Upd.there)))) | (apply Len.rs; exact Rs.mono (by assumption) (by (repeat' (first | exact Ent.refl | exact Ent.drop | exact Ent.appR | apply Ent.skip)))))) (by omega)) ?_))
 | ((show SLl _ _ _ _ _ (⟨⟨_, .indexAddr _ _ _, _, _, _, _⟩, _, _⟩ :: _) _ _ _); (refine SLl.rdSeq rfl rfl (Rd.indexAddr rfl rfl (by (first | exact Len.nil | (apply Len.row; (· (repeat (first | apply Sel.here | apply Sel.there | apply Upd.here | apply Upd.there)))) | (apply Len.rs; exact Rs.mono (by assumption) (by (repeat' (first | exact Ent.refl | exact Ent.drop | exact Ent.appR | apply Ent.skip)))))) (by (first | exact ij0 | exact ij1 | exact ij2 | exact ij3 | exact ij4 | exact ij5 | exact ijs _ | exact ijm _ | rfl | exact (Int.toNat_of_nonneg (by omega)).symm)) (by omega)) ?_))
 | ((show SLl _ _ _ _ _ (⟨⟨_, .call ⟨.builtin .len, _, _⟩, _, _, _, _⟩, _, _⟩ :: _) _ _ _); refine SLl.rdSeq rfl rfl (Rd.len rfl (by (first | exact Len.nil | (apply Len.row; (· (repeat (first | apply Sel.here | apply Sel.there | apply Upd.here | apply Upd.there)))) | (apply Len.rs; exact Rs.mono (by assumption) (by (repeat' (first | exact Ent.refl | exact Ent.drop | exact Ent.appR | apply Ent.skip))))))) ?_)
 | ((show SLl _ _ _ _ _ (⟨⟨_, .binOp _ _ _ _ _, _, _, _, _⟩, _, _⟩ :: _) _ _ _); (first
 | refine SLl.pu rfl rfl rfl (Pu.add rfl rfl (IntWalk.i64_in _ (by omega))) ?_
 | refine SLl.pu rfl rfl rfl (Pu.sub rfl rfl (IntWalk.i64_in _ (by omega))) ?_
 | (refine SLl.cmp rfl rfl rfl rfl rfl rfl ?_ ?_ <;> intro hq <;> simp only [cmpP] at hq <;> try (first
 | exact (hq trivial).elim
 | (exfalso; omega)))
 | refine SLl.pu rfl rfl rfl (Pu.eqNilT rfl rfl) ?_
 | refine SLl.pu rfl rfl rfl (Pu.neNilF rfl rfl) ?_
 | refine SLl.rdSeq rfl rfl (Rd.eqNilF rfl rfl (by (first | exact Len.nil | (apply Len.row; (· (repeat (first | apply Sel.here | apply Sel.there | apply Upd.here | apply Upd.there)))) | (apply Len.rs; exact Rs.mono (by assumption) (by (repeat' (first | exact Ent.refl | exact Ent.drop | exact Ent.appR | apply Ent.skip)))))) (by assumption)) ?_
 | refine SLl.rdSeq rfl rfl (Rd.neNilT rfl rfl (by (first | exact Len.nil | (apply Len.row; (· (repeat (first | apply Sel.here | apply Sel.there | apply Upd.here | apply Upd.there)))) | (apply Len.rs; exact Rs.mono (by assumption) (by (repeat' (first | exact Ent.refl | exact Ent.drop | exact Ent.appR | apply Ent.skip)))))) (by assumption)) ?_
 | refine SLl.pu rfl rfl rfl (Pu.eqPtrNil rfl rfl) ?_
 | refine SLl.pu rfl rfl rfl (Pu.eqBool rfl rfl) ?_
 | refine SLl.pu rfl rfl rfl (Pu.neBool rfl rfl) ?_
 | refine SLl.pu rfl rfl rfl (Pu.nePtrNil rfl rfl) ?_
 | refine SLl.pu rfl rfl rfl (Pu.eqFuncNilF rfl rfl) ?_
 | refine SLl.pu rfl rfl rfl (Pu.eqFuncNilT rfl rfl) ?_))
 | ((show SLl _ _ _ _ _ (⟨⟨_, .store _ _ _, _, _, _, _⟩, _, _⟩ :: _) _ _ _); (first | (refine SLl.seq0 rfl (SLo.store rfl rfl rfl (by (first | exact One.lit rfl | exact One.lit (by assumption) | exact One.mono (by assumption) (by (repeat' (first | exact Ent.refl | exact Ent.drop | exact Ent.appR | apply Ent.skip))) | exact One.len (by (first | exact Len.nil | (apply Len.row; (· (repeat (first | apply Sel.here | apply Sel.there | apply Upd.here | apply Upd.there)))) | (apply Len.rs; exact Rs.mono (by assumption) (by (repeat' (first | exact Ent.refl | exact Ent.drop | exact Ent.appR | apply Ent.skip)))))))) (by (first | (apply Wr.blk; (· (repeat (first | apply Sel.here | apply Sel.there | apply Upd.here | apply Upd.there))); (· exact Nat.le_of_ble_eq_true rfl)) | (apply Wr.row; (· (first | rfl | assumption)); (· exact Nat.le_of_ble_eq_true rfl); (· (repeat (first | apply Sel.here | apply Sel.there | apply Upd.here | apply Upd.there)))))) ?_)) | (refine SLl.seq0 rfl (SLo.storeN rfl rfl rfl (by (repeat' (first | exact trivial | (apply And.intro; (· (first | exact One.lit rfl | exact One.lit (by assumption) | exact One.mono (by assumption) (by (repeat' (first | exact Ent.refl | exact Ent.drop | exact Ent.appR | apply Ent.skip))) | exact One.len (by (first | exact Len.nil | (apply Len.row; (· (repeat (first | apply Sel.here | apply Sel.there | apply Upd.here | apply Upd.there)))) | (apply Len.rs; exact Rs.mono (by assumption) (by (repeat' (first | exact Ent.refl | exact Ent.drop | exact Ent.appR | apply Ent.skip)))))))))))) (Nat.le_of_ble_eq_true rfl) (by (repeat (first | apply Sel.here | apply Sel.there | apply Upd.here | apply Upd.there))) ?_))))
 | ((show SLl _ _ _ _ _ (⟨⟨_, .box _ _, _, _, _, _⟩, _, _⟩ :: _) _ _ _); refine SLl.seq rfl rfl (SLo.boxC rfl (by (first | exact Cel.one (by (first | exact One.lit rfl | exact One.lit (by assumption) | exact One.mono (by assumption) (by (repeat' (first | exact Ent.refl | exact Ent.drop | exact Ent.appR | apply Ent.skip))) | exact One.len (by (first | exact Len.nil | (apply Len.row; (· (repeat (first | apply Sel.here | apply Sel.there | apply Upd.here | apply Upd.there)))) | (apply Len.rs; exact Rs.mono (by assumption) (by (repeat' (first | exact Ent.refl | exact Ent.drop | exact Ent.appR | apply Ent.skip)))))))) | exact Cel.agg)) ?_); intro b)
 | ((show SLl _ _ _ _ _ (⟨⟨_, .alloc _, _, _, _, _⟩, _, _⟩ :: _) _ _ _); refine SLl.seq rfl rfl (SLo.alloc ?_); intro b)
 | ((show SLl _ _ _ _ _ (⟨⟨_, .build _ _, _, _, _, _⟩, _, _⟩ :: _) _ _ _); first
 | refine SLl.rdSeq rfl rfl (Rd.build rfl (by (repeat (first | exact CellsW.nil | (apply CellsW.cons; (· (first | exact Cel.one (by (first | exact One.lit rfl | exact One.lit (by assumption) | exact One.mono (by assumption) (by (repeat' (first | exact Ent.refl | exact Ent.drop | exact Ent.appR | apply Ent.skip))) | exact One.len (by (first | exact Len.nil | (apply Len.row; (· (repeat (first | apply Sel.here | apply Sel.there | apply Upd.here | apply Upd.there)))) | (apply Len.rs; exact Rs.mono (by assumption) (by (repeat' (first | exact Ent.refl | exact Ent.drop | exact Ent.appR | apply Ent.skip)))))))) | exact Cel.agg)))))) (by rfl)) ?_
 | refine SLl.pu rfl rfl rfl (Pu.build rfl rfl) ?_)
 | refine SLl.skip rfl rfl ?_))
 | (first
 | refine SLc.seq ?_
 | refine SLc.region rfl ?_
 | refine SLc.condT rfl ?_
 | refine SLc.condF rfl ?_
 | refine SLc.block ?_
 | refine SLc.skip ?_
 | refine SLc.exit ?_
 | refine SLc.ret ?_)))
    refine SLl.seq rfl rfl (SLo.call plain39 rfl (SLf.mono (Leave_at W _ lb sb _ pv lv (L' := ⟨true, 2, []⟩) (m' := (wakeM m 2).2) (bv := true) rfl h2 rfl) ?_))
    rintro v σ ⟨q3, rfl, h3, rfl⟩
    generalize (wakeM m 2).2 = m2
    (repeat' (first
 | (first
 | refine SLl.nil ?_
 | ((show SLl _ _ _ _ _ (⟨⟨_, _, _, _, _, _⟩, _, _⟩ :: _) _ _ _); first
 | refine SLl.ev rfl rfl rfl rfl ?_
 | ((show SLl _ _ _ _ _ (⟨⟨_, .load _ _, _, _, _, _⟩, _, _⟩ :: _) _ _ _); (first | refine SLl.rdSeq rfl rfl (Rd.load rfl rfl (by (first | (apply Reads.blk; (· (repeat (first | apply Sel.here | apply Sel.there | apply Upd.here | apply Upd.there))); (· rfl)) | (apply Reads.row; (· (repeat (first | apply Sel.here | apply Sel.there | apply Upd.here | apply Upd.there))); (· (first | rfl | assumption)); (· rfl)) | (apply Reads.rs; (· exact Rs.mono (by assumption) (by (repeat' (first | exact Ent.refl | exact Ent.drop | exact Ent.appR | apply Ent.skip)))); (· (first | rfl | assumption)); (· rfl)) | exact Reads.mono (by assumption) (by (repeat' (first | exact Ent.refl | exact Ent.drop | exact Ent.appR | apply Ent.skip)))))) ?_ | refine SLl.rdSeq rfl rfl (Rd.loadN rfl rfl (by (first | exact ReadsN.mono (by assumption) (by (repeat' (first | exact Ent.refl | exact Ent.drop | exact Ent.appR | apply Ent.skip))) | (apply ReadsN.blk0; (· (repeat (first | apply Sel.here | apply Sel.there | apply Upd.here | apply Upd.there)))) | (apply ReadsN.row0; (· (repeat (first | apply Sel.here | apply Sel.there | apply Upd.here | apply Upd.there))); (· (first | rfl | assumption))) | (apply ReadsN.rs0; (· exact Rs.mono (by assumption) (by (repeat' (first | exact Ent.refl | exact Ent.drop | exact Ent.appR | apply Ent.skip)))); (· (first | rfl | assumption))))) (by rfl)) ?_))
 | ((show SLl _ _ _ _ _ (⟨⟨_, .fieldAddr _ _ _, _, _, _, _⟩, _, _⟩ :: _) _ _ _); (first | refine SLl.pu rfl rfl rfl (Pu.fieldAddr rfl) ?_ | refine SLl.rdSeq rfl rfl (Rd.fieldAddrEl rfl (by (first | exact Len.nil | (apply Len.row; (· (repeat (first | apply Sel.here | apply Sel.there | apply Upd.here | apply Upd.there)))) | (apply Len.rs; exact Rs.mono (by assumption) (by (repeat' (first | exact Ent.refl | exact Ent.drop | exact Ent.appR | apply Ent.skip)))))) (by omega)) ?_))
 | ((show SLl _ _ _ _ _ (⟨⟨_, .indexAddr _ _ _, _, _, _, _⟩, _, _⟩ :: _) _ _ _); (refine SLl.rdSeq rfl rfl (Rd.indexAddr rfl rfl (by (first | exact Len.nil | (apply Len.row; (· (repeat (first | apply Sel.here | apply Sel.there | apply Upd.here | apply Upd.there)))) | (apply Len.rs; exact Rs.mono (by assumption) (by (repeat' (first | exact Ent.refl | exact Ent.drop | exact Ent.appR | apply Ent.skip)))))) (by (first | exact ij0 | exact ij1 | exact ij2 | exact ij3 | exact ij4 | exact ij5 | exact ijs _ | exact ijm _ | rfl | exact (Int.toNat_of_nonneg (by omega)).symm)) (by omega)) ?_))
 | ((show SLl _ _ _ _ _ (⟨⟨_, .call ⟨.builtin .len, _, _⟩, _, _, _, _⟩, _, _⟩ :: _) _ _ _); refine SLl.rdSeq rfl rfl (Rd.len rfl (by (first | exact Len.nil | (apply Len.row; (· (repeat (first | apply Sel.here | apply Sel.there | apply Upd.here | apply Upd.there)))) | (apply Len.rs; exact Rs.mono (by assumption) (by (repeat' (first | exact Ent.refl | exact Ent.drop | exact Ent.appR | apply Ent.skip))))))) ?_)
 | ((show SLl _ _ _ _ _ (⟨⟨_, .binOp _ _ _ _ _, _, _, _, _⟩, _, _⟩ :: _) _ _ _); (first
 | refine SLl.pu rfl rfl rfl (Pu.add rfl rfl (IntWalk.i64_in _ (by omega))) ?_
 | refine SLl.pu rfl rfl rfl (Pu.sub rfl rfl (IntWalk.i64_in _ (by omega))) ?_
 | (refine SLl.cmp rfl rfl rfl rfl rfl rfl ?_ ?_ <;> intro hq <;> simp only [cmpP] at hq <;> try (first
 | exact (hq trivial).elim
 | (exfalso; omega)))
 | refine SLl.pu rfl rfl rfl (Pu.eqNilT rfl rfl) ?_
 | refine SLl.pu rfl rfl rfl (Pu.neNilF rfl rfl) ?_
 | refine SLl.rdSeq rfl rfl (Rd.eqNilF rfl rfl (by (first | exact Len.nil | (apply Len.row; (· (repeat (first | apply Sel.here | apply Sel.there | apply Upd.here | apply Upd.there)))) | (apply Len.rs; exact Rs.mono (by assumption) (by (repeat' (first | exact Ent.refl | exact Ent.drop | exact Ent.appR | apply Ent.skip)))))) (by assumption)) ?_
 | refine SLl.rdSeq rfl rfl (Rd.neNilT rfl rfl (by (first | exact Len.nil | (apply Len.row; (· (repeat (first | apply Sel.here | apply Sel.there | apply Upd.here | apply Upd.there)))) | (apply Len.rs; exact Rs.mono (by assumption) (by (repeat' (first | exact Ent.refl | exact Ent.drop | exact Ent.appR | apply Ent.skip)))))) (by assumption)) ?_
 | refine SLl.pu rfl rfl rfl (Pu.eqPtrNil rfl rfl) ?_
 | refine SLl.pu rfl rfl rfl (Pu.eqBool rfl rfl) ?_
 | refine SLl.pu rfl rfl rfl (Pu.neBool rfl rfl) ?_
 | refine SLl.pu rfl rfl rfl (Pu.nePtrNil rfl rfl) ?_
 | refine SLl.pu rfl rfl rfl (Pu.eqFuncNilF rfl rfl) ?_
 | refine SLl.pu rfl rfl rfl (Pu.eqFuncNilT rfl rfl) ?_))
 | ((show SLl _ _ _ _ _ (⟨⟨_, .store _ _ _, _, _, _, _⟩, _, _⟩ :: _) _ _ _); (first | (refine SLl.seq0 rfl (SLo.store rfl rfl rfl (by (first | exact One.lit rfl | exact One.lit (by assumption) | exact One.mono (by assumption) (by (repeat' (first | exact Ent.refl | exact Ent.drop | exact Ent.appR | apply Ent.skip))) | exact One.len (by (first | exact Len.nil | (apply Len.row; (· (repeat (first | apply Sel.here | apply Sel.there | apply Upd.here | apply Upd.there)))) | (apply Len.rs; exact Rs.mono (by assumption) (by (repeat' (first | exact Ent.refl | exact Ent.drop | exact Ent.appR | apply Ent.skip)))))))) (by (first | (apply Wr.blk; (· (repeat (first | apply Sel.here | apply Sel.there | apply Upd.here | apply Upd.there))); (· exact Nat.le_of_ble_eq_true rfl)) | (apply Wr.row; (· (first | rfl | assumption)); (· exact Nat.le_of_ble_eq_true rfl); (· (repeat (first | apply Sel.here | apply Sel.there | apply Upd.here | apply Upd.there)))))) ?_)) | (refine SLl.seq0 rfl (SLo.storeN rfl rfl rfl (by (repeat' (first | exact trivial | (apply And.intro; (· (first | exact One.lit rfl | exact One.lit (by assumption) | exact One.mono (by assumption) (by (repeat' (first | exact Ent.refl | exact Ent.drop | exact Ent.appR | apply Ent.skip))) | exact One.len (by (first | exact Len.nil | (apply Len.row; (· (repeat (first | apply Sel.here | apply Sel.there | apply Upd.here | apply Upd.there)))) | (apply Len.rs; exact Rs.mono (by assumption) (by (repeat' (first | exact Ent.refl | exact Ent.drop | exact Ent.appR | apply Ent.skip)))))))))))) (Nat.le_of_ble_eq_true rfl) (by (repeat (first | apply Sel.here | apply Sel.there | apply Upd.here | apply Upd.there))) ?_))))
 | ((show SLl _ _ _ _ _ (⟨⟨_, .box _ _, _, _, _, _⟩, _, _⟩ :: _) _ _ _); refine SLl.seq rfl rfl (SLo.boxC rfl (by (first | exact Cel.one (by (first | exact One.lit rfl | exact One.lit (by assumption) | exact One.mono (by assumption) (by (repeat' (first | exact Ent.refl | exact Ent.drop | exact Ent.appR | apply Ent.skip))) | exact One.len (by (first | exact Len.nil | (apply Len.row; (· (repeat (first | apply Sel.here | apply Sel.there | apply Upd.here | apply Upd.there)))) | (apply Len.rs; exact Rs.mono (by assumption) (by (repeat' (first | exact Ent.refl | exact Ent.drop | exact Ent.appR | apply Ent.skip)))))))) | exact Cel.agg)) ?_); intro b)
 | ((show SLl _ _ _ _ _ (⟨⟨_, .alloc _, _, _, _, _⟩, _, _⟩ :: _) _ _ _); refine SLl.seq rfl rfl (SLo.alloc ?_); intro b)
 | ((show SLl _ _ _ _ _ (⟨⟨_, .build _ _, _, _, _, _⟩, _, _⟩ :: _) _ _ _); first
 | refine SLl.rdSeq rfl rfl (Rd.build rfl (by (repeat (first | exact CellsW.nil | (apply CellsW.cons; (· (first | exact Cel.one (by (first | exact One.lit rfl | exact One.lit (by assumption) | exact One.mono (by assumption) (by (repeat' (first | exact Ent.refl | exact Ent.drop | exact Ent.appR | apply Ent.skip))) | exact One.len (by (first | exact Len.nil | (apply Len.row; (· (repeat (first | apply Sel.here | apply Sel.there | apply Upd.here | apply Upd.there)))) | (apply Len.rs; exact Rs.mono (by assumption) (by (repeat' (first | exact Ent.refl | exact Ent.drop | exact Ent.appR | apply Ent.skip)))))))) | exact Cel.agg)))))) (by rfl)) ?_
 | refine SLl.pu rfl rfl rfl (Pu.build rfl rfl) ?_)
 | refine SLl.skip rfl rfl ?_))
 | (first
 | refine SLc.seq ?_
 | refine SLc.region rfl ?_
 | refine SLc.condT rfl ?_
 | refine SLc.condF rfl ?_
 | refine SLc.block ?_
 | refine SLc.skip ?_
 | refine SLc.exit ?_
 | refine SLc.ret ?_)))
    refine SLl.seq rfl rfl (SLo.call plain40 rfl (SLf.mono (Owner_ok W _ lb sb q3 ⟨true, 2, []⟩) ?_))
    rintro v σ ⟨rfl, rfl⟩
    have ho : ownerM ⟨true, 2, []⟩ = 2 := rfl
    rw [ho]
    (repeat' (first
 | (first
 | refine SLl.nil ?_
 | ((show SLl _ _ _ _ _ (⟨⟨_, _, _, _, _, _⟩, _, _⟩ :: _) _ _ _); first
 | refine SLl.ev rfl rfl rfl rfl ?_
 | ((show SLl _ _ _ _ _ (⟨⟨_, .load _ _, _, _, _, _⟩, _, _⟩ :: _) _ _ _); (first | refine SLl.rdSeq rfl rfl (Rd.load rfl rfl (by (first | (apply Reads.blk; (· (repeat (first | apply Sel.here | apply Sel.there | apply Upd.here | apply Upd.there))); (· rfl)) | (apply Reads.row; (· (repeat (first | apply Sel.here | apply Sel.there | apply Upd.here | apply Upd.there))); (· (first | rfl | assumption)); (· rfl)) | (apply Reads.rs; (· exact Rs.mono (by assumption) (by (repeat' (first | exact Ent.refl | exact Ent.drop | exact Ent.appR | apply Ent.skip)))); (· (first | rfl | assumption)); (· rfl)) | exact Reads.mono (by assumption) (by (repeat' (first | exact Ent.refl | exact Ent.drop | exact Ent.appR | apply Ent.skip)))))) ?_ | refine SLl.rdSeq rfl rfl (Rd.loadN rfl rfl (by (first | exact ReadsN.mono (by assumption) (by (repeat' (first | exact Ent.refl | exact Ent.drop | exact Ent.appR | apply Ent.skip))) | (apply ReadsN.blk0; (· (repeat (first | apply Sel.here | apply Sel.there | apply Upd.here | apply Upd.there)))) | (apply ReadsN.row0; (· (repeat (first | apply Sel.here | apply Sel.there | apply Upd.here | apply Upd.there))); (· (first | rfl | assumption))) | (apply ReadsN.rs0; (· exact Rs.mono (by assumption) (by (repeat' (first | exact Ent.refl | exact Ent.drop | exact Ent.appR | apply Ent.skip)))); (· (first | rfl | assumption))))) (by rfl)) ?_))
 | ((show SLl _ _ _ _ _ (⟨⟨_, .fieldAddr _ _ _, _, _, _, _⟩, _, _⟩ :: _) _ _ _); (first | refine SLl.pu rfl rfl rfl (Pu.fieldAddr rfl) ?_ | refine SLl.rdSeq rfl rfl (Rd.fieldAddrEl rfl (by (first | exact Len.nil | (apply Len.row; (· (repeat (first | apply Sel.here | apply Sel.there | apply Upd.here | apply Upd.there)))) | (apply Len.rs; exact Rs.mono (by assumption) (by (repeat' (first | exact Ent.refl | exact Ent.drop | exact Ent.appR | apply Ent.skip)))))) (by omega)) ?_))
 | ((show SLl _ _ _ _ _ (⟨⟨_, .indexAddr _ _ _, _, _, _, _⟩, _, _⟩ :: _) _ _ _); (refine SLl.rdSeq rfl rfl (Rd.indexAddr rfl rfl (by (first | exact Len.nil | (apply Len.row; (· (repeat (first | apply Sel.here | apply Sel.there | apply Upd.here | apply Upd.there)))) | (apply Len.rs; exact Rs.mono (by assumption) (by (repeat' (first | exact Ent.refl | exact Ent.drop | exact Ent.appR | apply Ent.skip)))))) (by (first | exact ij0 | exact ij1 | exact ij2 | exact ij3 | exact ij4 | exact ij5 | exact ijs _ | exact ijm _ | rfl | exact (Int.toNat_of_nonneg (by omega)).symm)) (by omega)) ?_))
 | ((show SLl _ _ _ _ _ (⟨⟨_, .call ⟨.builtin .len, _, _⟩, _, _, _, _⟩, _, _⟩ :: _) _ _ _); refine SLl.rdSeq rfl rfl (Rd.len rfl (by (first | exact Len.nil | (apply Len.row; (· (repeat (first | apply Sel.here | apply Sel.there | apply Upd.here | apply Upd.there)))) | (apply Len.rs; exact Rs.mono (by assumption) (by (repeat' (first | exact Ent.refl | exact Ent.drop | exact Ent.appR | apply Ent.skip))))))) ?_)
 | ((show SLl _ _ _ _ _ (⟨⟨_, .binOp _ _ _ _ _, _, _, _, _⟩, _, _⟩ :: _) _ _ _); (first
 | refine SLl.pu rfl rfl rfl (Pu.add rfl rfl (IntWalk.i64_in _ (by omega))) ?_
 | refine SLl.pu rfl rfl rfl (Pu.sub rfl rfl (IntWalk.i64_in _ (by omega))) ?_
 | (refine SLl.cmp rfl rfl rfl rfl rfl rfl ?_ ?_ <;> intro hq <;> simp only [cmpP] at hq <;> try (first
 | exact (hq trivial).elim
 | (exfalso; omega)))
 | refine SLl.pu rfl rfl rfl (Pu.eqNilT rfl rfl) ?_
 | refine SLl.pu rfl rfl rfl (Pu.neNilF rfl rfl) ?_
 | refine SLl.rdSeq rfl rfl (Rd.eqNilF rfl rfl (by (first | exact Len.nil | (apply Len.row; (· (repeat (first | apply Sel.here | apply Sel.there | apply Upd.here | apply Upd.there)))) | (apply Len.rs; exact Rs.mono (by assumption) (by (repeat' (first | exact Ent.refl | exact Ent.drop | exact Ent.appR | apply Ent.skip)))))) (by assumption)) ?_
 | refine SLl.rdSeq rfl rfl (Rd.neNilT rfl rfl (by (first | exact Len.nil | (apply Len.row; (· (repeat (first | apply Sel.here | apply Sel.there | apply Upd.here | apply Upd.there)))) | (apply Len.rs; exact Rs.mono (by assumption) (by (repeat' (first | exact Ent.refl | exact Ent.drop | exact Ent.appR | apply Ent.skip)))))) (by assumption)) ?_
 | refine SLl.pu rfl rfl rfl (Pu.eqPtrNil rfl rfl) ?_
 | refine SLl.pu rfl rfl rfl (Pu.eqBool rfl rfl) ?_
 | refine SLl.pu rfl rfl rfl (Pu.neBool rfl rfl) ?_
 | refine SLl.pu rfl rfl rfl (Pu.nePtrNil rfl rfl) ?_
 | refine SLl.pu rfl rfl rfl (Pu.eqFuncNilF rfl rfl) ?_
 | refine SLl.pu rfl rfl rfl (Pu.eqFuncNilT rfl rfl) ?_))
 | ((show SLl _ _ _ _ _ (⟨⟨_, .store _ _ _, _, _, _, _⟩, _, _⟩ :: _) _ _ _); (first | (refine SLl.seq0 rfl (SLo.store rfl rfl rfl (by (first | exact One.lit rfl | exact One.lit (by assumption) | exact One.mono (by assumption) (by (repeat' (first | exact Ent.refl | exact Ent.drop | exact Ent.appR | apply Ent.skip))) | exact One.len (by (first | exact Len.nil | (apply Len.row; (· (repeat (first | apply Sel.here | apply Sel.there | apply Upd.here | apply Upd.there)))) | (apply Len.rs; exact Rs.mono (by assumption) (by (repeat' (first | exact Ent.refl | exact Ent.drop | exact Ent.appR | apply Ent.skip)))))))) (by (first | (apply Wr.blk; (· (repeat (first | apply Sel.here | apply Sel.there | apply Upd.here | apply Upd.there))); (· exact Nat.le_of_ble_eq_true rfl)) | (apply Wr.row; (· (first | rfl | assumption)); (· exact Nat.le_of_ble_eq_true rfl); (· (repeat (first | apply Sel.here | apply Sel.there | apply Upd.here | apply Upd.there)))))) ?_)) | (refine SLl.seq0 rfl (SLo.storeN rfl rfl rfl (by (repeat' (first | exact trivial | (apply And.intro; (· (first | exact One.lit rfl | exact One.lit (by assumption) | exact One.mono (by assumption) (by (repeat' (first | exact Ent.refl | exact Ent.drop | exact Ent.appR | apply Ent.skip))) | exact One.len (by (first | exact Len.nil | (apply Len.row; (· (repeat (first | apply Sel.here | apply Sel.there | apply Upd.here | apply Upd.there)))) | (apply Len.rs; exact Rs.mono (by assumption) (by (repeat' (first | exact Ent.refl | exact Ent.drop | exact Ent.appR | apply Ent.skip)))))))))))) (Nat.le_of_ble_eq_true rfl) (by (repeat (first | apply Sel.here | apply Sel.there | apply Upd.here | apply Upd.there))) ?_))))
 | ((show SLl _ _ _ _ _ (⟨⟨_, .box _ _, _, _, _, _⟩, _, _⟩ :: _) _ _ _); refine SLl.seq rfl rfl (SLo.boxC rfl (by (first | exact Cel.one (by (first | exact One.lit rfl | exact One.lit (by assumption) | exact One.mono (by assumption) (by (repeat' (first | exact Ent.refl | exact Ent.drop | exact Ent.appR | apply Ent.skip))) | exact One.len (by (first | exact Len.nil | (apply Len.row; (· (repeat (first | apply Sel.here | apply Sel.there | apply Upd.here | apply Upd.there)))) | (apply Len.rs; exact Rs.mono (by assumption) (by (repeat' (first | exact Ent.refl | exact Ent.drop | exact Ent.appR | apply Ent.skip)))))))) | exact Cel.agg)) ?_); intro b)
 | ((show SLl _ _ _ _ _ (⟨⟨_, .alloc _, _, _, _, _⟩, _, _⟩ :: _) _ _ _); refine SLl.seq rfl rfl (SLo.alloc ?_); intro b)
 | ((show SLl _ _ _ _ _ (⟨⟨_, .build _ _, _, _, _, _⟩, _, _⟩ :: _) _ _ _); first
 | refine SLl.rdSeq rfl rfl (Rd.build rfl (by (repeat (first | exact CellsW.nil | (apply CellsW.cons; (· (first | exact Cel.one (by (first | exact One.lit rfl | exact One.lit (by assumption) | exact One.mono (by assumption) (by (repeat' (first | exact Ent.refl | exact Ent.drop | exact Ent.appR | apply Ent.skip))) | exact One.len (by (first | exact Len.nil | (apply Len.row; (· (repeat (first | apply Sel.here | apply Sel.there | apply Upd.here | apply Upd.there)))) | (apply Len.rs; exact Rs.mono (by assumption) (by (repeat' (first | exact Ent.refl | exact Ent.drop | exact Ent.appR | apply Ent.skip)))))))) | exact Cel.agg)))))) (by rfl)) ?_
 | refine SLl.pu rfl rfl rfl (Pu.build rfl rfl) ?_)
 | refine SLl.skip rfl rfl ?_))
 | (first
 | refine SLc.seq ?_
 | refine SLc.region rfl ?_
 | refine SLc.condT rfl ?_
 | refine SLc.condF rfl ?_
 | refine SLc.block ?_
 | refine SLc.skip ?_
 | refine SLc.exit ?_
 | refine SLc.ret ?_)))
    refine SLl.seq rfl rfl (SLo.call plain42 rfl (SLf.mono (Queue_ok W _ lb sb q3 ⟨true, 2, []⟩ h3 (Nat.zero_le _)) ?_))
    rintro qv σ rfl
    have hi0 : (ints []).length = 0 := rfl
    (repeat' (first
 | (first
 | refine SLl.nil ?_
 | ((show SLl _ _ _ _ _ (⟨⟨_, _, _, _, _, _⟩, _, _⟩ :: _) _ _ _); first
 | refine SLl.ev rfl rfl rfl rfl ?_
 | ((show SLl _ _ _ _ _ (⟨⟨_, .load _ _, _, _, _, _⟩, _, _⟩ :: _) _ _ _); (first | refine SLl.rdSeq rfl rfl (Rd.load rfl rfl (by (first | (apply Reads.blk; (· (repeat (first | apply Sel.here | apply Sel.there | apply Upd.here | apply Upd.there))); (· rfl)) | (apply Reads.row; (· (repeat (first | apply Sel.here | apply Sel.there | apply Upd.here | apply Upd.there))); (· (first | rfl | assumption)); (· rfl)) | (apply Reads.rs; (· exact Rs.mono (by assumption) (by (repeat' (first | exact Ent.refl | exact Ent.drop | exact Ent.appR | apply Ent.skip)))); (· (first | rfl | assumption)); (· rfl)) | exact Reads.mono (by assumption) (by (repeat' (first | exact Ent.refl | exact Ent.drop | exact Ent.appR | apply Ent.skip)))))) ?_ | refine SLl.rdSeq rfl rfl (Rd.loadN rfl rfl (by (first | exact ReadsN.mono (by assumption) (by (repeat' (first | exact Ent.refl | exact Ent.drop | exact Ent.appR | apply Ent.skip))) | (apply ReadsN.blk0; (· (repeat (first | apply Sel.here | apply Sel.there | apply Upd.here | apply Upd.there)))) | (apply ReadsN.row0; (· (repeat (first | apply Sel.here | apply Sel.there | apply Upd.here | apply Upd.there))); (· (first | rfl | assumption))) | (apply ReadsN.rs0; (· exact Rs.mono (by assumption) (by (repeat' (first | exact Ent.refl | exact Ent.drop | exact Ent.appR | apply Ent.skip)))); (· (first | rfl | assumption))))) (by rfl)) ?_))
 | ((show SLl _ _ _ _ _ (⟨⟨_, .fieldAddr _ _ _, _, _, _, _⟩, _, _⟩ :: _) _ _ _); (first | refine SLl.pu rfl rfl rfl (Pu.fieldAddr rfl) ?_ | refine SLl.rdSeq rfl rfl (Rd.fieldAddrEl rfl (by (first | exact Len.nil | (apply Len.row; (· (repeat (first | apply Sel.here | apply Sel.there | apply Upd.here | apply Upd.there)))) | (apply Len.rs; exact Rs.mono (by assumption) (by (repeat' (first | exact Ent.refl | exact Ent.drop | exact Ent.appR | apply Ent.skip)))))) (by omega)) ?_))
 | ((show SLl _ _ _ _ _ (⟨⟨_, .indexAddr _ _ _, _, _, _, _⟩, _, _⟩ :: _) _ _ _); (refine SLl.rdSeq rfl rfl (Rd.indexAddr rfl rfl (by (first | exact Len.nil | (apply Len.row; (· (repeat (first | apply Sel.here | apply Sel.there | apply Upd.here | apply Upd.there)))) | (apply Len.rs; exact Rs.mono (by assumption) (by (repeat' (first | exact Ent.refl | exact Ent.drop | exact Ent.appR | apply Ent.skip)))))) (by (first | exact ij0 | exact ij1 | exact ij2 | exact ij3 | exact ij4 | exact ij5 | exact ijs _ | exact ijm _ | rfl | exact (Int.toNat_of_nonneg (by omega)).symm)) (by omega)) ?_))
 | ((show SLl _ _ _ _ _ (⟨⟨_, .call ⟨.builtin .len, _, _⟩, _, _, _, _⟩, _, _⟩ :: _) _ _ _); refine SLl.rdSeq rfl rfl (Rd.len rfl (by (first | exact Len.nil | (apply Len.row; (· (repeat (first | apply Sel.here | apply Sel.there | apply Upd.here | apply Upd.there)))) | (apply Len.rs; exact Rs.mono (by assumption) (by (repeat' (first | exact Ent.refl | exact Ent.drop | exact Ent.appR | apply Ent.skip))))))) ?_)
 | ((show SLl _ _ _ _ _ (⟨⟨_, .binOp _ _ _ _ _, _, _, _, _⟩, _, _⟩ :: _) _ _ _); (first
 | refine SLl.pu rfl rfl rfl (Pu.add rfl rfl (IntWalk.i64_in _ (by omega))) ?_
 | refine SLl.pu rfl rfl rfl (Pu.sub rfl rfl (IntWalk.i64_in _ (by omega))) ?_
 | (refine SLl.cmp rfl rfl rfl rfl rfl rfl ?_ ?_ <;> intro hq <;> simp only [cmpP] at hq <;> try (first
 | exact (hq trivial).elim
 | (exfalso; omega)))
 | refine SLl.pu rfl rfl rfl (Pu.eqNilT rfl rfl) ?_
 | refine SLl.pu rfl rfl rfl (Pu.neNilF rfl rfl) ?_
 | refine SLl.rdSeq rfl rfl (Rd.eqNilF rfl rfl (by (first | exact Len.nil | (apply Len.row; (· (repeat (first | apply Sel.here | apply Sel.there | apply Upd.here | apply Upd.there)))) | (apply Len.rs; exact Rs.mono (by assumption) (by (repeat' (first | exact Ent.refl | exact Ent.drop | exact Ent.appR | apply Ent.skip)))))) (by assumption)) ?_
 | refine SLl.rdSeq rfl rfl (Rd.neNilT rfl rfl (by (first | exact Len.nil | (apply Len.row; (· (repeat (first | apply Sel.here | apply Sel.there | apply Upd.here | apply Upd.there)))) | (apply Len.rs; exact Rs.mono (by assumption) (by (repeat' (first | exact Ent.refl | exact Ent.drop | exact Ent.appR | apply Ent.skip)))))) (by assumption)) ?_
 | refine SLl.pu rfl rfl rfl (Pu.eqPtrNil rfl rfl) ?_
 | refine SLl.pu rfl rfl rfl (Pu.eqBool rfl rfl) ?_
 | refine SLl.pu rfl rfl rfl (Pu.neBool rfl rfl) ?_
 | refine SLl.pu rfl rfl rfl (Pu.nePtrNil rfl rfl) ?_
 | refine SLl.pu rfl rfl rfl (Pu.eqFuncNilF rfl rfl) ?_
 | refine SLl.pu rfl rfl rfl (Pu.eqFuncNilT rfl rfl) ?_))
 | ((show SLl _ _ _ _ _ (⟨⟨_, .store _ _ _, _, _, _, _⟩, _, _⟩ :: _) _ _ _); (first | (refine SLl.seq0 rfl (SLo.store rfl rfl rfl (by (first | exact One.lit rfl | exact One.lit (by assumption) | exact One.mono (by assumption) (by (repeat' (first | exact Ent.refl | exact Ent.drop | exact Ent.appR | apply Ent.skip))) | exact One.len (by (first | exact Len.nil | (apply Len.row; (· (repeat (first | apply Sel.here | apply Sel.there | apply Upd.here | apply Upd.there)))) | (apply Len.rs; exact Rs.mono (by assumption) (by (repeat' (first | exact Ent.refl | exact Ent.drop | exact Ent.appR | apply Ent.skip)))))))) (by (first | (apply Wr.blk; (· (repeat (first | apply Sel.here | apply Sel.there | apply Upd.here | apply Upd.there))); (· exact Nat.le_of_ble_eq_true rfl)) | (apply Wr.row; (· (first | rfl | assumption)); (· exact Nat.le_of_ble_eq_true rfl); (· (repeat (first | apply Sel.here | apply Sel.there | apply Upd.here | apply Upd.there)))))) ?_)) | (refine SLl.seq0 rfl (SLo.storeN rfl rfl rfl (by (repeat' (first | exact trivial | (apply And.intro; (· (first | exact One.lit rfl | exact One.lit (by assumption) | exact One.mono (by assumption) (by (repeat' (first | exact Ent.refl | exact Ent.drop | exact Ent.appR | apply Ent.skip))) | exact One.len (by (first | exact Len.nil | (apply Len.row; (· (repeat (first | apply Sel.here | apply Sel.there | apply Upd.here | apply Upd.there)))) | (apply Len.rs; exact Rs.mono (by assumption) (by (repeat' (first | exact Ent.refl | exact Ent.drop | exact Ent.appR | apply Ent.skip)))))))))))) (Nat.le_of_ble_eq_true rfl) (by (repeat (first | apply Sel.here | apply Sel.there | apply Upd.here | apply Upd.there))) ?_))))
 | ((show SLl _ _ _ _ _ (⟨⟨_, .box _ _, _, _, _, _⟩, _, _⟩ :: _) _ _ _); refine SLl.seq rfl rfl (SLo.boxC rfl (by (first | exact Cel.one (by (first | exact One.lit rfl | exact One.lit (by assumption) | exact One.mono (by assumption) (by (repeat' (first | exact Ent.refl | exact Ent.drop | exact Ent.appR | apply Ent.skip))) | exact One.len (by (first | exact Len.nil | (apply Len.row; (· (repeat (first | apply Sel.here | apply Sel.there | apply Upd.here | apply Upd.there)))) | (apply Len.rs; exact Rs.mono (by assumption) (by (repeat' (first | exact Ent.refl | exact Ent.drop | exact Ent.appR | apply Ent.skip)))))))) | exact Cel.agg)) ?_); intro b)
 | ((show SLl _ _ _ _ _ (⟨⟨_, .alloc _, _, _, _, _⟩, _, _⟩ :: _) _ _ _); refine SLl.seq rfl rfl (SLo.alloc ?_); intro b)
 | ((show SLl _ _ _ _ _ (⟨⟨_, .build _ _, _, _, _, _⟩, _, _⟩ :: _) _ _ _); first
 | refine SLl.rdSeq rfl rfl (Rd.build rfl (by (repeat (first | exact CellsW.nil | (apply CellsW.cons; (· (first | exact Cel.one (by (first | exact One.lit rfl | exact One.lit (by assumption) | exact One.mono (by assumption) (by (repeat' (first | exact Ent.refl | exact Ent.drop | exact Ent.appR | apply Ent.skip))) | exact One.len (by (first | exact Len.nil | (apply Len.row; (· (repeat (first | apply Sel.here | apply Sel.there | apply Upd.here | apply Upd.there)))) | (apply Len.rs; exact Rs.mono (by assumption) (by (repeat' (first | exact Ent.refl | exact Ent.drop | exact Ent.appR | apply Ent.skip)))))))) | exact Cel.agg)))))) (by rfl)) ?_
 | refine SLl.pu rfl rfl rfl (Pu.build rfl rfl) ?_)
 | refine SLl.skip rfl rfl ?_))
 | (first
 | refine SLc.seq ?_
 | refine SLc.region rfl ?_
 | refine SLc.condT rfl ?_
 | refine SLc.condF rfl ?_
 | refine SLc.block ?_
 | refine SLc.skip ?_
 | refine SLc.exit ?_
 | refine SLc.ret ?_)))
    refine And.intro rfl (Exists.intro _ (Exists.intro F (And.intro rfl (And.intro (.skip (.trans .appR .appR)) (And.intro rfl rfl)))))
end Go.Sl
