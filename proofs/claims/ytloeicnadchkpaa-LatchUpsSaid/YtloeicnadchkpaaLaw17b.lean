/- backstitchlaw17.LatchUps: the walk. -/
import Derived.Test.YtloeicnadchkpaaLaw17a
namespace Go.Sl
open Go.Proofs
attribute [local irreducible] SLc SLl SLo SLf Pu Rd

/-- The one task, before and behind its waking. -/
def oneW : Sch := staysW 74 1
def oneR : Sch := ⟨[], [wokenT (stayW 74)], 1, -1, false⟩
theorem oneW_ok : SchOk oneW := ⟨fun t ht => by simp only [oneW, staysW, List.mem_replicate] at ht; obtain ⟨_, rfl⟩ := ht; rfl, Nat.le_of_ble_eq_true rfl⟩
theorem oneR_ok : SchOk oneR := ⟨fun t ht => by simp only [oneR, List.mem_singleton] at ht; subst ht; rfl, Nat.le_of_ble_eq_true rfl⟩
theorem oneW_waits : waitN oneW = [0] := rfl
theorem oneR_waits : waitN oneR = [] := rfl
def upsQ (j : Int) : List Int := if j < 0 then [] else [0]
def upsM (j : Int) : Sch := if j < 0 then oneR else oneW
theorem downUps {j : Int} (hj : 0 ≤ j) : downM ⟨j + 1, [0]⟩ oneW = (j, ⟨j, upsQ (j - 1)⟩, upsM (j - 1)) := by
  by_cases h : j = 0
  · subst h; rfl
  · have h1 : ¬ j + 1 = 0 := by omega
    have h2 : 1 < j + 1 := by omega
    have h3 : ¬ j - 1 < 0 := by omega
    have h4 : j + 1 - 1 = j := by omega
    simp [downM, upsQ, upsM, h1, h2, h3, h4]
set_option maxHeartbeats 1000000 in
theorem Ups17 (W : World) (n : Nat) (uv : Value) (U : List Nat) (hn : n < 256) (hu : Rs W [] uv 1 (u8L U)) (hU : ∀ x ∈ U, x < 256) (hUl : U.length ≤ 140737488355328) : SLf Try.prog W 24 [.int .u8 (n : Int), uv] [] (fun v _ => v = .bool true) := by
  have hul := @u8L_len U
  refine SLf.enter Try.func24 rfl (Nat.le_of_ble_eq_true rfl) ?_
  (repeat' (first
 | (first
 | refine SLl.nil ?_
 | ((show SLl _ _ _ _ _ (⟨⟨_, _, _, _, _, _⟩, _, _⟩ :: _) _ _ _); first
 | refine SLl.ev rfl rfl rfl rfl ?_
 | ((show SLl _ _ _ _ _ (⟨⟨_, .load _ _, _, _, _, _⟩, _, _⟩ :: _) _ _ _); (first | refine SLl.rdSeq rfl rfl (Rd.load rfl rfl (by (first | (apply Reads.blk; (· (repeat (first | apply Sel.here | apply Sel.there | apply Upd.here | apply Upd.there))); (· rfl)) | (apply Reads.row; (· (repeat (first | apply Sel.here | apply Sel.there | apply Upd.here | apply Upd.there))); (· (first | rfl | assumption)); (· rfl)) | (apply Reads.rs; (· exact Rs.mono (by assumption) (by (repeat' (first | exact Ent.refl | exact Ent.drop | exact Ent.appR | apply Ent.skip)))); (· (first | rfl | assumption)); (· rfl)) | exact Reads.mono (by assumption) (by (repeat' (first | exact Ent.refl | exact Ent.drop | exact Ent.appR | apply Ent.skip)))))) ?_ | refine SLl.rdSeq rfl rfl (Rd.loadN rfl rfl (by (first | exact ReadsN.mono (by assumption) (by (repeat' (first | exact Ent.refl | exact Ent.drop | exact Ent.appR | apply Ent.skip))) | (apply ReadsN.blk0; (· (repeat (first | apply Sel.here | apply Sel.there | apply Upd.here | apply Upd.there)))) | (apply ReadsN.row0; (· (repeat (first | apply Sel.here | apply Sel.there | apply Upd.here | apply Upd.there))); (· (first | rfl | assumption))) | (apply ReadsN.rs0; (· exact Rs.mono (by assumption) (by (repeat' (first | exact Ent.refl | exact Ent.drop | exact Ent.appR | apply Ent.skip)))); (· (first | rfl | assumption))))) (by rfl)) ?_))
 | ((show SLl _ _ _ _ _ (⟨⟨_, .fieldAddr _ _ _, _, _, _, _⟩, _, _⟩ :: _) _ _ _); (first | refine SLl.pu rfl rfl rfl (Pu.fieldAddr rfl) ?_ | refine SLl.rdSeq rfl rfl (Rd.fieldAddrEl rfl (by (first | exact Len.nil | (apply Len.row; (· (repeat (first | apply Sel.here | apply Sel.there | apply Upd.here | apply Upd.there)))) | (apply Len.rs; exact Rs.mono (by assumption) (by (repeat' (first | exact Ent.refl | exact Ent.drop | exact Ent.appR | apply Ent.skip)))))) (by omega)) ?_))
 | ((show SLl _ _ _ _ _ (⟨⟨_, .indexAddr _ _ _, _, _, _, _⟩, _, _⟩ :: _) _ _ _); (refine SLl.rdSeq rfl rfl (Rd.indexAddr rfl rfl (by (first | exact Len.nil | (apply Len.row; (· (repeat (first | apply Sel.here | apply Sel.there | apply Upd.here | apply Upd.there)))) | (apply Len.rs; exact Rs.mono (by assumption) (by (repeat' (first | exact Ent.refl | exact Ent.drop | exact Ent.appR | apply Ent.skip)))))) (by (first | exact ij0 | exact ij1 | exact ij2 | exact ij3 | exact ij4 | exact ij5 | exact ijs _ | exact ijm _ | rfl | exact (Int.toNat_of_nonneg (by omega)).symm)) (by omega)) ?_))
 | ((show SLl _ _ _ _ _ (⟨⟨_, .call ⟨.builtin .len, _, _⟩, _, _, _, _⟩, _, _⟩ :: _) _ _ _); refine SLl.rdSeq rfl rfl (Rd.len rfl (by (first | exact Len.nil | (apply Len.row; (· (repeat (first | apply Sel.here | apply Sel.there | apply Upd.here | apply Upd.there)))) | (apply Len.rs; exact Rs.mono (by assumption) (by (repeat' (first | exact Ent.refl | exact Ent.drop | exact Ent.appR | apply Ent.skip))))))) ?_)
 | ((show SLl _ _ _ _ _ (⟨⟨_, .binOp _ _ _ _ _, _, _, _, _⟩, _, _⟩ :: _) _ _ _); (first
 | refine SLl.pu rfl rfl rfl (Pu.add rfl rfl (IntWalk.i64_in _ (by omega))) ?_
 | refine SLl.pu rfl rfl rfl (Pu.sub rfl rfl (IntWalk.i64_in _ (by omega))) ?_
 | (refine SLl.cmp rfl rfl rfl rfl rfl rfl ?_ ?_ <;> intro hq <;> simp only [cmpP] at hq <;> try (first
 | exact (hq trivial).elim
 | (exfalso; omega)))
 | refine SLl.pu rfl rfl rfl (Pu.eqNilT rfl rfl) ?_
 | refine SLl.pu rfl rfl rfl (Pu.neNilF rfl rfl) ?_
 | refine SLl.rdSeq rfl rfl (Rd.eqNilF rfl rfl (by (first | exact Len.nil | (apply Len.row; (· (repeat (first | apply Sel.here | apply Sel.there | apply Upd.here | apply Upd.there)))) | (apply Len.rs; exact Rs.mono (by assumption) (by (repeat' (first | exact Ent.refl | exact Ent.drop | exact Ent.appR | apply Ent.skip)))))) (by assumption)) ?_
 | refine SLl.rdSeq rfl rfl (Rd.neNilT rfl rfl (by (first | exact Len.nil | (apply Len.row; (· (repeat (first | apply Sel.here | apply Sel.there | apply Upd.here | apply Upd.there)))) | (apply Len.rs; exact Rs.mono (by assumption) (by (repeat' (first | exact Ent.refl | exact Ent.drop | exact Ent.appR | apply Ent.skip)))))) (by assumption)) ?_
 | refine SLl.pu rfl rfl rfl (Pu.eqPtrNil rfl rfl) ?_
 | refine SLl.pu rfl rfl rfl (Pu.eqBool rfl rfl) ?_
 | refine SLl.pu rfl rfl rfl (Pu.neBool rfl rfl) ?_
 | refine SLl.pu rfl rfl rfl (Pu.nePtrNil rfl rfl) ?_
 | refine SLl.pu rfl rfl rfl (Pu.eqFuncNilF rfl rfl) ?_
 | refine SLl.pu rfl rfl rfl (Pu.eqFuncNilT rfl rfl) ?_))
 | ((show SLl _ _ _ _ _ (⟨⟨_, .store _ _ _, _, _, _, _⟩, _, _⟩ :: _) _ _ _); (first | (refine SLl.seq0 rfl (SLo.store rfl rfl rfl (by (first | exact One.lit rfl | exact One.lit (by assumption) | exact One.mono (by assumption) (by (repeat' (first | exact Ent.refl | exact Ent.drop | exact Ent.appR | apply Ent.skip))) | exact One.len (by (first | exact Len.nil | (apply Len.row; (· (repeat (first | apply Sel.here | apply Sel.there | apply Upd.here | apply Upd.there)))) | (apply Len.rs; exact Rs.mono (by assumption) (by (repeat' (first | exact Ent.refl | exact Ent.drop | exact Ent.appR | apply Ent.skip)))))))) (by (first | (apply Wr.blk; (· (repeat (first | apply Sel.here | apply Sel.there | apply Upd.here | apply Upd.there))); (· exact Nat.le_of_ble_eq_true rfl)) | (apply Wr.row; (· (first | rfl | assumption)); (· exact Nat.le_of_ble_eq_true rfl); (· (repeat (first | apply Sel.here | apply Sel.there | apply Upd.here | apply Upd.there)))))) ?_)) | (refine SLl.seq0 rfl (SLo.storeN rfl rfl rfl (by (repeat' (first | exact trivial | (apply And.intro; (· (first | exact One.lit rfl | exact One.lit (by assumption) | exact One.mono (by assumption) (by (repeat' (first | exact Ent.refl | exact Ent.drop | exact Ent.appR | apply Ent.skip))) | exact One.len (by (first | exact Len.nil | (apply Len.row; (· (repeat (first | apply Sel.here | apply Sel.there | apply Upd.here | apply Upd.there)))) | (apply Len.rs; exact Rs.mono (by assumption) (by (repeat' (first | exact Ent.refl | exact Ent.drop | exact Ent.appR | apply Ent.skip)))))))))))) (Nat.le_of_ble_eq_true rfl) (by (repeat (first | apply Sel.here | apply Sel.there | apply Upd.here | apply Upd.there))) ?_))))
 | ((show SLl _ _ _ _ _ (⟨⟨_, .box _ _, _, _, _, _⟩, _, _⟩ :: _) _ _ _); refine SLl.seq rfl rfl (SLo.boxC rfl (by (first | exact Cel.one (by (first | exact One.lit rfl | exact One.lit (by assumption) | exact One.mono (by assumption) (by (repeat' (first | exact Ent.refl | exact Ent.drop | exact Ent.appR | apply Ent.skip))) | exact One.len (by (first | exact Len.nil | (apply Len.row; (· (repeat (first | apply Sel.here | apply Sel.there | apply Upd.here | apply Upd.there)))) | (apply Len.rs; exact Rs.mono (by assumption) (by (repeat' (first | exact Ent.refl | exact Ent.drop | exact Ent.appR | apply Ent.skip)))))))) | exact Cel.agg)) ?_); intro b)
 | ((show SLl _ _ _ _ _ (⟨⟨_, .alloc _, _, _, _, _⟩, _, _⟩ :: _) _ _ _); refine SLl.seq rfl rfl (SLo.alloc ?_); intro b)
 | ((show SLl _ _ _ _ _ (⟨⟨_, .build _ _, _, _, _, _⟩, _, _⟩ :: _) _ _ _); first
 | refine SLl.rdSeq rfl rfl (Rd.build rfl (by (repeat (first | exact CellsW.nil | (apply CellsW.cons; (· (first | exact Cel.one (by (first | exact One.lit rfl | exact One.lit (by assumption) | exact One.mono (by assumption) (by (repeat' (first | exact Ent.refl | exact Ent.drop | exact Ent.appR | apply Ent.skip))) | exact One.len (by (first | exact Len.nil | (apply Len.row; (· (repeat (first | apply Sel.here | apply Sel.there | apply Upd.here | apply Upd.there)))) | (apply Len.rs; exact Rs.mono (by assumption) (by (repeat' (first | exact Ent.refl | exact Ent.drop | exact Ent.appR | apply Ent.skip)))))))) | exact Cel.agg)))))) (by rfl)) ?_
 | refine SLl.pu rfl rfl rfl (Pu.build rfl rfl) ?_)
 | refine SLl.skip rfl rfl ?_))
 | (first
 | refine SLc.seq ?_
 | refine SLc.region rfl ?_
 | refine SLc.condT rfl ?_
 | refine SLc.condF rfl ?_
 | refine SLc.block ?_
 | refine SLc.skip ?_
 | refine SLc.exit ?_
 | refine SLc.ret ?_)))
  refine SLl.seq rfl rfl (SLo.call plain67 rfl (SLf.mono (Awake17 W []) ?_))
  rintro v σ ⟨rfl, rfl⟩
  (repeat' (first
 | (first
 | refine SLl.nil ?_
 | ((show SLl _ _ _ _ _ (⟨⟨_, _, _, _, _, _⟩, _, _⟩ :: _) _ _ _); first
 | refine SLl.ev rfl rfl rfl rfl ?_
 | ((show SLl _ _ _ _ _ (⟨⟨_, .load _ _, _, _, _, _⟩, _, _⟩ :: _) _ _ _); (first | refine SLl.rdSeq rfl rfl (Rd.load rfl rfl (by (first | (apply Reads.blk; (· (repeat (first | apply Sel.here | apply Sel.there | apply Upd.here | apply Upd.there))); (· rfl)) | (apply Reads.row; (· (repeat (first | apply Sel.here | apply Sel.there | apply Upd.here | apply Upd.there))); (· (first | rfl | assumption)); (· rfl)) | (apply Reads.rs; (· exact Rs.mono (by assumption) (by (repeat' (first | exact Ent.refl | exact Ent.drop | exact Ent.appR | apply Ent.skip)))); (· (first | rfl | assumption)); (· rfl)) | exact Reads.mono (by assumption) (by (repeat' (first | exact Ent.refl | exact Ent.drop | exact Ent.appR | apply Ent.skip)))))) ?_ | refine SLl.rdSeq rfl rfl (Rd.loadN rfl rfl (by (first | exact ReadsN.mono (by assumption) (by (repeat' (first | exact Ent.refl | exact Ent.drop | exact Ent.appR | apply Ent.skip))) | (apply ReadsN.blk0; (· (repeat (first | apply Sel.here | apply Sel.there | apply Upd.here | apply Upd.there)))) | (apply ReadsN.row0; (· (repeat (first | apply Sel.here | apply Sel.there | apply Upd.here | apply Upd.there))); (· (first | rfl | assumption))) | (apply ReadsN.rs0; (· exact Rs.mono (by assumption) (by (repeat' (first | exact Ent.refl | exact Ent.drop | exact Ent.appR | apply Ent.skip)))); (· (first | rfl | assumption))))) (by rfl)) ?_))
 | ((show SLl _ _ _ _ _ (⟨⟨_, .fieldAddr _ _ _, _, _, _, _⟩, _, _⟩ :: _) _ _ _); (first | refine SLl.pu rfl rfl rfl (Pu.fieldAddr rfl) ?_ | refine SLl.rdSeq rfl rfl (Rd.fieldAddrEl rfl (by (first | exact Len.nil | (apply Len.row; (· (repeat (first | apply Sel.here | apply Sel.there | apply Upd.here | apply Upd.there)))) | (apply Len.rs; exact Rs.mono (by assumption) (by (repeat' (first | exact Ent.refl | exact Ent.drop | exact Ent.appR | apply Ent.skip)))))) (by omega)) ?_))
 | ((show SLl _ _ _ _ _ (⟨⟨_, .indexAddr _ _ _, _, _, _, _⟩, _, _⟩ :: _) _ _ _); (refine SLl.rdSeq rfl rfl (Rd.indexAddr rfl rfl (by (first | exact Len.nil | (apply Len.row; (· (repeat (first | apply Sel.here | apply Sel.there | apply Upd.here | apply Upd.there)))) | (apply Len.rs; exact Rs.mono (by assumption) (by (repeat' (first | exact Ent.refl | exact Ent.drop | exact Ent.appR | apply Ent.skip)))))) (by (first | exact ij0 | exact ij1 | exact ij2 | exact ij3 | exact ij4 | exact ij5 | exact ijs _ | exact ijm _ | rfl | exact (Int.toNat_of_nonneg (by omega)).symm)) (by omega)) ?_))
 | ((show SLl _ _ _ _ _ (⟨⟨_, .call ⟨.builtin .len, _, _⟩, _, _, _, _⟩, _, _⟩ :: _) _ _ _); refine SLl.rdSeq rfl rfl (Rd.len rfl (by (first | exact Len.nil | (apply Len.row; (· (repeat (first | apply Sel.here | apply Sel.there | apply Upd.here | apply Upd.there)))) | (apply Len.rs; exact Rs.mono (by assumption) (by (repeat' (first | exact Ent.refl | exact Ent.drop | exact Ent.appR | apply Ent.skip))))))) ?_)
 | ((show SLl _ _ _ _ _ (⟨⟨_, .binOp _ _ _ _ _, _, _, _, _⟩, _, _⟩ :: _) _ _ _); (first
 | refine SLl.pu rfl rfl rfl (Pu.add rfl rfl (IntWalk.i64_in _ (by omega))) ?_
 | refine SLl.pu rfl rfl rfl (Pu.sub rfl rfl (IntWalk.i64_in _ (by omega))) ?_
 | (refine SLl.cmp rfl rfl rfl rfl rfl rfl ?_ ?_ <;> intro hq <;> simp only [cmpP] at hq <;> try (first
 | exact (hq trivial).elim
 | (exfalso; omega)))
 | refine SLl.pu rfl rfl rfl (Pu.eqNilT rfl rfl) ?_
 | refine SLl.pu rfl rfl rfl (Pu.neNilF rfl rfl) ?_
 | refine SLl.rdSeq rfl rfl (Rd.eqNilF rfl rfl (by (first | exact Len.nil | (apply Len.row; (· (repeat (first | apply Sel.here | apply Sel.there | apply Upd.here | apply Upd.there)))) | (apply Len.rs; exact Rs.mono (by assumption) (by (repeat' (first | exact Ent.refl | exact Ent.drop | exact Ent.appR | apply Ent.skip)))))) (by assumption)) ?_
 | refine SLl.rdSeq rfl rfl (Rd.neNilT rfl rfl (by (first | exact Len.nil | (apply Len.row; (· (repeat (first | apply Sel.here | apply Sel.there | apply Upd.here | apply Upd.there)))) | (apply Len.rs; exact Rs.mono (by assumption) (by (repeat' (first | exact Ent.refl | exact Ent.drop | exact Ent.appR | apply Ent.skip)))))) (by assumption)) ?_
 | refine SLl.pu rfl rfl rfl (Pu.eqPtrNil rfl rfl) ?_
 | refine SLl.pu rfl rfl rfl (Pu.eqBool rfl rfl) ?_
 | refine SLl.pu rfl rfl rfl (Pu.neBool rfl rfl) ?_
 | refine SLl.pu rfl rfl rfl (Pu.nePtrNil rfl rfl) ?_
 | refine SLl.pu rfl rfl rfl (Pu.eqFuncNilF rfl rfl) ?_
 | refine SLl.pu rfl rfl rfl (Pu.eqFuncNilT rfl rfl) ?_))
 | ((show SLl _ _ _ _ _ (⟨⟨_, .store _ _ _, _, _, _, _⟩, _, _⟩ :: _) _ _ _); (first | (refine SLl.seq0 rfl (SLo.store rfl rfl rfl (by (first | exact One.lit rfl | exact One.lit (by assumption) | exact One.mono (by assumption) (by (repeat' (first | exact Ent.refl | exact Ent.drop | exact Ent.appR | apply Ent.skip))) | exact One.len (by (first | exact Len.nil | (apply Len.row; (· (repeat (first | apply Sel.here | apply Sel.there | apply Upd.here | apply Upd.there)))) | (apply Len.rs; exact Rs.mono (by assumption) (by (repeat' (first | exact Ent.refl | exact Ent.drop | exact Ent.appR | apply Ent.skip)))))))) (by (first | (apply Wr.blk; (· (repeat (first | apply Sel.here | apply Sel.there | apply Upd.here | apply Upd.there))); (· exact Nat.le_of_ble_eq_true rfl)) | (apply Wr.row; (· (first | rfl | assumption)); (· exact Nat.le_of_ble_eq_true rfl); (· (repeat (first | apply Sel.here | apply Sel.there | apply Upd.here | apply Upd.there)))))) ?_)) | (refine SLl.seq0 rfl (SLo.storeN rfl rfl rfl (by (repeat' (first | exact trivial | (apply And.intro; (· (first | exact One.lit rfl | exact One.lit (by assumption) | exact One.mono (by assumption) (by (repeat' (first | exact Ent.refl | exact Ent.drop | exact Ent.appR | apply Ent.skip))) | exact One.len (by (first | exact Len.nil | (apply Len.row; (· (repeat (first | apply Sel.here | apply Sel.there | apply Upd.here | apply Upd.there)))) | (apply Len.rs; exact Rs.mono (by assumption) (by (repeat' (first | exact Ent.refl | exact Ent.drop | exact Ent.appR | apply Ent.skip)))))))))))) (Nat.le_of_ble_eq_true rfl) (by (repeat (first | apply Sel.here | apply Sel.there | apply Upd.here | apply Upd.there))) ?_))))
 | ((show SLl _ _ _ _ _ (⟨⟨_, .box _ _, _, _, _, _⟩, _, _⟩ :: _) _ _ _); refine SLl.seq rfl rfl (SLo.boxC rfl (by (first | exact Cel.one (by (first | exact One.lit rfl | exact One.lit (by assumption) | exact One.mono (by assumption) (by (repeat' (first | exact Ent.refl | exact Ent.drop | exact Ent.appR | apply Ent.skip))) | exact One.len (by (first | exact Len.nil | (apply Len.row; (· (repeat (first | apply Sel.here | apply Sel.there | apply Upd.here | apply Upd.there)))) | (apply Len.rs; exact Rs.mono (by assumption) (by (repeat' (first | exact Ent.refl | exact Ent.drop | exact Ent.appR | apply Ent.skip)))))))) | exact Cel.agg)) ?_); intro b)
 | ((show SLl _ _ _ _ _ (⟨⟨_, .alloc _, _, _, _, _⟩, _, _⟩ :: _) _ _ _); refine SLl.seq rfl rfl (SLo.alloc ?_); intro b)
 | ((show SLl _ _ _ _ _ (⟨⟨_, .build _ _, _, _, _, _⟩, _, _⟩ :: _) _ _ _); first
 | refine SLl.rdSeq rfl rfl (Rd.build rfl (by (repeat (first | exact CellsW.nil | (apply CellsW.cons; (· (first | exact Cel.one (by (first | exact One.lit rfl | exact One.lit (by assumption) | exact One.mono (by assumption) (by (repeat' (first | exact Ent.refl | exact Ent.drop | exact Ent.appR | apply Ent.skip))) | exact One.len (by (first | exact Len.nil | (apply Len.row; (· (repeat (first | apply Sel.here | apply Sel.there | apply Upd.here | apply Upd.there)))) | (apply Len.rs; exact Rs.mono (by assumption) (by (repeat' (first | exact Ent.refl | exact Ent.drop | exact Ent.appR | apply Ent.skip)))))))) | exact Cel.agg)))))) (by rfl)) ?_
 | refine SLl.pu rfl rfl rfl (Pu.build rfl rfl) ?_)
 | refine SLl.skip rfl rfl ?_))
 | (first
 | refine SLc.seq ?_
 | refine SLc.region rfl ?_
 | refine SLc.condT rfl ?_
 | refine SLc.condF rfl ?_
 | refine SLc.block ?_
 | refine SLc.skip ?_
 | refine SLc.exit ?_
 | refine SLc.ret ?_)))
  · refine And.intro rfl (Exists.intro _ (Exists.intro [] (And.intro rfl (And.intro .drop rfl))))
  refine SLl.seq rfl rfl (SLo.call plain35 rfl (SLf.mono (New_ok W [] (.slice none 0 0) [] Rs.nil (by simp)) ?_))
  rintro v σ2 ⟨sb, pv, rfl, rfl⟩
  (repeat' (first
 | (first
 | refine SLl.nil ?_
 | ((show SLl _ _ _ _ _ (⟨⟨_, _, _, _, _, _⟩, _, _⟩ :: _) _ _ _); first
 | refine SLl.ev rfl rfl rfl rfl ?_
 | ((show SLl _ _ _ _ _ (⟨⟨_, .load _ _, _, _, _, _⟩, _, _⟩ :: _) _ _ _); (first | refine SLl.rdSeq rfl rfl (Rd.load rfl rfl (by (first | (apply Reads.blk; (· (repeat (first | apply Sel.here | apply Sel.there | apply Upd.here | apply Upd.there))); (· rfl)) | (apply Reads.row; (· (repeat (first | apply Sel.here | apply Sel.there | apply Upd.here | apply Upd.there))); (· (first | rfl | assumption)); (· rfl)) | (apply Reads.rs; (· exact Rs.mono (by assumption) (by (repeat' (first | exact Ent.refl | exact Ent.drop | exact Ent.appR | apply Ent.skip)))); (· (first | rfl | assumption)); (· rfl)) | exact Reads.mono (by assumption) (by (repeat' (first | exact Ent.refl | exact Ent.drop | exact Ent.appR | apply Ent.skip)))))) ?_ | refine SLl.rdSeq rfl rfl (Rd.loadN rfl rfl (by (first | exact ReadsN.mono (by assumption) (by (repeat' (first | exact Ent.refl | exact Ent.drop | exact Ent.appR | apply Ent.skip))) | (apply ReadsN.blk0; (· (repeat (first | apply Sel.here | apply Sel.there | apply Upd.here | apply Upd.there)))) | (apply ReadsN.row0; (· (repeat (first | apply Sel.here | apply Sel.there | apply Upd.here | apply Upd.there))); (· (first | rfl | assumption))) | (apply ReadsN.rs0; (· exact Rs.mono (by assumption) (by (repeat' (first | exact Ent.refl | exact Ent.drop | exact Ent.appR | apply Ent.skip)))); (· (first | rfl | assumption))))) (by rfl)) ?_))
 | ((show SLl _ _ _ _ _ (⟨⟨_, .fieldAddr _ _ _, _, _, _, _⟩, _, _⟩ :: _) _ _ _); (first | refine SLl.pu rfl rfl rfl (Pu.fieldAddr rfl) ?_ | refine SLl.rdSeq rfl rfl (Rd.fieldAddrEl rfl (by (first | exact Len.nil | (apply Len.row; (· (repeat (first | apply Sel.here | apply Sel.there | apply Upd.here | apply Upd.there)))) | (apply Len.rs; exact Rs.mono (by assumption) (by (repeat' (first | exact Ent.refl | exact Ent.drop | exact Ent.appR | apply Ent.skip)))))) (by omega)) ?_))
 | ((show SLl _ _ _ _ _ (⟨⟨_, .indexAddr _ _ _, _, _, _, _⟩, _, _⟩ :: _) _ _ _); (refine SLl.rdSeq rfl rfl (Rd.indexAddr rfl rfl (by (first | exact Len.nil | (apply Len.row; (· (repeat (first | apply Sel.here | apply Sel.there | apply Upd.here | apply Upd.there)))) | (apply Len.rs; exact Rs.mono (by assumption) (by (repeat' (first | exact Ent.refl | exact Ent.drop | exact Ent.appR | apply Ent.skip)))))) (by (first | exact ij0 | exact ij1 | exact ij2 | exact ij3 | exact ij4 | exact ij5 | exact ijs _ | exact ijm _ | rfl | exact (Int.toNat_of_nonneg (by omega)).symm)) (by omega)) ?_))
 | ((show SLl _ _ _ _ _ (⟨⟨_, .call ⟨.builtin .len, _, _⟩, _, _, _, _⟩, _, _⟩ :: _) _ _ _); refine SLl.rdSeq rfl rfl (Rd.len rfl (by (first | exact Len.nil | (apply Len.row; (· (repeat (first | apply Sel.here | apply Sel.there | apply Upd.here | apply Upd.there)))) | (apply Len.rs; exact Rs.mono (by assumption) (by (repeat' (first | exact Ent.refl | exact Ent.drop | exact Ent.appR | apply Ent.skip))))))) ?_)
 | ((show SLl _ _ _ _ _ (⟨⟨_, .binOp _ _ _ _ _, _, _, _, _⟩, _, _⟩ :: _) _ _ _); (first
 | refine SLl.pu rfl rfl rfl (Pu.add rfl rfl (IntWalk.i64_in _ (by omega))) ?_
 | refine SLl.pu rfl rfl rfl (Pu.sub rfl rfl (IntWalk.i64_in _ (by omega))) ?_
 | (refine SLl.cmp rfl rfl rfl rfl rfl rfl ?_ ?_ <;> intro hq <;> simp only [cmpP] at hq <;> try (first
 | exact (hq trivial).elim
 | (exfalso; omega)))
 | refine SLl.pu rfl rfl rfl (Pu.eqNilT rfl rfl) ?_
 | refine SLl.pu rfl rfl rfl (Pu.neNilF rfl rfl) ?_
 | refine SLl.rdSeq rfl rfl (Rd.eqNilF rfl rfl (by (first | exact Len.nil | (apply Len.row; (· (repeat (first | apply Sel.here | apply Sel.there | apply Upd.here | apply Upd.there)))) | (apply Len.rs; exact Rs.mono (by assumption) (by (repeat' (first | exact Ent.refl | exact Ent.drop | exact Ent.appR | apply Ent.skip)))))) (by assumption)) ?_
 | refine SLl.rdSeq rfl rfl (Rd.neNilT rfl rfl (by (first | exact Len.nil | (apply Len.row; (· (repeat (first | apply Sel.here | apply Sel.there | apply Upd.here | apply Upd.there)))) | (apply Len.rs; exact Rs.mono (by assumption) (by (repeat' (first | exact Ent.refl | exact Ent.drop | exact Ent.appR | apply Ent.skip)))))) (by assumption)) ?_
 | refine SLl.pu rfl rfl rfl (Pu.eqPtrNil rfl rfl) ?_
 | refine SLl.pu rfl rfl rfl (Pu.eqBool rfl rfl) ?_
 | refine SLl.pu rfl rfl rfl (Pu.neBool rfl rfl) ?_
 | refine SLl.pu rfl rfl rfl (Pu.nePtrNil rfl rfl) ?_
 | refine SLl.pu rfl rfl rfl (Pu.eqFuncNilF rfl rfl) ?_
 | refine SLl.pu rfl rfl rfl (Pu.eqFuncNilT rfl rfl) ?_))
 | ((show SLl _ _ _ _ _ (⟨⟨_, .store _ _ _, _, _, _, _⟩, _, _⟩ :: _) _ _ _); (first | (refine SLl.seq0 rfl (SLo.store rfl rfl rfl (by (first | exact One.lit rfl | exact One.lit (by assumption) | exact One.mono (by assumption) (by (repeat' (first | exact Ent.refl | exact Ent.drop | exact Ent.appR | apply Ent.skip))) | exact One.len (by (first | exact Len.nil | (apply Len.row; (· (repeat (first | apply Sel.here | apply Sel.there | apply Upd.here | apply Upd.there)))) | (apply Len.rs; exact Rs.mono (by assumption) (by (repeat' (first | exact Ent.refl | exact Ent.drop | exact Ent.appR | apply Ent.skip)))))))) (by (first | (apply Wr.blk; (· (repeat (first | apply Sel.here | apply Sel.there | apply Upd.here | apply Upd.there))); (· exact Nat.le_of_ble_eq_true rfl)) | (apply Wr.row; (· (first | rfl | assumption)); (· exact Nat.le_of_ble_eq_true rfl); (· (repeat (first | apply Sel.here | apply Sel.there | apply Upd.here | apply Upd.there)))))) ?_)) | (refine SLl.seq0 rfl (SLo.storeN rfl rfl rfl (by (repeat' (first | exact trivial | (apply And.intro; (· (first | exact One.lit rfl | exact One.lit (by assumption) | exact One.mono (by assumption) (by (repeat' (first | exact Ent.refl | exact Ent.drop | exact Ent.appR | apply Ent.skip))) | exact One.len (by (first | exact Len.nil | (apply Len.row; (· (repeat (first | apply Sel.here | apply Sel.there | apply Upd.here | apply Upd.there)))) | (apply Len.rs; exact Rs.mono (by assumption) (by (repeat' (first | exact Ent.refl | exact Ent.drop | exact Ent.appR | apply Ent.skip)))))))))))) (Nat.le_of_ble_eq_true rfl) (by (repeat (first | apply Sel.here | apply Sel.there | apply Upd.here | apply Upd.there))) ?_))))
 | ((show SLl _ _ _ _ _ (⟨⟨_, .box _ _, _, _, _, _⟩, _, _⟩ :: _) _ _ _); refine SLl.seq rfl rfl (SLo.boxC rfl (by (first | exact Cel.one (by (first | exact One.lit rfl | exact One.lit (by assumption) | exact One.mono (by assumption) (by (repeat' (first | exact Ent.refl | exact Ent.drop | exact Ent.appR | apply Ent.skip))) | exact One.len (by (first | exact Len.nil | (apply Len.row; (· (repeat (first | apply Sel.here | apply Sel.there | apply Upd.here | apply Upd.there)))) | (apply Len.rs; exact Rs.mono (by assumption) (by (repeat' (first | exact Ent.refl | exact Ent.drop | exact Ent.appR | apply Ent.skip)))))))) | exact Cel.agg)) ?_); intro b)
 | ((show SLl _ _ _ _ _ (⟨⟨_, .alloc _, _, _, _, _⟩, _, _⟩ :: _) _ _ _); refine SLl.seq rfl rfl (SLo.alloc ?_); intro b)
 | ((show SLl _ _ _ _ _ (⟨⟨_, .build _ _, _, _, _, _⟩, _, _⟩ :: _) _ _ _); first
 | refine SLl.rdSeq rfl rfl (Rd.build rfl (by (repeat (first | exact CellsW.nil | (apply CellsW.cons; (· (first | exact Cel.one (by (first | exact One.lit rfl | exact One.lit (by assumption) | exact One.mono (by assumption) (by (repeat' (first | exact Ent.refl | exact Ent.drop | exact Ent.appR | apply Ent.skip))) | exact One.len (by (first | exact Len.nil | (apply Len.row; (· (repeat (first | apply Sel.here | apply Sel.there | apply Upd.here | apply Upd.there)))) | (apply Len.rs; exact Rs.mono (by assumption) (by (repeat' (first | exact Ent.refl | exact Ent.drop | exact Ent.appR | apply Ent.skip)))))))) | exact Cel.agg)))))) (by rfl)) ?_
 | refine SLl.pu rfl rfl rfl (Pu.build rfl rfl) ?_)
 | refine SLl.skip rfl rfl ?_))
 | (first
 | refine SLc.seq ?_
 | refine SLc.region rfl ?_
 | refine SLc.condT rfl ?_
 | refine SLc.condF rfl ?_
 | refine SLc.block ?_
 | refine SLc.skip ?_
 | refine SLc.exit ?_
 | refine SLc.ret ?_)))
  refine SLl.seq rfl rfl (SLo.call plain36 rfl (SLf.mono (Go_ok W [] sb pv (.slice none 0 0) (stays 74 0) (.func 74) #[] #[] (by rw [stays_len]; omega)) ?_))
  rintro v σ2 ⟨lv', rfl, rfl⟩
  rw [stays_add]
  (repeat' (first
 | (first
 | refine SLl.nil ?_
 | ((show SLl _ _ _ _ _ (⟨⟨_, _, _, _, _, _⟩, _, _⟩ :: _) _ _ _); first
 | refine SLl.ev rfl rfl rfl rfl ?_
 | ((show SLl _ _ _ _ _ (⟨⟨_, .load _ _, _, _, _, _⟩, _, _⟩ :: _) _ _ _); (first | refine SLl.rdSeq rfl rfl (Rd.load rfl rfl (by (first | (apply Reads.blk; (· (repeat (first | apply Sel.here | apply Sel.there | apply Upd.here | apply Upd.there))); (· rfl)) | (apply Reads.row; (· (repeat (first | apply Sel.here | apply Sel.there | apply Upd.here | apply Upd.there))); (· (first | rfl | assumption)); (· rfl)) | (apply Reads.rs; (· exact Rs.mono (by assumption) (by (repeat' (first | exact Ent.refl | exact Ent.drop | exact Ent.appR | apply Ent.skip)))); (· (first | rfl | assumption)); (· rfl)) | exact Reads.mono (by assumption) (by (repeat' (first | exact Ent.refl | exact Ent.drop | exact Ent.appR | apply Ent.skip)))))) ?_ | refine SLl.rdSeq rfl rfl (Rd.loadN rfl rfl (by (first | exact ReadsN.mono (by assumption) (by (repeat' (first | exact Ent.refl | exact Ent.drop | exact Ent.appR | apply Ent.skip))) | (apply ReadsN.blk0; (· (repeat (first | apply Sel.here | apply Sel.there | apply Upd.here | apply Upd.there)))) | (apply ReadsN.row0; (· (repeat (first | apply Sel.here | apply Sel.there | apply Upd.here | apply Upd.there))); (· (first | rfl | assumption))) | (apply ReadsN.rs0; (· exact Rs.mono (by assumption) (by (repeat' (first | exact Ent.refl | exact Ent.drop | exact Ent.appR | apply Ent.skip)))); (· (first | rfl | assumption))))) (by rfl)) ?_))
 | ((show SLl _ _ _ _ _ (⟨⟨_, .fieldAddr _ _ _, _, _, _, _⟩, _, _⟩ :: _) _ _ _); (first | refine SLl.pu rfl rfl rfl (Pu.fieldAddr rfl) ?_ | refine SLl.rdSeq rfl rfl (Rd.fieldAddrEl rfl (by (first | exact Len.nil | (apply Len.row; (· (repeat (first | apply Sel.here | apply Sel.there | apply Upd.here | apply Upd.there)))) | (apply Len.rs; exact Rs.mono (by assumption) (by (repeat' (first | exact Ent.refl | exact Ent.drop | exact Ent.appR | apply Ent.skip)))))) (by omega)) ?_))
 | ((show SLl _ _ _ _ _ (⟨⟨_, .indexAddr _ _ _, _, _, _, _⟩, _, _⟩ :: _) _ _ _); (refine SLl.rdSeq rfl rfl (Rd.indexAddr rfl rfl (by (first | exact Len.nil | (apply Len.row; (· (repeat (first | apply Sel.here | apply Sel.there | apply Upd.here | apply Upd.there)))) | (apply Len.rs; exact Rs.mono (by assumption) (by (repeat' (first | exact Ent.refl | exact Ent.drop | exact Ent.appR | apply Ent.skip)))))) (by (first | exact ij0 | exact ij1 | exact ij2 | exact ij3 | exact ij4 | exact ij5 | exact ijs _ | exact ijm _ | rfl | exact (Int.toNat_of_nonneg (by omega)).symm)) (by omega)) ?_))
 | ((show SLl _ _ _ _ _ (⟨⟨_, .call ⟨.builtin .len, _, _⟩, _, _, _, _⟩, _, _⟩ :: _) _ _ _); refine SLl.rdSeq rfl rfl (Rd.len rfl (by (first | exact Len.nil | (apply Len.row; (· (repeat (first | apply Sel.here | apply Sel.there | apply Upd.here | apply Upd.there)))) | (apply Len.rs; exact Rs.mono (by assumption) (by (repeat' (first | exact Ent.refl | exact Ent.drop | exact Ent.appR | apply Ent.skip))))))) ?_)
 | ((show SLl _ _ _ _ _ (⟨⟨_, .binOp _ _ _ _ _, _, _, _, _⟩, _, _⟩ :: _) _ _ _); (first
 | refine SLl.pu rfl rfl rfl (Pu.add rfl rfl (IntWalk.i64_in _ (by omega))) ?_
 | refine SLl.pu rfl rfl rfl (Pu.sub rfl rfl (IntWalk.i64_in _ (by omega))) ?_
 | (refine SLl.cmp rfl rfl rfl rfl rfl rfl ?_ ?_ <;> intro hq <;> simp only [cmpP] at hq <;> try (first
 | exact (hq trivial).elim
 | (exfalso; omega)))
 | refine SLl.pu rfl rfl rfl (Pu.eqNilT rfl rfl) ?_
 | refine SLl.pu rfl rfl rfl (Pu.neNilF rfl rfl) ?_
 | refine SLl.rdSeq rfl rfl (Rd.eqNilF rfl rfl (by (first | exact Len.nil | (apply Len.row; (· (repeat (first | apply Sel.here | apply Sel.there | apply Upd.here | apply Upd.there)))) | (apply Len.rs; exact Rs.mono (by assumption) (by (repeat' (first | exact Ent.refl | exact Ent.drop | exact Ent.appR | apply Ent.skip)))))) (by assumption)) ?_
 | refine SLl.rdSeq rfl rfl (Rd.neNilT rfl rfl (by (first | exact Len.nil | (apply Len.row; (· (repeat (first | apply Sel.here | apply Sel.there | apply Upd.here | apply Upd.there)))) | (apply Len.rs; exact Rs.mono (by assumption) (by (repeat' (first | exact Ent.refl | exact Ent.drop | exact Ent.appR | apply Ent.skip)))))) (by assumption)) ?_
 | refine SLl.pu rfl rfl rfl (Pu.eqPtrNil rfl rfl) ?_
 | refine SLl.pu rfl rfl rfl (Pu.eqBool rfl rfl) ?_
 | refine SLl.pu rfl rfl rfl (Pu.neBool rfl rfl) ?_
 | refine SLl.pu rfl rfl rfl (Pu.nePtrNil rfl rfl) ?_
 | refine SLl.pu rfl rfl rfl (Pu.eqFuncNilF rfl rfl) ?_
 | refine SLl.pu rfl rfl rfl (Pu.eqFuncNilT rfl rfl) ?_))
 | ((show SLl _ _ _ _ _ (⟨⟨_, .store _ _ _, _, _, _, _⟩, _, _⟩ :: _) _ _ _); (first | (refine SLl.seq0 rfl (SLo.store rfl rfl rfl (by (first | exact One.lit rfl | exact One.lit (by assumption) | exact One.mono (by assumption) (by (repeat' (first | exact Ent.refl | exact Ent.drop | exact Ent.appR | apply Ent.skip))) | exact One.len (by (first | exact Len.nil | (apply Len.row; (· (repeat (first | apply Sel.here | apply Sel.there | apply Upd.here | apply Upd.there)))) | (apply Len.rs; exact Rs.mono (by assumption) (by (repeat' (first | exact Ent.refl | exact Ent.drop | exact Ent.appR | apply Ent.skip)))))))) (by (first | (apply Wr.blk; (· (repeat (first | apply Sel.here | apply Sel.there | apply Upd.here | apply Upd.there))); (· exact Nat.le_of_ble_eq_true rfl)) | (apply Wr.row; (· (first | rfl | assumption)); (· exact Nat.le_of_ble_eq_true rfl); (· (repeat (first | apply Sel.here | apply Sel.there | apply Upd.here | apply Upd.there)))))) ?_)) | (refine SLl.seq0 rfl (SLo.storeN rfl rfl rfl (by (repeat' (first | exact trivial | (apply And.intro; (· (first | exact One.lit rfl | exact One.lit (by assumption) | exact One.mono (by assumption) (by (repeat' (first | exact Ent.refl | exact Ent.drop | exact Ent.appR | apply Ent.skip))) | exact One.len (by (first | exact Len.nil | (apply Len.row; (· (repeat (first | apply Sel.here | apply Sel.there | apply Upd.here | apply Upd.there)))) | (apply Len.rs; exact Rs.mono (by assumption) (by (repeat' (first | exact Ent.refl | exact Ent.drop | exact Ent.appR | apply Ent.skip)))))))))))) (Nat.le_of_ble_eq_true rfl) (by (repeat (first | apply Sel.here | apply Sel.there | apply Upd.here | apply Upd.there))) ?_))))
 | ((show SLl _ _ _ _ _ (⟨⟨_, .box _ _, _, _, _, _⟩, _, _⟩ :: _) _ _ _); refine SLl.seq rfl rfl (SLo.boxC rfl (by (first | exact Cel.one (by (first | exact One.lit rfl | exact One.lit (by assumption) | exact One.mono (by assumption) (by (repeat' (first | exact Ent.refl | exact Ent.drop | exact Ent.appR | apply Ent.skip))) | exact One.len (by (first | exact Len.nil | (apply Len.row; (· (repeat (first | apply Sel.here | apply Sel.there | apply Upd.here | apply Upd.there)))) | (apply Len.rs; exact Rs.mono (by assumption) (by (repeat' (first | exact Ent.refl | exact Ent.drop | exact Ent.appR | apply Ent.skip)))))))) | exact Cel.agg)) ?_); intro b)
 | ((show SLl _ _ _ _ _ (⟨⟨_, .alloc _, _, _, _, _⟩, _, _⟩ :: _) _ _ _); refine SLl.seq rfl rfl (SLo.alloc ?_); intro b)
 | ((show SLl _ _ _ _ _ (⟨⟨_, .build _ _, _, _, _, _⟩, _, _⟩ :: _) _ _ _); first
 | refine SLl.rdSeq rfl rfl (Rd.build rfl (by (repeat (first | exact CellsW.nil | (apply CellsW.cons; (· (first | exact Cel.one (by (first | exact One.lit rfl | exact One.lit (by assumption) | exact One.mono (by assumption) (by (repeat' (first | exact Ent.refl | exact Ent.drop | exact Ent.appR | apply Ent.skip))) | exact One.len (by (first | exact Len.nil | (apply Len.row; (· (repeat (first | apply Sel.here | apply Sel.there | apply Upd.here | apply Upd.there)))) | (apply Len.rs; exact Rs.mono (by assumption) (by (repeat' (first | exact Ent.refl | exact Ent.drop | exact Ent.appR | apply Ent.skip)))))))) | exact Cel.agg)))))) (by rfl)) ?_
 | refine SLl.pu rfl rfl rfl (Pu.build rfl rfl) ?_)
 | refine SLl.skip rfl rfl ?_))
 | (first
 | refine SLc.seq ?_
 | refine SLc.region rfl ?_
 | refine SLc.condT rfl ?_
 | refine SLc.condF rfl ?_
 | refine SLc.block ?_
 | refine SLc.skip ?_
 | refine SLc.exit ?_
 | refine SLc.ret ?_)))
  refine SLl.seq rfl rfl (SLo.call plain45 rfl (SLf.mono (RunStays W [] sb pv lv' 74 1 5 (by decide) (by decide) (by decide) plain74 (Stay17 W)) ?_))
  rintro v σ2 ⟨lw, rfl, rfl⟩
  (repeat' (first
 | (first
 | refine SLl.nil ?_
 | ((show SLl _ _ _ _ _ (⟨⟨_, _, _, _, _, _⟩, _, _⟩ :: _) _ _ _); first
 | refine SLl.ev rfl rfl rfl rfl ?_
 | ((show SLl _ _ _ _ _ (⟨⟨_, .load _ _, _, _, _, _⟩, _, _⟩ :: _) _ _ _); (first | refine SLl.rdSeq rfl rfl (Rd.load rfl rfl (by (first | (apply Reads.blk; (· (repeat (first | apply Sel.here | apply Sel.there | apply Upd.here | apply Upd.there))); (· rfl)) | (apply Reads.row; (· (repeat (first | apply Sel.here | apply Sel.there | apply Upd.here | apply Upd.there))); (· (first | rfl | assumption)); (· rfl)) | (apply Reads.rs; (· exact Rs.mono (by assumption) (by (repeat' (first | exact Ent.refl | exact Ent.drop | exact Ent.appR | apply Ent.skip)))); (· (first | rfl | assumption)); (· rfl)) | exact Reads.mono (by assumption) (by (repeat' (first | exact Ent.refl | exact Ent.drop | exact Ent.appR | apply Ent.skip)))))) ?_ | refine SLl.rdSeq rfl rfl (Rd.loadN rfl rfl (by (first | exact ReadsN.mono (by assumption) (by (repeat' (first | exact Ent.refl | exact Ent.drop | exact Ent.appR | apply Ent.skip))) | (apply ReadsN.blk0; (· (repeat (first | apply Sel.here | apply Sel.there | apply Upd.here | apply Upd.there)))) | (apply ReadsN.row0; (· (repeat (first | apply Sel.here | apply Sel.there | apply Upd.here | apply Upd.there))); (· (first | rfl | assumption))) | (apply ReadsN.rs0; (· exact Rs.mono (by assumption) (by (repeat' (first | exact Ent.refl | exact Ent.drop | exact Ent.appR | apply Ent.skip)))); (· (first | rfl | assumption))))) (by rfl)) ?_))
 | ((show SLl _ _ _ _ _ (⟨⟨_, .fieldAddr _ _ _, _, _, _, _⟩, _, _⟩ :: _) _ _ _); (first | refine SLl.pu rfl rfl rfl (Pu.fieldAddr rfl) ?_ | refine SLl.rdSeq rfl rfl (Rd.fieldAddrEl rfl (by (first | exact Len.nil | (apply Len.row; (· (repeat (first | apply Sel.here | apply Sel.there | apply Upd.here | apply Upd.there)))) | (apply Len.rs; exact Rs.mono (by assumption) (by (repeat' (first | exact Ent.refl | exact Ent.drop | exact Ent.appR | apply Ent.skip)))))) (by omega)) ?_))
 | ((show SLl _ _ _ _ _ (⟨⟨_, .indexAddr _ _ _, _, _, _, _⟩, _, _⟩ :: _) _ _ _); (refine SLl.rdSeq rfl rfl (Rd.indexAddr rfl rfl (by (first | exact Len.nil | (apply Len.row; (· (repeat (first | apply Sel.here | apply Sel.there | apply Upd.here | apply Upd.there)))) | (apply Len.rs; exact Rs.mono (by assumption) (by (repeat' (first | exact Ent.refl | exact Ent.drop | exact Ent.appR | apply Ent.skip)))))) (by (first | exact ij0 | exact ij1 | exact ij2 | exact ij3 | exact ij4 | exact ij5 | exact ijs _ | exact ijm _ | rfl | exact (Int.toNat_of_nonneg (by omega)).symm)) (by omega)) ?_))
 | ((show SLl _ _ _ _ _ (⟨⟨_, .call ⟨.builtin .len, _, _⟩, _, _, _, _⟩, _, _⟩ :: _) _ _ _); refine SLl.rdSeq rfl rfl (Rd.len rfl (by (first | exact Len.nil | (apply Len.row; (· (repeat (first | apply Sel.here | apply Sel.there | apply Upd.here | apply Upd.there)))) | (apply Len.rs; exact Rs.mono (by assumption) (by (repeat' (first | exact Ent.refl | exact Ent.drop | exact Ent.appR | apply Ent.skip))))))) ?_)
 | ((show SLl _ _ _ _ _ (⟨⟨_, .binOp _ _ _ _ _, _, _, _, _⟩, _, _⟩ :: _) _ _ _); (first
 | refine SLl.pu rfl rfl rfl (Pu.add rfl rfl (IntWalk.i64_in _ (by omega))) ?_
 | refine SLl.pu rfl rfl rfl (Pu.sub rfl rfl (IntWalk.i64_in _ (by omega))) ?_
 | (refine SLl.cmp rfl rfl rfl rfl rfl rfl ?_ ?_ <;> intro hq <;> simp only [cmpP] at hq <;> try (first
 | exact (hq trivial).elim
 | (exfalso; omega)))
 | refine SLl.pu rfl rfl rfl (Pu.eqNilT rfl rfl) ?_
 | refine SLl.pu rfl rfl rfl (Pu.neNilF rfl rfl) ?_
 | refine SLl.rdSeq rfl rfl (Rd.eqNilF rfl rfl (by (first | exact Len.nil | (apply Len.row; (· (repeat (first | apply Sel.here | apply Sel.there | apply Upd.here | apply Upd.there)))) | (apply Len.rs; exact Rs.mono (by assumption) (by (repeat' (first | exact Ent.refl | exact Ent.drop | exact Ent.appR | apply Ent.skip)))))) (by assumption)) ?_
 | refine SLl.rdSeq rfl rfl (Rd.neNilT rfl rfl (by (first | exact Len.nil | (apply Len.row; (· (repeat (first | apply Sel.here | apply Sel.there | apply Upd.here | apply Upd.there)))) | (apply Len.rs; exact Rs.mono (by assumption) (by (repeat' (first | exact Ent.refl | exact Ent.drop | exact Ent.appR | apply Ent.skip)))))) (by assumption)) ?_
 | refine SLl.pu rfl rfl rfl (Pu.eqPtrNil rfl rfl) ?_
 | refine SLl.pu rfl rfl rfl (Pu.eqBool rfl rfl) ?_
 | refine SLl.pu rfl rfl rfl (Pu.neBool rfl rfl) ?_
 | refine SLl.pu rfl rfl rfl (Pu.nePtrNil rfl rfl) ?_
 | refine SLl.pu rfl rfl rfl (Pu.eqFuncNilF rfl rfl) ?_
 | refine SLl.pu rfl rfl rfl (Pu.eqFuncNilT rfl rfl) ?_))
 | ((show SLl _ _ _ _ _ (⟨⟨_, .store _ _ _, _, _, _, _⟩, _, _⟩ :: _) _ _ _); (first | (refine SLl.seq0 rfl (SLo.store rfl rfl rfl (by (first | exact One.lit rfl | exact One.lit (by assumption) | exact One.mono (by assumption) (by (repeat' (first | exact Ent.refl | exact Ent.drop | exact Ent.appR | apply Ent.skip))) | exact One.len (by (first | exact Len.nil | (apply Len.row; (· (repeat (first | apply Sel.here | apply Sel.there | apply Upd.here | apply Upd.there)))) | (apply Len.rs; exact Rs.mono (by assumption) (by (repeat' (first | exact Ent.refl | exact Ent.drop | exact Ent.appR | apply Ent.skip)))))))) (by (first | (apply Wr.blk; (· (repeat (first | apply Sel.here | apply Sel.there | apply Upd.here | apply Upd.there))); (· exact Nat.le_of_ble_eq_true rfl)) | (apply Wr.row; (· (first | rfl | assumption)); (· exact Nat.le_of_ble_eq_true rfl); (· (repeat (first | apply Sel.here | apply Sel.there | apply Upd.here | apply Upd.there)))))) ?_)) | (refine SLl.seq0 rfl (SLo.storeN rfl rfl rfl (by (repeat' (first | exact trivial | (apply And.intro; (· (first | exact One.lit rfl | exact One.lit (by assumption) | exact One.mono (by assumption) (by (repeat' (first | exact Ent.refl | exact Ent.drop | exact Ent.appR | apply Ent.skip))) | exact One.len (by (first | exact Len.nil | (apply Len.row; (· (repeat (first | apply Sel.here | apply Sel.there | apply Upd.here | apply Upd.there)))) | (apply Len.rs; exact Rs.mono (by assumption) (by (repeat' (first | exact Ent.refl | exact Ent.drop | exact Ent.appR | apply Ent.skip)))))))))))) (Nat.le_of_ble_eq_true rfl) (by (repeat (first | apply Sel.here | apply Sel.there | apply Upd.here | apply Upd.there))) ?_))))
 | ((show SLl _ _ _ _ _ (⟨⟨_, .box _ _, _, _, _, _⟩, _, _⟩ :: _) _ _ _); refine SLl.seq rfl rfl (SLo.boxC rfl (by (first | exact Cel.one (by (first | exact One.lit rfl | exact One.lit (by assumption) | exact One.mono (by assumption) (by (repeat' (first | exact Ent.refl | exact Ent.drop | exact Ent.appR | apply Ent.skip))) | exact One.len (by (first | exact Len.nil | (apply Len.row; (· (repeat (first | apply Sel.here | apply Sel.there | apply Upd.here | apply Upd.there)))) | (apply Len.rs; exact Rs.mono (by assumption) (by (repeat' (first | exact Ent.refl | exact Ent.drop | exact Ent.appR | apply Ent.skip)))))))) | exact Cel.agg)) ?_); intro b)
 | ((show SLl _ _ _ _ _ (⟨⟨_, .alloc _, _, _, _, _⟩, _, _⟩ :: _) _ _ _); refine SLl.seq rfl rfl (SLo.alloc ?_); intro b)
 | ((show SLl _ _ _ _ _ (⟨⟨_, .build _ _, _, _, _, _⟩, _, _⟩ :: _) _ _ _); first
 | refine SLl.rdSeq rfl rfl (Rd.build rfl (by (repeat (first | exact CellsW.nil | (apply CellsW.cons; (· (first | exact Cel.one (by (first | exact One.lit rfl | exact One.lit (by assumption) | exact One.mono (by assumption) (by (repeat' (first | exact Ent.refl | exact Ent.drop | exact Ent.appR | apply Ent.skip))) | exact One.len (by (first | exact Len.nil | (apply Len.row; (· (repeat (first | apply Sel.here | apply Sel.there | apply Upd.here | apply Upd.there)))) | (apply Len.rs; exact Rs.mono (by assumption) (by (repeat' (first | exact Ent.refl | exact Ent.drop | exact Ent.appR | apply Ent.skip)))))))) | exact Cel.agg)))))) (by rfl)) ?_
 | refine SLl.pu rfl rfl rfl (Pu.build rfl rfl) ?_)
 | refine SLl.skip rfl rfl ?_))
 | (first
 | refine SLc.seq ?_
 | refine SLc.region rfl ?_
 | refine SLc.condT rfl ?_
 | refine SLc.condF rfl ?_
 | refine SLc.block ?_
 | refine SLc.skip ?_
 | refine SLc.exit ?_
 | refine SLc.ret ?_)))
  refine SLl.pu rfl rfl rfl (Pu.convInt rfl (IntWalk.i64_in _ (by omega))) ?_
  refine SLl.pu rfl rfl rfl (Pu.remN (j := 50) rfl rfl (by omega)) ?_
  refine SLl.pu rfl rfl rfl (Pu.add (r := ((1 + n % 50 : Nat) : Int)) rfl rfl (by rw [IntWalk.i64_in _ (by omega)]; omega)) ?_
  have hk1 : 1 ≤ 1 + n % 50 := by omega
  have hk2 : 1 + n % 50 ≤ 50 := by omega
  generalize 1 + n % 50 = k at hk1 hk2
  (repeat' (first
 | (first
 | refine SLl.nil ?_
 | ((show SLl _ _ _ _ _ (⟨⟨_, _, _, _, _, _⟩, _, _⟩ :: _) _ _ _); first
 | refine SLl.ev rfl rfl rfl rfl ?_
 | ((show SLl _ _ _ _ _ (⟨⟨_, .load _ _, _, _, _, _⟩, _, _⟩ :: _) _ _ _); (first | refine SLl.rdSeq rfl rfl (Rd.load rfl rfl (by (first | (apply Reads.blk; (· (repeat (first | apply Sel.here | apply Sel.there | apply Upd.here | apply Upd.there))); (· rfl)) | (apply Reads.row; (· (repeat (first | apply Sel.here | apply Sel.there | apply Upd.here | apply Upd.there))); (· (first | rfl | assumption)); (· rfl)) | (apply Reads.rs; (· exact Rs.mono (by assumption) (by (repeat' (first | exact Ent.refl | exact Ent.drop | exact Ent.appR | apply Ent.skip)))); (· (first | rfl | assumption)); (· rfl)) | exact Reads.mono (by assumption) (by (repeat' (first | exact Ent.refl | exact Ent.drop | exact Ent.appR | apply Ent.skip)))))) ?_ | refine SLl.rdSeq rfl rfl (Rd.loadN rfl rfl (by (first | exact ReadsN.mono (by assumption) (by (repeat' (first | exact Ent.refl | exact Ent.drop | exact Ent.appR | apply Ent.skip))) | (apply ReadsN.blk0; (· (repeat (first | apply Sel.here | apply Sel.there | apply Upd.here | apply Upd.there)))) | (apply ReadsN.row0; (· (repeat (first | apply Sel.here | apply Sel.there | apply Upd.here | apply Upd.there))); (· (first | rfl | assumption))) | (apply ReadsN.rs0; (· exact Rs.mono (by assumption) (by (repeat' (first | exact Ent.refl | exact Ent.drop | exact Ent.appR | apply Ent.skip)))); (· (first | rfl | assumption))))) (by rfl)) ?_))
 | ((show SLl _ _ _ _ _ (⟨⟨_, .fieldAddr _ _ _, _, _, _, _⟩, _, _⟩ :: _) _ _ _); (first | refine SLl.pu rfl rfl rfl (Pu.fieldAddr rfl) ?_ | refine SLl.rdSeq rfl rfl (Rd.fieldAddrEl rfl (by (first | exact Len.nil | (apply Len.row; (· (repeat (first | apply Sel.here | apply Sel.there | apply Upd.here | apply Upd.there)))) | (apply Len.rs; exact Rs.mono (by assumption) (by (repeat' (first | exact Ent.refl | exact Ent.drop | exact Ent.appR | apply Ent.skip)))))) (by omega)) ?_))
 | ((show SLl _ _ _ _ _ (⟨⟨_, .indexAddr _ _ _, _, _, _, _⟩, _, _⟩ :: _) _ _ _); (refine SLl.rdSeq rfl rfl (Rd.indexAddr rfl rfl (by (first | exact Len.nil | (apply Len.row; (· (repeat (first | apply Sel.here | apply Sel.there | apply Upd.here | apply Upd.there)))) | (apply Len.rs; exact Rs.mono (by assumption) (by (repeat' (first | exact Ent.refl | exact Ent.drop | exact Ent.appR | apply Ent.skip)))))) (by (first | exact ij0 | exact ij1 | exact ij2 | exact ij3 | exact ij4 | exact ij5 | exact ijs _ | exact ijm _ | rfl | exact (Int.toNat_of_nonneg (by omega)).symm)) (by omega)) ?_))
 | ((show SLl _ _ _ _ _ (⟨⟨_, .call ⟨.builtin .len, _, _⟩, _, _, _, _⟩, _, _⟩ :: _) _ _ _); refine SLl.rdSeq rfl rfl (Rd.len rfl (by (first | exact Len.nil | (apply Len.row; (· (repeat (first | apply Sel.here | apply Sel.there | apply Upd.here | apply Upd.there)))) | (apply Len.rs; exact Rs.mono (by assumption) (by (repeat' (first | exact Ent.refl | exact Ent.drop | exact Ent.appR | apply Ent.skip))))))) ?_)
 | ((show SLl _ _ _ _ _ (⟨⟨_, .binOp _ _ _ _ _, _, _, _, _⟩, _, _⟩ :: _) _ _ _); (first
 | refine SLl.pu rfl rfl rfl (Pu.add rfl rfl (IntWalk.i64_in _ (by omega))) ?_
 | refine SLl.pu rfl rfl rfl (Pu.sub rfl rfl (IntWalk.i64_in _ (by omega))) ?_
 | (refine SLl.cmp rfl rfl rfl rfl rfl rfl ?_ ?_ <;> intro hq <;> simp only [cmpP] at hq <;> try (first
 | exact (hq trivial).elim
 | (exfalso; omega)))
 | refine SLl.pu rfl rfl rfl (Pu.eqNilT rfl rfl) ?_
 | refine SLl.pu rfl rfl rfl (Pu.neNilF rfl rfl) ?_
 | refine SLl.rdSeq rfl rfl (Rd.eqNilF rfl rfl (by (first | exact Len.nil | (apply Len.row; (· (repeat (first | apply Sel.here | apply Sel.there | apply Upd.here | apply Upd.there)))) | (apply Len.rs; exact Rs.mono (by assumption) (by (repeat' (first | exact Ent.refl | exact Ent.drop | exact Ent.appR | apply Ent.skip)))))) (by assumption)) ?_
 | refine SLl.rdSeq rfl rfl (Rd.neNilT rfl rfl (by (first | exact Len.nil | (apply Len.row; (· (repeat (first | apply Sel.here | apply Sel.there | apply Upd.here | apply Upd.there)))) | (apply Len.rs; exact Rs.mono (by assumption) (by (repeat' (first | exact Ent.refl | exact Ent.drop | exact Ent.appR | apply Ent.skip)))))) (by assumption)) ?_
 | refine SLl.pu rfl rfl rfl (Pu.eqPtrNil rfl rfl) ?_
 | refine SLl.pu rfl rfl rfl (Pu.eqBool rfl rfl) ?_
 | refine SLl.pu rfl rfl rfl (Pu.neBool rfl rfl) ?_
 | refine SLl.pu rfl rfl rfl (Pu.nePtrNil rfl rfl) ?_
 | refine SLl.pu rfl rfl rfl (Pu.eqFuncNilF rfl rfl) ?_
 | refine SLl.pu rfl rfl rfl (Pu.eqFuncNilT rfl rfl) ?_))
 | ((show SLl _ _ _ _ _ (⟨⟨_, .store _ _ _, _, _, _, _⟩, _, _⟩ :: _) _ _ _); (first | (refine SLl.seq0 rfl (SLo.store rfl rfl rfl (by (first | exact One.lit rfl | exact One.lit (by assumption) | exact One.mono (by assumption) (by (repeat' (first | exact Ent.refl | exact Ent.drop | exact Ent.appR | apply Ent.skip))) | exact One.len (by (first | exact Len.nil | (apply Len.row; (· (repeat (first | apply Sel.here | apply Sel.there | apply Upd.here | apply Upd.there)))) | (apply Len.rs; exact Rs.mono (by assumption) (by (repeat' (first | exact Ent.refl | exact Ent.drop | exact Ent.appR | apply Ent.skip)))))))) (by (first | (apply Wr.blk; (· (repeat (first | apply Sel.here | apply Sel.there | apply Upd.here | apply Upd.there))); (· exact Nat.le_of_ble_eq_true rfl)) | (apply Wr.row; (· (first | rfl | assumption)); (· exact Nat.le_of_ble_eq_true rfl); (· (repeat (first | apply Sel.here | apply Sel.there | apply Upd.here | apply Upd.there)))))) ?_)) | (refine SLl.seq0 rfl (SLo.storeN rfl rfl rfl (by (repeat' (first | exact trivial | (apply And.intro; (· (first | exact One.lit rfl | exact One.lit (by assumption) | exact One.mono (by assumption) (by (repeat' (first | exact Ent.refl | exact Ent.drop | exact Ent.appR | apply Ent.skip))) | exact One.len (by (first | exact Len.nil | (apply Len.row; (· (repeat (first | apply Sel.here | apply Sel.there | apply Upd.here | apply Upd.there)))) | (apply Len.rs; exact Rs.mono (by assumption) (by (repeat' (first | exact Ent.refl | exact Ent.drop | exact Ent.appR | apply Ent.skip)))))))))))) (Nat.le_of_ble_eq_true rfl) (by (repeat (first | apply Sel.here | apply Sel.there | apply Upd.here | apply Upd.there))) ?_))))
 | ((show SLl _ _ _ _ _ (⟨⟨_, .box _ _, _, _, _, _⟩, _, _⟩ :: _) _ _ _); refine SLl.seq rfl rfl (SLo.boxC rfl (by (first | exact Cel.one (by (first | exact One.lit rfl | exact One.lit (by assumption) | exact One.mono (by assumption) (by (repeat' (first | exact Ent.refl | exact Ent.drop | exact Ent.appR | apply Ent.skip))) | exact One.len (by (first | exact Len.nil | (apply Len.row; (· (repeat (first | apply Sel.here | apply Sel.there | apply Upd.here | apply Upd.there)))) | (apply Len.rs; exact Rs.mono (by assumption) (by (repeat' (first | exact Ent.refl | exact Ent.drop | exact Ent.appR | apply Ent.skip)))))))) | exact Cel.agg)) ?_); intro b)
 | ((show SLl _ _ _ _ _ (⟨⟨_, .alloc _, _, _, _, _⟩, _, _⟩ :: _) _ _ _); refine SLl.seq rfl rfl (SLo.alloc ?_); intro b)
 | ((show SLl _ _ _ _ _ (⟨⟨_, .build _ _, _, _, _, _⟩, _, _⟩ :: _) _ _ _); first
 | refine SLl.rdSeq rfl rfl (Rd.build rfl (by (repeat (first | exact CellsW.nil | (apply CellsW.cons; (· (first | exact Cel.one (by (first | exact One.lit rfl | exact One.lit (by assumption) | exact One.mono (by assumption) (by (repeat' (first | exact Ent.refl | exact Ent.drop | exact Ent.appR | apply Ent.skip))) | exact One.len (by (first | exact Len.nil | (apply Len.row; (· (repeat (first | apply Sel.here | apply Sel.there | apply Upd.here | apply Upd.there)))) | (apply Len.rs; exact Rs.mono (by assumption) (by (repeat' (first | exact Ent.refl | exact Ent.drop | exact Ent.appR | apply Ent.skip)))))))) | exact Cel.agg)))))) (by rfl)) ?_
 | refine SLl.pu rfl rfl rfl (Pu.build rfl rfl) ?_)
 | refine SLl.skip rfl rfl ?_))
 | (first
 | refine SLc.seq ?_
 | refine SLc.region rfl ?_
 | refine SLc.condT rfl ?_
 | refine SLc.condF rfl ?_
 | refine SLc.block ?_
 | refine SLc.skip ?_
 | refine SLc.exit ?_
 | refine SLc.ret ?_)))
  refine SLl.seq rfl rfl (SLo.call plain68 rfl (SLf.mono (LaNew_ok W _ sb (k : Int)) ?_))
  rintro v σ2 ⟨lb, rfl, rfl⟩
  rw [show max (k : Int) 0 = k by omega]
  (repeat' (first
 | (first
 | refine SLl.nil ?_
 | ((show SLl _ _ _ _ _ (⟨⟨_, _, _, _, _, _⟩, _, _⟩ :: _) _ _ _); first
 | refine SLl.ev rfl rfl rfl rfl ?_
 | ((show SLl _ _ _ _ _ (⟨⟨_, .load _ _, _, _, _, _⟩, _, _⟩ :: _) _ _ _); (first | refine SLl.rdSeq rfl rfl (Rd.load rfl rfl (by (first | (apply Reads.blk; (· (repeat (first | apply Sel.here | apply Sel.there | apply Upd.here | apply Upd.there))); (· rfl)) | (apply Reads.row; (· (repeat (first | apply Sel.here | apply Sel.there | apply Upd.here | apply Upd.there))); (· (first | rfl | assumption)); (· rfl)) | (apply Reads.rs; (· exact Rs.mono (by assumption) (by (repeat' (first | exact Ent.refl | exact Ent.drop | exact Ent.appR | apply Ent.skip)))); (· (first | rfl | assumption)); (· rfl)) | exact Reads.mono (by assumption) (by (repeat' (first | exact Ent.refl | exact Ent.drop | exact Ent.appR | apply Ent.skip)))))) ?_ | refine SLl.rdSeq rfl rfl (Rd.loadN rfl rfl (by (first | exact ReadsN.mono (by assumption) (by (repeat' (first | exact Ent.refl | exact Ent.drop | exact Ent.appR | apply Ent.skip))) | (apply ReadsN.blk0; (· (repeat (first | apply Sel.here | apply Sel.there | apply Upd.here | apply Upd.there)))) | (apply ReadsN.row0; (· (repeat (first | apply Sel.here | apply Sel.there | apply Upd.here | apply Upd.there))); (· (first | rfl | assumption))) | (apply ReadsN.rs0; (· exact Rs.mono (by assumption) (by (repeat' (first | exact Ent.refl | exact Ent.drop | exact Ent.appR | apply Ent.skip)))); (· (first | rfl | assumption))))) (by rfl)) ?_))
 | ((show SLl _ _ _ _ _ (⟨⟨_, .fieldAddr _ _ _, _, _, _, _⟩, _, _⟩ :: _) _ _ _); (first | refine SLl.pu rfl rfl rfl (Pu.fieldAddr rfl) ?_ | refine SLl.rdSeq rfl rfl (Rd.fieldAddrEl rfl (by (first | exact Len.nil | (apply Len.row; (· (repeat (first | apply Sel.here | apply Sel.there | apply Upd.here | apply Upd.there)))) | (apply Len.rs; exact Rs.mono (by assumption) (by (repeat' (first | exact Ent.refl | exact Ent.drop | exact Ent.appR | apply Ent.skip)))))) (by omega)) ?_))
 | ((show SLl _ _ _ _ _ (⟨⟨_, .indexAddr _ _ _, _, _, _, _⟩, _, _⟩ :: _) _ _ _); (refine SLl.rdSeq rfl rfl (Rd.indexAddr rfl rfl (by (first | exact Len.nil | (apply Len.row; (· (repeat (first | apply Sel.here | apply Sel.there | apply Upd.here | apply Upd.there)))) | (apply Len.rs; exact Rs.mono (by assumption) (by (repeat' (first | exact Ent.refl | exact Ent.drop | exact Ent.appR | apply Ent.skip)))))) (by (first | exact ij0 | exact ij1 | exact ij2 | exact ij3 | exact ij4 | exact ij5 | exact ijs _ | exact ijm _ | rfl | exact (Int.toNat_of_nonneg (by omega)).symm)) (by omega)) ?_))
 | ((show SLl _ _ _ _ _ (⟨⟨_, .call ⟨.builtin .len, _, _⟩, _, _, _, _⟩, _, _⟩ :: _) _ _ _); refine SLl.rdSeq rfl rfl (Rd.len rfl (by (first | exact Len.nil | (apply Len.row; (· (repeat (first | apply Sel.here | apply Sel.there | apply Upd.here | apply Upd.there)))) | (apply Len.rs; exact Rs.mono (by assumption) (by (repeat' (first | exact Ent.refl | exact Ent.drop | exact Ent.appR | apply Ent.skip))))))) ?_)
 | ((show SLl _ _ _ _ _ (⟨⟨_, .binOp _ _ _ _ _, _, _, _, _⟩, _, _⟩ :: _) _ _ _); (first
 | refine SLl.pu rfl rfl rfl (Pu.add rfl rfl (IntWalk.i64_in _ (by omega))) ?_
 | refine SLl.pu rfl rfl rfl (Pu.sub rfl rfl (IntWalk.i64_in _ (by omega))) ?_
 | (refine SLl.cmp rfl rfl rfl rfl rfl rfl ?_ ?_ <;> intro hq <;> simp only [cmpP] at hq <;> try (first
 | exact (hq trivial).elim
 | (exfalso; omega)))
 | refine SLl.pu rfl rfl rfl (Pu.eqNilT rfl rfl) ?_
 | refine SLl.pu rfl rfl rfl (Pu.neNilF rfl rfl) ?_
 | refine SLl.rdSeq rfl rfl (Rd.eqNilF rfl rfl (by (first | exact Len.nil | (apply Len.row; (· (repeat (first | apply Sel.here | apply Sel.there | apply Upd.here | apply Upd.there)))) | (apply Len.rs; exact Rs.mono (by assumption) (by (repeat' (first | exact Ent.refl | exact Ent.drop | exact Ent.appR | apply Ent.skip)))))) (by assumption)) ?_
 | refine SLl.rdSeq rfl rfl (Rd.neNilT rfl rfl (by (first | exact Len.nil | (apply Len.row; (· (repeat (first | apply Sel.here | apply Sel.there | apply Upd.here | apply Upd.there)))) | (apply Len.rs; exact Rs.mono (by assumption) (by (repeat' (first | exact Ent.refl | exact Ent.drop | exact Ent.appR | apply Ent.skip)))))) (by assumption)) ?_
 | refine SLl.pu rfl rfl rfl (Pu.eqPtrNil rfl rfl) ?_
 | refine SLl.pu rfl rfl rfl (Pu.eqBool rfl rfl) ?_
 | refine SLl.pu rfl rfl rfl (Pu.neBool rfl rfl) ?_
 | refine SLl.pu rfl rfl rfl (Pu.nePtrNil rfl rfl) ?_
 | refine SLl.pu rfl rfl rfl (Pu.eqFuncNilF rfl rfl) ?_
 | refine SLl.pu rfl rfl rfl (Pu.eqFuncNilT rfl rfl) ?_))
 | ((show SLl _ _ _ _ _ (⟨⟨_, .store _ _ _, _, _, _, _⟩, _, _⟩ :: _) _ _ _); (first | (refine SLl.seq0 rfl (SLo.store rfl rfl rfl (by (first | exact One.lit rfl | exact One.lit (by assumption) | exact One.mono (by assumption) (by (repeat' (first | exact Ent.refl | exact Ent.drop | exact Ent.appR | apply Ent.skip))) | exact One.len (by (first | exact Len.nil | (apply Len.row; (· (repeat (first | apply Sel.here | apply Sel.there | apply Upd.here | apply Upd.there)))) | (apply Len.rs; exact Rs.mono (by assumption) (by (repeat' (first | exact Ent.refl | exact Ent.drop | exact Ent.appR | apply Ent.skip)))))))) (by (first | (apply Wr.blk; (· (repeat (first | apply Sel.here | apply Sel.there | apply Upd.here | apply Upd.there))); (· exact Nat.le_of_ble_eq_true rfl)) | (apply Wr.row; (· (first | rfl | assumption)); (· exact Nat.le_of_ble_eq_true rfl); (· (repeat (first | apply Sel.here | apply Sel.there | apply Upd.here | apply Upd.there)))))) ?_)) | (refine SLl.seq0 rfl (SLo.storeN rfl rfl rfl (by (repeat' (first | exact trivial | (apply And.intro; (· (first | exact One.lit rfl | exact One.lit (by assumption) | exact One.mono (by assumption) (by (repeat' (first | exact Ent.refl | exact Ent.drop | exact Ent.appR | apply Ent.skip))) | exact One.len (by (first | exact Len.nil | (apply Len.row; (· (repeat (first | apply Sel.here | apply Sel.there | apply Upd.here | apply Upd.there)))) | (apply Len.rs; exact Rs.mono (by assumption) (by (repeat' (first | exact Ent.refl | exact Ent.drop | exact Ent.appR | apply Ent.skip)))))))))))) (Nat.le_of_ble_eq_true rfl) (by (repeat (first | apply Sel.here | apply Sel.there | apply Upd.here | apply Upd.there))) ?_))))
 | ((show SLl _ _ _ _ _ (⟨⟨_, .box _ _, _, _, _, _⟩, _, _⟩ :: _) _ _ _); refine SLl.seq rfl rfl (SLo.boxC rfl (by (first | exact Cel.one (by (first | exact One.lit rfl | exact One.lit (by assumption) | exact One.mono (by assumption) (by (repeat' (first | exact Ent.refl | exact Ent.drop | exact Ent.appR | apply Ent.skip))) | exact One.len (by (first | exact Len.nil | (apply Len.row; (· (repeat (first | apply Sel.here | apply Sel.there | apply Upd.here | apply Upd.there)))) | (apply Len.rs; exact Rs.mono (by assumption) (by (repeat' (first | exact Ent.refl | exact Ent.drop | exact Ent.appR | apply Ent.skip)))))))) | exact Cel.agg)) ?_); intro b)
 | ((show SLl _ _ _ _ _ (⟨⟨_, .alloc _, _, _, _, _⟩, _, _⟩ :: _) _ _ _); refine SLl.seq rfl rfl (SLo.alloc ?_); intro b)
 | ((show SLl _ _ _ _ _ (⟨⟨_, .build _ _, _, _, _, _⟩, _, _⟩ :: _) _ _ _); first
 | refine SLl.rdSeq rfl rfl (Rd.build rfl (by (repeat (first | exact CellsW.nil | (apply CellsW.cons; (· (first | exact Cel.one (by (first | exact One.lit rfl | exact One.lit (by assumption) | exact One.mono (by assumption) (by (repeat' (first | exact Ent.refl | exact Ent.drop | exact Ent.appR | apply Ent.skip))) | exact One.len (by (first | exact Len.nil | (apply Len.row; (· (repeat (first | apply Sel.here | apply Sel.there | apply Upd.here | apply Upd.there)))) | (apply Len.rs; exact Rs.mono (by assumption) (by (repeat' (first | exact Ent.refl | exact Ent.drop | exact Ent.appR | apply Ent.skip)))))))) | exact Cel.agg)))))) (by rfl)) ?_
 | refine SLl.pu rfl rfl rfl (Pu.build rfl rfl) ?_)
 | refine SLl.skip rfl rfl ?_))
 | (first
 | refine SLc.seq ?_
 | refine SLc.region rfl ?_
 | refine SLc.condT rfl ?_
 | refine SLc.condF rfl ?_
 | refine SLc.block ?_
 | refine SLc.skip ?_
 | refine SLc.exit ?_
 | refine SLc.ret ?_)))
  refine SLc.loop (ι := Nat × Int) (fun s => [(8, .int .i64 s.1), (7, ptr lb), (6, .int .i64 s.2), (5, ptr sb), (1, uv), (4, .bool false)]) (fun s => latC lb sb (.slice none 0 0) ⟨s.2, []⟩ ++ (schC sb pv lw oneW ++ [])) (fun s => s.1 ≤ U.length ∧ 1 ≤ s.2 ∧ s.2 ≤ 50 + 255 * s.1) (fun s => U.length - s.1) (0, (k : Int)) ⟨Nat.zero_le _, by dsimp only; omega, by dsimp only; omega⟩ (by (repeat' (first | exact trivial | apply And.intro | rfl))) .refl ?_
  rintro ⟨i, K⟩ ⟨hi, hK1, hK2⟩
  dsimp only at hi hK1 hK2 ⊢
  by_cases hlt : i < U.length
  · have hx : U[i]? = some U[i] := List.getElem?_eq_getElem hlt
    have hx2 := hU _ (List.getElem_mem hlt)
    generalize U[i] = x at hx hx2
    have hxc := u8L_at hx
    (repeat' (first
 | (first
 | refine SLl.nil ?_
 | ((show SLl _ _ _ _ _ (⟨⟨_, _, _, _, _, _⟩, _, _⟩ :: _) _ _ _); first
 | refine SLl.ev rfl rfl rfl rfl ?_
 | ((show SLl _ _ _ _ _ (⟨⟨_, .load _ _, _, _, _, _⟩, _, _⟩ :: _) _ _ _); (first | refine SLl.rdSeq rfl rfl (Rd.load rfl rfl (by (first | (apply Reads.blk; (· (repeat (first | apply Sel.here | apply Sel.there | apply Upd.here | apply Upd.there))); (· rfl)) | (apply Reads.row; (· (repeat (first | apply Sel.here | apply Sel.there | apply Upd.here | apply Upd.there))); (· (first | rfl | assumption)); (· rfl)) | (apply Reads.rs; (· exact Rs.mono (by assumption) (by (repeat' (first | exact Ent.refl | exact Ent.drop | exact Ent.appR | apply Ent.skip)))); (· (first | rfl | assumption)); (· rfl)) | exact Reads.mono (by assumption) (by (repeat' (first | exact Ent.refl | exact Ent.drop | exact Ent.appR | apply Ent.skip)))))) ?_ | refine SLl.rdSeq rfl rfl (Rd.loadN rfl rfl (by (first | exact ReadsN.mono (by assumption) (by (repeat' (first | exact Ent.refl | exact Ent.drop | exact Ent.appR | apply Ent.skip))) | (apply ReadsN.blk0; (· (repeat (first | apply Sel.here | apply Sel.there | apply Upd.here | apply Upd.there)))) | (apply ReadsN.row0; (· (repeat (first | apply Sel.here | apply Sel.there | apply Upd.here | apply Upd.there))); (· (first | rfl | assumption))) | (apply ReadsN.rs0; (· exact Rs.mono (by assumption) (by (repeat' (first | exact Ent.refl | exact Ent.drop | exact Ent.appR | apply Ent.skip)))); (· (first | rfl | assumption))))) (by rfl)) ?_))
 | ((show SLl _ _ _ _ _ (⟨⟨_, .fieldAddr _ _ _, _, _, _, _⟩, _, _⟩ :: _) _ _ _); (first | refine SLl.pu rfl rfl rfl (Pu.fieldAddr rfl) ?_ | refine SLl.rdSeq rfl rfl (Rd.fieldAddrEl rfl (by (first | exact Len.nil | (apply Len.row; (· (repeat (first | apply Sel.here | apply Sel.there | apply Upd.here | apply Upd.there)))) | (apply Len.rs; exact Rs.mono (by assumption) (by (repeat' (first | exact Ent.refl | exact Ent.drop | exact Ent.appR | apply Ent.skip)))))) (by omega)) ?_))
 | ((show SLl _ _ _ _ _ (⟨⟨_, .indexAddr _ _ _, _, _, _, _⟩, _, _⟩ :: _) _ _ _); (refine SLl.rdSeq rfl rfl (Rd.indexAddr rfl rfl (by (first | exact Len.nil | (apply Len.row; (· (repeat (first | apply Sel.here | apply Sel.there | apply Upd.here | apply Upd.there)))) | (apply Len.rs; exact Rs.mono (by assumption) (by (repeat' (first | exact Ent.refl | exact Ent.drop | exact Ent.appR | apply Ent.skip)))))) (by (first | exact ij0 | exact ij1 | exact ij2 | exact ij3 | exact ij4 | exact ij5 | exact ijs _ | exact ijm _ | rfl | exact (Int.toNat_of_nonneg (by omega)).symm)) (by omega)) ?_))
 | ((show SLl _ _ _ _ _ (⟨⟨_, .call ⟨.builtin .len, _, _⟩, _, _, _, _⟩, _, _⟩ :: _) _ _ _); refine SLl.rdSeq rfl rfl (Rd.len rfl (by (first | exact Len.nil | (apply Len.row; (· (repeat (first | apply Sel.here | apply Sel.there | apply Upd.here | apply Upd.there)))) | (apply Len.rs; exact Rs.mono (by assumption) (by (repeat' (first | exact Ent.refl | exact Ent.drop | exact Ent.appR | apply Ent.skip))))))) ?_)
 | ((show SLl _ _ _ _ _ (⟨⟨_, .binOp _ _ _ _ _, _, _, _, _⟩, _, _⟩ :: _) _ _ _); (first
 | refine SLl.pu rfl rfl rfl (Pu.add rfl rfl (IntWalk.i64_in _ (by omega))) ?_
 | refine SLl.pu rfl rfl rfl (Pu.sub rfl rfl (IntWalk.i64_in _ (by omega))) ?_
 | (refine SLl.cmp rfl rfl rfl rfl rfl rfl ?_ ?_ <;> intro hq <;> simp only [cmpP] at hq <;> try (first
 | exact (hq trivial).elim
 | (exfalso; omega)))
 | refine SLl.pu rfl rfl rfl (Pu.eqNilT rfl rfl) ?_
 | refine SLl.pu rfl rfl rfl (Pu.neNilF rfl rfl) ?_
 | refine SLl.rdSeq rfl rfl (Rd.eqNilF rfl rfl (by (first | exact Len.nil | (apply Len.row; (· (repeat (first | apply Sel.here | apply Sel.there | apply Upd.here | apply Upd.there)))) | (apply Len.rs; exact Rs.mono (by assumption) (by (repeat' (first | exact Ent.refl | exact Ent.drop | exact Ent.appR | apply Ent.skip)))))) (by assumption)) ?_
 | refine SLl.rdSeq rfl rfl (Rd.neNilT rfl rfl (by (first | exact Len.nil | (apply Len.row; (· (repeat (first | apply Sel.here | apply Sel.there | apply Upd.here | apply Upd.there)))) | (apply Len.rs; exact Rs.mono (by assumption) (by (repeat' (first | exact Ent.refl | exact Ent.drop | exact Ent.appR | apply Ent.skip)))))) (by assumption)) ?_
 | refine SLl.pu rfl rfl rfl (Pu.eqPtrNil rfl rfl) ?_
 | refine SLl.pu rfl rfl rfl (Pu.eqBool rfl rfl) ?_
 | refine SLl.pu rfl rfl rfl (Pu.neBool rfl rfl) ?_
 | refine SLl.pu rfl rfl rfl (Pu.nePtrNil rfl rfl) ?_
 | refine SLl.pu rfl rfl rfl (Pu.eqFuncNilF rfl rfl) ?_
 | refine SLl.pu rfl rfl rfl (Pu.eqFuncNilT rfl rfl) ?_))
 | ((show SLl _ _ _ _ _ (⟨⟨_, .store _ _ _, _, _, _, _⟩, _, _⟩ :: _) _ _ _); (first | (refine SLl.seq0 rfl (SLo.store rfl rfl rfl (by (first | exact One.lit rfl | exact One.lit (by assumption) | exact One.mono (by assumption) (by (repeat' (first | exact Ent.refl | exact Ent.drop | exact Ent.appR | apply Ent.skip))) | exact One.len (by (first | exact Len.nil | (apply Len.row; (· (repeat (first | apply Sel.here | apply Sel.there | apply Upd.here | apply Upd.there)))) | (apply Len.rs; exact Rs.mono (by assumption) (by (repeat' (first | exact Ent.refl | exact Ent.drop | exact Ent.appR | apply Ent.skip)))))))) (by (first | (apply Wr.blk; (· (repeat (first | apply Sel.here | apply Sel.there | apply Upd.here | apply Upd.there))); (· exact Nat.le_of_ble_eq_true rfl)) | (apply Wr.row; (· (first | rfl | assumption)); (· exact Nat.le_of_ble_eq_true rfl); (· (repeat (first | apply Sel.here | apply Sel.there | apply Upd.here | apply Upd.there)))))) ?_)) | (refine SLl.seq0 rfl (SLo.storeN rfl rfl rfl (by (repeat' (first | exact trivial | (apply And.intro; (· (first | exact One.lit rfl | exact One.lit (by assumption) | exact One.mono (by assumption) (by (repeat' (first | exact Ent.refl | exact Ent.drop | exact Ent.appR | apply Ent.skip))) | exact One.len (by (first | exact Len.nil | (apply Len.row; (· (repeat (first | apply Sel.here | apply Sel.there | apply Upd.here | apply Upd.there)))) | (apply Len.rs; exact Rs.mono (by assumption) (by (repeat' (first | exact Ent.refl | exact Ent.drop | exact Ent.appR | apply Ent.skip)))))))))))) (Nat.le_of_ble_eq_true rfl) (by (repeat (first | apply Sel.here | apply Sel.there | apply Upd.here | apply Upd.there))) ?_))))
 | ((show SLl _ _ _ _ _ (⟨⟨_, .box _ _, _, _, _, _⟩, _, _⟩ :: _) _ _ _); refine SLl.seq rfl rfl (SLo.boxC rfl (by (first | exact Cel.one (by (first | exact One.lit rfl | exact One.lit (by assumption) | exact One.mono (by assumption) (by (repeat' (first | exact Ent.refl | exact Ent.drop | exact Ent.appR | apply Ent.skip))) | exact One.len (by (first | exact Len.nil | (apply Len.row; (· (repeat (first | apply Sel.here | apply Sel.there | apply Upd.here | apply Upd.there)))) | (apply Len.rs; exact Rs.mono (by assumption) (by (repeat' (first | exact Ent.refl | exact Ent.drop | exact Ent.appR | apply Ent.skip)))))))) | exact Cel.agg)) ?_); intro b)
 | ((show SLl _ _ _ _ _ (⟨⟨_, .alloc _, _, _, _, _⟩, _, _⟩ :: _) _ _ _); refine SLl.seq rfl rfl (SLo.alloc ?_); intro b)
 | ((show SLl _ _ _ _ _ (⟨⟨_, .build _ _, _, _, _, _⟩, _, _⟩ :: _) _ _ _); first
 | refine SLl.rdSeq rfl rfl (Rd.build rfl (by (repeat (first | exact CellsW.nil | (apply CellsW.cons; (· (first | exact Cel.one (by (first | exact One.lit rfl | exact One.lit (by assumption) | exact One.mono (by assumption) (by (repeat' (first | exact Ent.refl | exact Ent.drop | exact Ent.appR | apply Ent.skip))) | exact One.len (by (first | exact Len.nil | (apply Len.row; (· (repeat (first | apply Sel.here | apply Sel.there | apply Upd.here | apply Upd.there)))) | (apply Len.rs; exact Rs.mono (by assumption) (by (repeat' (first | exact Ent.refl | exact Ent.drop | exact Ent.appR | apply Ent.skip)))))))) | exact Cel.agg)))))) (by rfl)) ?_
 | refine SLl.pu rfl rfl rfl (Pu.build rfl rfl) ?_)
 | refine SLl.skip rfl rfl ?_))
 | (first
 | refine SLc.seq ?_
 | refine SLc.region rfl ?_
 | refine SLc.condT rfl ?_
 | refine SLc.condF rfl ?_
 | refine SLc.block ?_
 | refine SLc.skip ?_
 | refine SLc.exit ?_
 | refine SLc.ret ?_)))
    refine SLl.pu rfl rfl rfl (Pu.convInt rfl (IntWalk.i64_in _ (by omega))) ?_
    refine SLl.seq rfl rfl (SLo.call plain75 rfl (SLf.mono (Up_at W _ lb sb (.slice none 0 0) (L := ⟨K, []⟩) (bv := true) (L' := ⟨K + x, []⟩) (by simp [upOk]; omega) rfl (by dsimp only; omega) (by dsimp only; omega)) ?_))
    rintro v σ2 ⟨rfl, rfl⟩
    (repeat' (first
 | (first
 | refine SLl.nil ?_
 | ((show SLl _ _ _ _ _ (⟨⟨_, _, _, _, _, _⟩, _, _⟩ :: _) _ _ _); first
 | refine SLl.ev rfl rfl rfl rfl ?_
 | ((show SLl _ _ _ _ _ (⟨⟨_, .load _ _, _, _, _, _⟩, _, _⟩ :: _) _ _ _); (first | refine SLl.rdSeq rfl rfl (Rd.load rfl rfl (by (first | (apply Reads.blk; (· (repeat (first | apply Sel.here | apply Sel.there | apply Upd.here | apply Upd.there))); (· rfl)) | (apply Reads.row; (· (repeat (first | apply Sel.here | apply Sel.there | apply Upd.here | apply Upd.there))); (· (first | rfl | assumption)); (· rfl)) | (apply Reads.rs; (· exact Rs.mono (by assumption) (by (repeat' (first | exact Ent.refl | exact Ent.drop | exact Ent.appR | apply Ent.skip)))); (· (first | rfl | assumption)); (· rfl)) | exact Reads.mono (by assumption) (by (repeat' (first | exact Ent.refl | exact Ent.drop | exact Ent.appR | apply Ent.skip)))))) ?_ | refine SLl.rdSeq rfl rfl (Rd.loadN rfl rfl (by (first | exact ReadsN.mono (by assumption) (by (repeat' (first | exact Ent.refl | exact Ent.drop | exact Ent.appR | apply Ent.skip))) | (apply ReadsN.blk0; (· (repeat (first | apply Sel.here | apply Sel.there | apply Upd.here | apply Upd.there)))) | (apply ReadsN.row0; (· (repeat (first | apply Sel.here | apply Sel.there | apply Upd.here | apply Upd.there))); (· (first | rfl | assumption))) | (apply ReadsN.rs0; (· exact Rs.mono (by assumption) (by (repeat' (first | exact Ent.refl | exact Ent.drop | exact Ent.appR | apply Ent.skip)))); (· (first | rfl | assumption))))) (by rfl)) ?_))
 | ((show SLl _ _ _ _ _ (⟨⟨_, .fieldAddr _ _ _, _, _, _, _⟩, _, _⟩ :: _) _ _ _); (first | refine SLl.pu rfl rfl rfl (Pu.fieldAddr rfl) ?_ | refine SLl.rdSeq rfl rfl (Rd.fieldAddrEl rfl (by (first | exact Len.nil | (apply Len.row; (· (repeat (first | apply Sel.here | apply Sel.there | apply Upd.here | apply Upd.there)))) | (apply Len.rs; exact Rs.mono (by assumption) (by (repeat' (first | exact Ent.refl | exact Ent.drop | exact Ent.appR | apply Ent.skip)))))) (by omega)) ?_))
 | ((show SLl _ _ _ _ _ (⟨⟨_, .indexAddr _ _ _, _, _, _, _⟩, _, _⟩ :: _) _ _ _); (refine SLl.rdSeq rfl rfl (Rd.indexAddr rfl rfl (by (first | exact Len.nil | (apply Len.row; (· (repeat (first | apply Sel.here | apply Sel.there | apply Upd.here | apply Upd.there)))) | (apply Len.rs; exact Rs.mono (by assumption) (by (repeat' (first | exact Ent.refl | exact Ent.drop | exact Ent.appR | apply Ent.skip)))))) (by (first | exact ij0 | exact ij1 | exact ij2 | exact ij3 | exact ij4 | exact ij5 | exact ijs _ | exact ijm _ | rfl | exact (Int.toNat_of_nonneg (by omega)).symm)) (by omega)) ?_))
 | ((show SLl _ _ _ _ _ (⟨⟨_, .call ⟨.builtin .len, _, _⟩, _, _, _, _⟩, _, _⟩ :: _) _ _ _); refine SLl.rdSeq rfl rfl (Rd.len rfl (by (first | exact Len.nil | (apply Len.row; (· (repeat (first | apply Sel.here | apply Sel.there | apply Upd.here | apply Upd.there)))) | (apply Len.rs; exact Rs.mono (by assumption) (by (repeat' (first | exact Ent.refl | exact Ent.drop | exact Ent.appR | apply Ent.skip))))))) ?_)
 | ((show SLl _ _ _ _ _ (⟨⟨_, .binOp _ _ _ _ _, _, _, _, _⟩, _, _⟩ :: _) _ _ _); (first
 | refine SLl.pu rfl rfl rfl (Pu.add rfl rfl (IntWalk.i64_in _ (by omega))) ?_
 | refine SLl.pu rfl rfl rfl (Pu.sub rfl rfl (IntWalk.i64_in _ (by omega))) ?_
 | (refine SLl.cmp rfl rfl rfl rfl rfl rfl ?_ ?_ <;> intro hq <;> simp only [cmpP] at hq <;> try (first
 | exact (hq trivial).elim
 | (exfalso; omega)))
 | refine SLl.pu rfl rfl rfl (Pu.eqNilT rfl rfl) ?_
 | refine SLl.pu rfl rfl rfl (Pu.neNilF rfl rfl) ?_
 | refine SLl.rdSeq rfl rfl (Rd.eqNilF rfl rfl (by (first | exact Len.nil | (apply Len.row; (· (repeat (first | apply Sel.here | apply Sel.there | apply Upd.here | apply Upd.there)))) | (apply Len.rs; exact Rs.mono (by assumption) (by (repeat' (first | exact Ent.refl | exact Ent.drop | exact Ent.appR | apply Ent.skip)))))) (by assumption)) ?_
 | refine SLl.rdSeq rfl rfl (Rd.neNilT rfl rfl (by (first | exact Len.nil | (apply Len.row; (· (repeat (first | apply Sel.here | apply Sel.there | apply Upd.here | apply Upd.there)))) | (apply Len.rs; exact Rs.mono (by assumption) (by (repeat' (first | exact Ent.refl | exact Ent.drop | exact Ent.appR | apply Ent.skip)))))) (by assumption)) ?_
 | refine SLl.pu rfl rfl rfl (Pu.eqPtrNil rfl rfl) ?_
 | refine SLl.pu rfl rfl rfl (Pu.eqBool rfl rfl) ?_
 | refine SLl.pu rfl rfl rfl (Pu.neBool rfl rfl) ?_
 | refine SLl.pu rfl rfl rfl (Pu.nePtrNil rfl rfl) ?_
 | refine SLl.pu rfl rfl rfl (Pu.eqFuncNilF rfl rfl) ?_
 | refine SLl.pu rfl rfl rfl (Pu.eqFuncNilT rfl rfl) ?_))
 | ((show SLl _ _ _ _ _ (⟨⟨_, .store _ _ _, _, _, _, _⟩, _, _⟩ :: _) _ _ _); (first | (refine SLl.seq0 rfl (SLo.store rfl rfl rfl (by (first | exact One.lit rfl | exact One.lit (by assumption) | exact One.mono (by assumption) (by (repeat' (first | exact Ent.refl | exact Ent.drop | exact Ent.appR | apply Ent.skip))) | exact One.len (by (first | exact Len.nil | (apply Len.row; (· (repeat (first | apply Sel.here | apply Sel.there | apply Upd.here | apply Upd.there)))) | (apply Len.rs; exact Rs.mono (by assumption) (by (repeat' (first | exact Ent.refl | exact Ent.drop | exact Ent.appR | apply Ent.skip)))))))) (by (first | (apply Wr.blk; (· (repeat (first | apply Sel.here | apply Sel.there | apply Upd.here | apply Upd.there))); (· exact Nat.le_of_ble_eq_true rfl)) | (apply Wr.row; (· (first | rfl | assumption)); (· exact Nat.le_of_ble_eq_true rfl); (· (repeat (first | apply Sel.here | apply Sel.there | apply Upd.here | apply Upd.there)))))) ?_)) | (refine SLl.seq0 rfl (SLo.storeN rfl rfl rfl (by (repeat' (first | exact trivial | (apply And.intro; (· (first | exact One.lit rfl | exact One.lit (by assumption) | exact One.mono (by assumption) (by (repeat' (first | exact Ent.refl | exact Ent.drop | exact Ent.appR | apply Ent.skip))) | exact One.len (by (first | exact Len.nil | (apply Len.row; (· (repeat (first | apply Sel.here | apply Sel.there | apply Upd.here | apply Upd.there)))) | (apply Len.rs; exact Rs.mono (by assumption) (by (repeat' (first | exact Ent.refl | exact Ent.drop | exact Ent.appR | apply Ent.skip)))))))))))) (Nat.le_of_ble_eq_true rfl) (by (repeat (first | apply Sel.here | apply Sel.there | apply Upd.here | apply Upd.there))) ?_))))
 | ((show SLl _ _ _ _ _ (⟨⟨_, .box _ _, _, _, _, _⟩, _, _⟩ :: _) _ _ _); refine SLl.seq rfl rfl (SLo.boxC rfl (by (first | exact Cel.one (by (first | exact One.lit rfl | exact One.lit (by assumption) | exact One.mono (by assumption) (by (repeat' (first | exact Ent.refl | exact Ent.drop | exact Ent.appR | apply Ent.skip))) | exact One.len (by (first | exact Len.nil | (apply Len.row; (· (repeat (first | apply Sel.here | apply Sel.there | apply Upd.here | apply Upd.there)))) | (apply Len.rs; exact Rs.mono (by assumption) (by (repeat' (first | exact Ent.refl | exact Ent.drop | exact Ent.appR | apply Ent.skip)))))))) | exact Cel.agg)) ?_); intro b)
 | ((show SLl _ _ _ _ _ (⟨⟨_, .alloc _, _, _, _, _⟩, _, _⟩ :: _) _ _ _); refine SLl.seq rfl rfl (SLo.alloc ?_); intro b)
 | ((show SLl _ _ _ _ _ (⟨⟨_, .build _ _, _, _, _, _⟩, _, _⟩ :: _) _ _ _); first
 | refine SLl.rdSeq rfl rfl (Rd.build rfl (by (repeat (first | exact CellsW.nil | (apply CellsW.cons; (· (first | exact Cel.one (by (first | exact One.lit rfl | exact One.lit (by assumption) | exact One.mono (by assumption) (by (repeat' (first | exact Ent.refl | exact Ent.drop | exact Ent.appR | apply Ent.skip))) | exact One.len (by (first | exact Len.nil | (apply Len.row; (· (repeat (first | apply Sel.here | apply Sel.there | apply Upd.here | apply Upd.there)))) | (apply Len.rs; exact Rs.mono (by assumption) (by (repeat' (first | exact Ent.refl | exact Ent.drop | exact Ent.appR | apply Ent.skip)))))))) | exact Cel.agg)))))) (by rfl)) ?_
 | refine SLl.pu rfl rfl rfl (Pu.build rfl rfl) ?_)
 | refine SLl.skip rfl rfl ?_))
 | (first
 | refine SLc.seq ?_
 | refine SLc.region rfl ?_
 | refine SLc.condT rfl ?_
 | refine SLc.condF rfl ?_
 | refine SLc.block ?_
 | refine SLc.skip ?_
 | refine SLc.exit ?_
 | refine SLc.ret ?_)))
    refine SLl.pu rfl rfl rfl (Pu.convInt rfl (IntWalk.i64_in _ (by omega))) ?_
    (repeat' (first
 | (first
 | refine SLl.nil ?_
 | ((show SLl _ _ _ _ _ (⟨⟨_, _, _, _, _, _⟩, _, _⟩ :: _) _ _ _); first
 | refine SLl.ev rfl rfl rfl rfl ?_
 | ((show SLl _ _ _ _ _ (⟨⟨_, .load _ _, _, _, _, _⟩, _, _⟩ :: _) _ _ _); (first | refine SLl.rdSeq rfl rfl (Rd.load rfl rfl (by (first | (apply Reads.blk; (· (repeat (first | apply Sel.here | apply Sel.there | apply Upd.here | apply Upd.there))); (· rfl)) | (apply Reads.row; (· (repeat (first | apply Sel.here | apply Sel.there | apply Upd.here | apply Upd.there))); (· (first | rfl | assumption)); (· rfl)) | (apply Reads.rs; (· exact Rs.mono (by assumption) (by (repeat' (first | exact Ent.refl | exact Ent.drop | exact Ent.appR | apply Ent.skip)))); (· (first | rfl | assumption)); (· rfl)) | exact Reads.mono (by assumption) (by (repeat' (first | exact Ent.refl | exact Ent.drop | exact Ent.appR | apply Ent.skip)))))) ?_ | refine SLl.rdSeq rfl rfl (Rd.loadN rfl rfl (by (first | exact ReadsN.mono (by assumption) (by (repeat' (first | exact Ent.refl | exact Ent.drop | exact Ent.appR | apply Ent.skip))) | (apply ReadsN.blk0; (· (repeat (first | apply Sel.here | apply Sel.there | apply Upd.here | apply Upd.there)))) | (apply ReadsN.row0; (· (repeat (first | apply Sel.here | apply Sel.there | apply Upd.here | apply Upd.there))); (· (first | rfl | assumption))) | (apply ReadsN.rs0; (· exact Rs.mono (by assumption) (by (repeat' (first | exact Ent.refl | exact Ent.drop | exact Ent.appR | apply Ent.skip)))); (· (first | rfl | assumption))))) (by rfl)) ?_))
 | ((show SLl _ _ _ _ _ (⟨⟨_, .fieldAddr _ _ _, _, _, _, _⟩, _, _⟩ :: _) _ _ _); (first | refine SLl.pu rfl rfl rfl (Pu.fieldAddr rfl) ?_ | refine SLl.rdSeq rfl rfl (Rd.fieldAddrEl rfl (by (first | exact Len.nil | (apply Len.row; (· (repeat (first | apply Sel.here | apply Sel.there | apply Upd.here | apply Upd.there)))) | (apply Len.rs; exact Rs.mono (by assumption) (by (repeat' (first | exact Ent.refl | exact Ent.drop | exact Ent.appR | apply Ent.skip)))))) (by omega)) ?_))
 | ((show SLl _ _ _ _ _ (⟨⟨_, .indexAddr _ _ _, _, _, _, _⟩, _, _⟩ :: _) _ _ _); (refine SLl.rdSeq rfl rfl (Rd.indexAddr rfl rfl (by (first | exact Len.nil | (apply Len.row; (· (repeat (first | apply Sel.here | apply Sel.there | apply Upd.here | apply Upd.there)))) | (apply Len.rs; exact Rs.mono (by assumption) (by (repeat' (first | exact Ent.refl | exact Ent.drop | exact Ent.appR | apply Ent.skip)))))) (by (first | exact ij0 | exact ij1 | exact ij2 | exact ij3 | exact ij4 | exact ij5 | exact ijs _ | exact ijm _ | rfl | exact (Int.toNat_of_nonneg (by omega)).symm)) (by omega)) ?_))
 | ((show SLl _ _ _ _ _ (⟨⟨_, .call ⟨.builtin .len, _, _⟩, _, _, _, _⟩, _, _⟩ :: _) _ _ _); refine SLl.rdSeq rfl rfl (Rd.len rfl (by (first | exact Len.nil | (apply Len.row; (· (repeat (first | apply Sel.here | apply Sel.there | apply Upd.here | apply Upd.there)))) | (apply Len.rs; exact Rs.mono (by assumption) (by (repeat' (first | exact Ent.refl | exact Ent.drop | exact Ent.appR | apply Ent.skip))))))) ?_)
 | ((show SLl _ _ _ _ _ (⟨⟨_, .binOp _ _ _ _ _, _, _, _, _⟩, _, _⟩ :: _) _ _ _); (first
 | refine SLl.pu rfl rfl rfl (Pu.add rfl rfl (IntWalk.i64_in _ (by omega))) ?_
 | refine SLl.pu rfl rfl rfl (Pu.sub rfl rfl (IntWalk.i64_in _ (by omega))) ?_
 | (refine SLl.cmp rfl rfl rfl rfl rfl rfl ?_ ?_ <;> intro hq <;> simp only [cmpP] at hq <;> try (first
 | exact (hq trivial).elim
 | (exfalso; omega)))
 | refine SLl.pu rfl rfl rfl (Pu.eqNilT rfl rfl) ?_
 | refine SLl.pu rfl rfl rfl (Pu.neNilF rfl rfl) ?_
 | refine SLl.rdSeq rfl rfl (Rd.eqNilF rfl rfl (by (first | exact Len.nil | (apply Len.row; (· (repeat (first | apply Sel.here | apply Sel.there | apply Upd.here | apply Upd.there)))) | (apply Len.rs; exact Rs.mono (by assumption) (by (repeat' (first | exact Ent.refl | exact Ent.drop | exact Ent.appR | apply Ent.skip)))))) (by assumption)) ?_
 | refine SLl.rdSeq rfl rfl (Rd.neNilT rfl rfl (by (first | exact Len.nil | (apply Len.row; (· (repeat (first | apply Sel.here | apply Sel.there | apply Upd.here | apply Upd.there)))) | (apply Len.rs; exact Rs.mono (by assumption) (by (repeat' (first | exact Ent.refl | exact Ent.drop | exact Ent.appR | apply Ent.skip)))))) (by assumption)) ?_
 | refine SLl.pu rfl rfl rfl (Pu.eqPtrNil rfl rfl) ?_
 | refine SLl.pu rfl rfl rfl (Pu.eqBool rfl rfl) ?_
 | refine SLl.pu rfl rfl rfl (Pu.neBool rfl rfl) ?_
 | refine SLl.pu rfl rfl rfl (Pu.nePtrNil rfl rfl) ?_
 | refine SLl.pu rfl rfl rfl (Pu.eqFuncNilF rfl rfl) ?_
 | refine SLl.pu rfl rfl rfl (Pu.eqFuncNilT rfl rfl) ?_))
 | ((show SLl _ _ _ _ _ (⟨⟨_, .store _ _ _, _, _, _, _⟩, _, _⟩ :: _) _ _ _); (first | (refine SLl.seq0 rfl (SLo.store rfl rfl rfl (by (first | exact One.lit rfl | exact One.lit (by assumption) | exact One.mono (by assumption) (by (repeat' (first | exact Ent.refl | exact Ent.drop | exact Ent.appR | apply Ent.skip))) | exact One.len (by (first | exact Len.nil | (apply Len.row; (· (repeat (first | apply Sel.here | apply Sel.there | apply Upd.here | apply Upd.there)))) | (apply Len.rs; exact Rs.mono (by assumption) (by (repeat' (first | exact Ent.refl | exact Ent.drop | exact Ent.appR | apply Ent.skip)))))))) (by (first | (apply Wr.blk; (· (repeat (first | apply Sel.here | apply Sel.there | apply Upd.here | apply Upd.there))); (· exact Nat.le_of_ble_eq_true rfl)) | (apply Wr.row; (· (first | rfl | assumption)); (· exact Nat.le_of_ble_eq_true rfl); (· (repeat (first | apply Sel.here | apply Sel.there | apply Upd.here | apply Upd.there)))))) ?_)) | (refine SLl.seq0 rfl (SLo.storeN rfl rfl rfl (by (repeat' (first | exact trivial | (apply And.intro; (· (first | exact One.lit rfl | exact One.lit (by assumption) | exact One.mono (by assumption) (by (repeat' (first | exact Ent.refl | exact Ent.drop | exact Ent.appR | apply Ent.skip))) | exact One.len (by (first | exact Len.nil | (apply Len.row; (· (repeat (first | apply Sel.here | apply Sel.there | apply Upd.here | apply Upd.there)))) | (apply Len.rs; exact Rs.mono (by assumption) (by (repeat' (first | exact Ent.refl | exact Ent.drop | exact Ent.appR | apply Ent.skip)))))))))))) (Nat.le_of_ble_eq_true rfl) (by (repeat (first | apply Sel.here | apply Sel.there | apply Upd.here | apply Upd.there))) ?_))))
 | ((show SLl _ _ _ _ _ (⟨⟨_, .box _ _, _, _, _, _⟩, _, _⟩ :: _) _ _ _); refine SLl.seq rfl rfl (SLo.boxC rfl (by (first | exact Cel.one (by (first | exact One.lit rfl | exact One.lit (by assumption) | exact One.mono (by assumption) (by (repeat' (first | exact Ent.refl | exact Ent.drop | exact Ent.appR | apply Ent.skip))) | exact One.len (by (first | exact Len.nil | (apply Len.row; (· (repeat (first | apply Sel.here | apply Sel.there | apply Upd.here | apply Upd.there)))) | (apply Len.rs; exact Rs.mono (by assumption) (by (repeat' (first | exact Ent.refl | exact Ent.drop | exact Ent.appR | apply Ent.skip)))))))) | exact Cel.agg)) ?_); intro b)
 | ((show SLl _ _ _ _ _ (⟨⟨_, .alloc _, _, _, _, _⟩, _, _⟩ :: _) _ _ _); refine SLl.seq rfl rfl (SLo.alloc ?_); intro b)
 | ((show SLl _ _ _ _ _ (⟨⟨_, .build _ _, _, _, _, _⟩, _, _⟩ :: _) _ _ _); first
 | refine SLl.rdSeq rfl rfl (Rd.build rfl (by (repeat (first | exact CellsW.nil | (apply CellsW.cons; (· (first | exact Cel.one (by (first | exact One.lit rfl | exact One.lit (by assumption) | exact One.mono (by assumption) (by (repeat' (first | exact Ent.refl | exact Ent.drop | exact Ent.appR | apply Ent.skip))) | exact One.len (by (first | exact Len.nil | (apply Len.row; (· (repeat (first | apply Sel.here | apply Sel.there | apply Upd.here | apply Upd.there)))) | (apply Len.rs; exact Rs.mono (by assumption) (by (repeat' (first | exact Ent.refl | exact Ent.drop | exact Ent.appR | apply Ent.skip)))))))) | exact Cel.agg)))))) (by rfl)) ?_
 | refine SLl.pu rfl rfl rfl (Pu.build rfl rfl) ?_)
 | refine SLl.skip rfl rfl ?_))
 | (first
 | refine SLc.seq ?_
 | refine SLc.region rfl ?_
 | refine SLc.condT rfl ?_
 | refine SLc.condF rfl ?_
 | refine SLc.block ?_
 | refine SLc.skip ?_
 | refine SLc.exit ?_
 | refine SLc.ret ?_)))
    exact And.intro rfl (Exists.intro (i + 1, K + x) (And.intro ⟨by dsimp only; omega, by dsimp only; omega, by dsimp only; omega⟩ (And.intro (by dsimp only; omega) (And.intro (by (repeat' (first | exact trivial | apply And.intro | rfl))) .refl))))
  · (repeat' (first
 | (first
 | refine SLl.nil ?_
 | ((show SLl _ _ _ _ _ (⟨⟨_, _, _, _, _, _⟩, _, _⟩ :: _) _ _ _); first
 | refine SLl.ev rfl rfl rfl rfl ?_
 | ((show SLl _ _ _ _ _ (⟨⟨_, .load _ _, _, _, _, _⟩, _, _⟩ :: _) _ _ _); (first | refine SLl.rdSeq rfl rfl (Rd.load rfl rfl (by (first | (apply Reads.blk; (· (repeat (first | apply Sel.here | apply Sel.there | apply Upd.here | apply Upd.there))); (· rfl)) | (apply Reads.row; (· (repeat (first | apply Sel.here | apply Sel.there | apply Upd.here | apply Upd.there))); (· (first | rfl | assumption)); (· rfl)) | (apply Reads.rs; (· exact Rs.mono (by assumption) (by (repeat' (first | exact Ent.refl | exact Ent.drop | exact Ent.appR | apply Ent.skip)))); (· (first | rfl | assumption)); (· rfl)) | exact Reads.mono (by assumption) (by (repeat' (first | exact Ent.refl | exact Ent.drop | exact Ent.appR | apply Ent.skip)))))) ?_ | refine SLl.rdSeq rfl rfl (Rd.loadN rfl rfl (by (first | exact ReadsN.mono (by assumption) (by (repeat' (first | exact Ent.refl | exact Ent.drop | exact Ent.appR | apply Ent.skip))) | (apply ReadsN.blk0; (· (repeat (first | apply Sel.here | apply Sel.there | apply Upd.here | apply Upd.there)))) | (apply ReadsN.row0; (· (repeat (first | apply Sel.here | apply Sel.there | apply Upd.here | apply Upd.there))); (· (first | rfl | assumption))) | (apply ReadsN.rs0; (· exact Rs.mono (by assumption) (by (repeat' (first | exact Ent.refl | exact Ent.drop | exact Ent.appR | apply Ent.skip)))); (· (first | rfl | assumption))))) (by rfl)) ?_))
 | ((show SLl _ _ _ _ _ (⟨⟨_, .fieldAddr _ _ _, _, _, _, _⟩, _, _⟩ :: _) _ _ _); (first | refine SLl.pu rfl rfl rfl (Pu.fieldAddr rfl) ?_ | refine SLl.rdSeq rfl rfl (Rd.fieldAddrEl rfl (by (first | exact Len.nil | (apply Len.row; (· (repeat (first | apply Sel.here | apply Sel.there | apply Upd.here | apply Upd.there)))) | (apply Len.rs; exact Rs.mono (by assumption) (by (repeat' (first | exact Ent.refl | exact Ent.drop | exact Ent.appR | apply Ent.skip)))))) (by omega)) ?_))
 | ((show SLl _ _ _ _ _ (⟨⟨_, .indexAddr _ _ _, _, _, _, _⟩, _, _⟩ :: _) _ _ _); (refine SLl.rdSeq rfl rfl (Rd.indexAddr rfl rfl (by (first | exact Len.nil | (apply Len.row; (· (repeat (first | apply Sel.here | apply Sel.there | apply Upd.here | apply Upd.there)))) | (apply Len.rs; exact Rs.mono (by assumption) (by (repeat' (first | exact Ent.refl | exact Ent.drop | exact Ent.appR | apply Ent.skip)))))) (by (first | exact ij0 | exact ij1 | exact ij2 | exact ij3 | exact ij4 | exact ij5 | exact ijs _ | exact ijm _ | rfl | exact (Int.toNat_of_nonneg (by omega)).symm)) (by omega)) ?_))
 | ((show SLl _ _ _ _ _ (⟨⟨_, .call ⟨.builtin .len, _, _⟩, _, _, _, _⟩, _, _⟩ :: _) _ _ _); refine SLl.rdSeq rfl rfl (Rd.len rfl (by (first | exact Len.nil | (apply Len.row; (· (repeat (first | apply Sel.here | apply Sel.there | apply Upd.here | apply Upd.there)))) | (apply Len.rs; exact Rs.mono (by assumption) (by (repeat' (first | exact Ent.refl | exact Ent.drop | exact Ent.appR | apply Ent.skip))))))) ?_)
 | ((show SLl _ _ _ _ _ (⟨⟨_, .binOp _ _ _ _ _, _, _, _, _⟩, _, _⟩ :: _) _ _ _); (first
 | refine SLl.pu rfl rfl rfl (Pu.add rfl rfl (IntWalk.i64_in _ (by omega))) ?_
 | refine SLl.pu rfl rfl rfl (Pu.sub rfl rfl (IntWalk.i64_in _ (by omega))) ?_
 | (refine SLl.cmp rfl rfl rfl rfl rfl rfl ?_ ?_ <;> intro hq <;> simp only [cmpP] at hq <;> try (first
 | exact (hq trivial).elim
 | (exfalso; omega)))
 | refine SLl.pu rfl rfl rfl (Pu.eqNilT rfl rfl) ?_
 | refine SLl.pu rfl rfl rfl (Pu.neNilF rfl rfl) ?_
 | refine SLl.rdSeq rfl rfl (Rd.eqNilF rfl rfl (by (first | exact Len.nil | (apply Len.row; (· (repeat (first | apply Sel.here | apply Sel.there | apply Upd.here | apply Upd.there)))) | (apply Len.rs; exact Rs.mono (by assumption) (by (repeat' (first | exact Ent.refl | exact Ent.drop | exact Ent.appR | apply Ent.skip)))))) (by assumption)) ?_
 | refine SLl.rdSeq rfl rfl (Rd.neNilT rfl rfl (by (first | exact Len.nil | (apply Len.row; (· (repeat (first | apply Sel.here | apply Sel.there | apply Upd.here | apply Upd.there)))) | (apply Len.rs; exact Rs.mono (by assumption) (by (repeat' (first | exact Ent.refl | exact Ent.drop | exact Ent.appR | apply Ent.skip)))))) (by assumption)) ?_
 | refine SLl.pu rfl rfl rfl (Pu.eqPtrNil rfl rfl) ?_
 | refine SLl.pu rfl rfl rfl (Pu.eqBool rfl rfl) ?_
 | refine SLl.pu rfl rfl rfl (Pu.neBool rfl rfl) ?_
 | refine SLl.pu rfl rfl rfl (Pu.nePtrNil rfl rfl) ?_
 | refine SLl.pu rfl rfl rfl (Pu.eqFuncNilF rfl rfl) ?_
 | refine SLl.pu rfl rfl rfl (Pu.eqFuncNilT rfl rfl) ?_))
 | ((show SLl _ _ _ _ _ (⟨⟨_, .store _ _ _, _, _, _, _⟩, _, _⟩ :: _) _ _ _); (first | (refine SLl.seq0 rfl (SLo.store rfl rfl rfl (by (first | exact One.lit rfl | exact One.lit (by assumption) | exact One.mono (by assumption) (by (repeat' (first | exact Ent.refl | exact Ent.drop | exact Ent.appR | apply Ent.skip))) | exact One.len (by (first | exact Len.nil | (apply Len.row; (· (repeat (first | apply Sel.here | apply Sel.there | apply Upd.here | apply Upd.there)))) | (apply Len.rs; exact Rs.mono (by assumption) (by (repeat' (first | exact Ent.refl | exact Ent.drop | exact Ent.appR | apply Ent.skip)))))))) (by (first | (apply Wr.blk; (· (repeat (first | apply Sel.here | apply Sel.there | apply Upd.here | apply Upd.there))); (· exact Nat.le_of_ble_eq_true rfl)) | (apply Wr.row; (· (first | rfl | assumption)); (· exact Nat.le_of_ble_eq_true rfl); (· (repeat (first | apply Sel.here | apply Sel.there | apply Upd.here | apply Upd.there)))))) ?_)) | (refine SLl.seq0 rfl (SLo.storeN rfl rfl rfl (by (repeat' (first | exact trivial | (apply And.intro; (· (first | exact One.lit rfl | exact One.lit (by assumption) | exact One.mono (by assumption) (by (repeat' (first | exact Ent.refl | exact Ent.drop | exact Ent.appR | apply Ent.skip))) | exact One.len (by (first | exact Len.nil | (apply Len.row; (· (repeat (first | apply Sel.here | apply Sel.there | apply Upd.here | apply Upd.there)))) | (apply Len.rs; exact Rs.mono (by assumption) (by (repeat' (first | exact Ent.refl | exact Ent.drop | exact Ent.appR | apply Ent.skip)))))))))))) (Nat.le_of_ble_eq_true rfl) (by (repeat (first | apply Sel.here | apply Sel.there | apply Upd.here | apply Upd.there))) ?_))))
 | ((show SLl _ _ _ _ _ (⟨⟨_, .box _ _, _, _, _, _⟩, _, _⟩ :: _) _ _ _); refine SLl.seq rfl rfl (SLo.boxC rfl (by (first | exact Cel.one (by (first | exact One.lit rfl | exact One.lit (by assumption) | exact One.mono (by assumption) (by (repeat' (first | exact Ent.refl | exact Ent.drop | exact Ent.appR | apply Ent.skip))) | exact One.len (by (first | exact Len.nil | (apply Len.row; (· (repeat (first | apply Sel.here | apply Sel.there | apply Upd.here | apply Upd.there)))) | (apply Len.rs; exact Rs.mono (by assumption) (by (repeat' (first | exact Ent.refl | exact Ent.drop | exact Ent.appR | apply Ent.skip)))))))) | exact Cel.agg)) ?_); intro b)
 | ((show SLl _ _ _ _ _ (⟨⟨_, .alloc _, _, _, _, _⟩, _, _⟩ :: _) _ _ _); refine SLl.seq rfl rfl (SLo.alloc ?_); intro b)
 | ((show SLl _ _ _ _ _ (⟨⟨_, .build _ _, _, _, _, _⟩, _, _⟩ :: _) _ _ _); first
 | refine SLl.rdSeq rfl rfl (Rd.build rfl (by (repeat (first | exact CellsW.nil | (apply CellsW.cons; (· (first | exact Cel.one (by (first | exact One.lit rfl | exact One.lit (by assumption) | exact One.mono (by assumption) (by (repeat' (first | exact Ent.refl | exact Ent.drop | exact Ent.appR | apply Ent.skip))) | exact One.len (by (first | exact Len.nil | (apply Len.row; (· (repeat (first | apply Sel.here | apply Sel.there | apply Upd.here | apply Upd.there)))) | (apply Len.rs; exact Rs.mono (by assumption) (by (repeat' (first | exact Ent.refl | exact Ent.drop | exact Ent.appR | apply Ent.skip)))))))) | exact Cel.agg)))))) (by rfl)) ?_
 | refine SLl.pu rfl rfl rfl (Pu.build rfl rfl) ?_)
 | refine SLl.skip rfl rfl ?_))
 | (first
 | refine SLc.seq ?_
 | refine SLc.region rfl ?_
 | refine SLc.condT rfl ?_
 | refine SLc.condF rfl ?_
 | refine SLc.block ?_
 | refine SLc.skip ?_
 | refine SLc.exit ?_
 | refine SLc.ret ?_)))
    refine SLl.seq rfl rfl (SLo.call plain73 rfl (SLf.mono (Left_ok W _ lb sb _ ⟨K, []⟩) ?_))
    rintro v σ2 ⟨rfl, rfl⟩
    dsimp only
    (repeat' (first
 | (first
 | refine SLl.nil ?_
 | ((show SLl _ _ _ _ _ (⟨⟨_, _, _, _, _, _⟩, _, _⟩ :: _) _ _ _); first
 | refine SLl.ev rfl rfl rfl rfl ?_
 | ((show SLl _ _ _ _ _ (⟨⟨_, .load _ _, _, _, _, _⟩, _, _⟩ :: _) _ _ _); (first | refine SLl.rdSeq rfl rfl (Rd.load rfl rfl (by (first | (apply Reads.blk; (· (repeat (first | apply Sel.here | apply Sel.there | apply Upd.here | apply Upd.there))); (· rfl)) | (apply Reads.row; (· (repeat (first | apply Sel.here | apply Sel.there | apply Upd.here | apply Upd.there))); (· (first | rfl | assumption)); (· rfl)) | (apply Reads.rs; (· exact Rs.mono (by assumption) (by (repeat' (first | exact Ent.refl | exact Ent.drop | exact Ent.appR | apply Ent.skip)))); (· (first | rfl | assumption)); (· rfl)) | exact Reads.mono (by assumption) (by (repeat' (first | exact Ent.refl | exact Ent.drop | exact Ent.appR | apply Ent.skip)))))) ?_ | refine SLl.rdSeq rfl rfl (Rd.loadN rfl rfl (by (first | exact ReadsN.mono (by assumption) (by (repeat' (first | exact Ent.refl | exact Ent.drop | exact Ent.appR | apply Ent.skip))) | (apply ReadsN.blk0; (· (repeat (first | apply Sel.here | apply Sel.there | apply Upd.here | apply Upd.there)))) | (apply ReadsN.row0; (· (repeat (first | apply Sel.here | apply Sel.there | apply Upd.here | apply Upd.there))); (· (first | rfl | assumption))) | (apply ReadsN.rs0; (· exact Rs.mono (by assumption) (by (repeat' (first | exact Ent.refl | exact Ent.drop | exact Ent.appR | apply Ent.skip)))); (· (first | rfl | assumption))))) (by rfl)) ?_))
 | ((show SLl _ _ _ _ _ (⟨⟨_, .fieldAddr _ _ _, _, _, _, _⟩, _, _⟩ :: _) _ _ _); (first | refine SLl.pu rfl rfl rfl (Pu.fieldAddr rfl) ?_ | refine SLl.rdSeq rfl rfl (Rd.fieldAddrEl rfl (by (first | exact Len.nil | (apply Len.row; (· (repeat (first | apply Sel.here | apply Sel.there | apply Upd.here | apply Upd.there)))) | (apply Len.rs; exact Rs.mono (by assumption) (by (repeat' (first | exact Ent.refl | exact Ent.drop | exact Ent.appR | apply Ent.skip)))))) (by omega)) ?_))
 | ((show SLl _ _ _ _ _ (⟨⟨_, .indexAddr _ _ _, _, _, _, _⟩, _, _⟩ :: _) _ _ _); (refine SLl.rdSeq rfl rfl (Rd.indexAddr rfl rfl (by (first | exact Len.nil | (apply Len.row; (· (repeat (first | apply Sel.here | apply Sel.there | apply Upd.here | apply Upd.there)))) | (apply Len.rs; exact Rs.mono (by assumption) (by (repeat' (first | exact Ent.refl | exact Ent.drop | exact Ent.appR | apply Ent.skip)))))) (by (first | exact ij0 | exact ij1 | exact ij2 | exact ij3 | exact ij4 | exact ij5 | exact ijs _ | exact ijm _ | rfl | exact (Int.toNat_of_nonneg (by omega)).symm)) (by omega)) ?_))
 | ((show SLl _ _ _ _ _ (⟨⟨_, .call ⟨.builtin .len, _, _⟩, _, _, _, _⟩, _, _⟩ :: _) _ _ _); refine SLl.rdSeq rfl rfl (Rd.len rfl (by (first | exact Len.nil | (apply Len.row; (· (repeat (first | apply Sel.here | apply Sel.there | apply Upd.here | apply Upd.there)))) | (apply Len.rs; exact Rs.mono (by assumption) (by (repeat' (first | exact Ent.refl | exact Ent.drop | exact Ent.appR | apply Ent.skip))))))) ?_)
 | ((show SLl _ _ _ _ _ (⟨⟨_, .binOp _ _ _ _ _, _, _, _, _⟩, _, _⟩ :: _) _ _ _); (first
 | refine SLl.pu rfl rfl rfl (Pu.add rfl rfl (IntWalk.i64_in _ (by omega))) ?_
 | refine SLl.pu rfl rfl rfl (Pu.sub rfl rfl (IntWalk.i64_in _ (by omega))) ?_
 | (refine SLl.cmp rfl rfl rfl rfl rfl rfl ?_ ?_ <;> intro hq <;> simp only [cmpP] at hq <;> try (first
 | exact (hq trivial).elim
 | (exfalso; omega)))
 | refine SLl.pu rfl rfl rfl (Pu.eqNilT rfl rfl) ?_
 | refine SLl.pu rfl rfl rfl (Pu.neNilF rfl rfl) ?_
 | refine SLl.rdSeq rfl rfl (Rd.eqNilF rfl rfl (by (first | exact Len.nil | (apply Len.row; (· (repeat (first | apply Sel.here | apply Sel.there | apply Upd.here | apply Upd.there)))) | (apply Len.rs; exact Rs.mono (by assumption) (by (repeat' (first | exact Ent.refl | exact Ent.drop | exact Ent.appR | apply Ent.skip)))))) (by assumption)) ?_
 | refine SLl.rdSeq rfl rfl (Rd.neNilT rfl rfl (by (first | exact Len.nil | (apply Len.row; (· (repeat (first | apply Sel.here | apply Sel.there | apply Upd.here | apply Upd.there)))) | (apply Len.rs; exact Rs.mono (by assumption) (by (repeat' (first | exact Ent.refl | exact Ent.drop | exact Ent.appR | apply Ent.skip)))))) (by assumption)) ?_
 | refine SLl.pu rfl rfl rfl (Pu.eqPtrNil rfl rfl) ?_
 | refine SLl.pu rfl rfl rfl (Pu.eqBool rfl rfl) ?_
 | refine SLl.pu rfl rfl rfl (Pu.neBool rfl rfl) ?_
 | refine SLl.pu rfl rfl rfl (Pu.nePtrNil rfl rfl) ?_
 | refine SLl.pu rfl rfl rfl (Pu.eqFuncNilF rfl rfl) ?_
 | refine SLl.pu rfl rfl rfl (Pu.eqFuncNilT rfl rfl) ?_))
 | ((show SLl _ _ _ _ _ (⟨⟨_, .store _ _ _, _, _, _, _⟩, _, _⟩ :: _) _ _ _); (first | (refine SLl.seq0 rfl (SLo.store rfl rfl rfl (by (first | exact One.lit rfl | exact One.lit (by assumption) | exact One.mono (by assumption) (by (repeat' (first | exact Ent.refl | exact Ent.drop | exact Ent.appR | apply Ent.skip))) | exact One.len (by (first | exact Len.nil | (apply Len.row; (· (repeat (first | apply Sel.here | apply Sel.there | apply Upd.here | apply Upd.there)))) | (apply Len.rs; exact Rs.mono (by assumption) (by (repeat' (first | exact Ent.refl | exact Ent.drop | exact Ent.appR | apply Ent.skip)))))))) (by (first | (apply Wr.blk; (· (repeat (first | apply Sel.here | apply Sel.there | apply Upd.here | apply Upd.there))); (· exact Nat.le_of_ble_eq_true rfl)) | (apply Wr.row; (· (first | rfl | assumption)); (· exact Nat.le_of_ble_eq_true rfl); (· (repeat (first | apply Sel.here | apply Sel.there | apply Upd.here | apply Upd.there)))))) ?_)) | (refine SLl.seq0 rfl (SLo.storeN rfl rfl rfl (by (repeat' (first | exact trivial | (apply And.intro; (· (first | exact One.lit rfl | exact One.lit (by assumption) | exact One.mono (by assumption) (by (repeat' (first | exact Ent.refl | exact Ent.drop | exact Ent.appR | apply Ent.skip))) | exact One.len (by (first | exact Len.nil | (apply Len.row; (· (repeat (first | apply Sel.here | apply Sel.there | apply Upd.here | apply Upd.there)))) | (apply Len.rs; exact Rs.mono (by assumption) (by (repeat' (first | exact Ent.refl | exact Ent.drop | exact Ent.appR | apply Ent.skip)))))))))))) (Nat.le_of_ble_eq_true rfl) (by (repeat (first | apply Sel.here | apply Sel.there | apply Upd.here | apply Upd.there))) ?_))))
 | ((show SLl _ _ _ _ _ (⟨⟨_, .box _ _, _, _, _, _⟩, _, _⟩ :: _) _ _ _); refine SLl.seq rfl rfl (SLo.boxC rfl (by (first | exact Cel.one (by (first | exact One.lit rfl | exact One.lit (by assumption) | exact One.mono (by assumption) (by (repeat' (first | exact Ent.refl | exact Ent.drop | exact Ent.appR | apply Ent.skip))) | exact One.len (by (first | exact Len.nil | (apply Len.row; (· (repeat (first | apply Sel.here | apply Sel.there | apply Upd.here | apply Upd.there)))) | (apply Len.rs; exact Rs.mono (by assumption) (by (repeat' (first | exact Ent.refl | exact Ent.drop | exact Ent.appR | apply Ent.skip)))))))) | exact Cel.agg)) ?_); intro b)
 | ((show SLl _ _ _ _ _ (⟨⟨_, .alloc _, _, _, _, _⟩, _, _⟩ :: _) _ _ _); refine SLl.seq rfl rfl (SLo.alloc ?_); intro b)
 | ((show SLl _ _ _ _ _ (⟨⟨_, .build _ _, _, _, _, _⟩, _, _⟩ :: _) _ _ _); first
 | refine SLl.rdSeq rfl rfl (Rd.build rfl (by (repeat (first | exact CellsW.nil | (apply CellsW.cons; (· (first | exact Cel.one (by (first | exact One.lit rfl | exact One.lit (by assumption) | exact One.mono (by assumption) (by (repeat' (first | exact Ent.refl | exact Ent.drop | exact Ent.appR | apply Ent.skip))) | exact One.len (by (first | exact Len.nil | (apply Len.row; (· (repeat (first | apply Sel.here | apply Sel.there | apply Upd.here | apply Upd.there)))) | (apply Len.rs; exact Rs.mono (by assumption) (by (repeat' (first | exact Ent.refl | exact Ent.drop | exact Ent.appR | apply Ent.skip)))))))) | exact Cel.agg)))))) (by rfl)) ?_
 | refine SLl.pu rfl rfl rfl (Pu.build rfl rfl) ?_)
 | refine SLl.skip rfl rfl ?_))
 | (first
 | refine SLc.seq ?_
 | refine SLc.region rfl ?_
 | refine SLc.condT rfl ?_
 | refine SLc.condF rfl ?_
 | refine SLc.block ?_
 | refine SLc.skip ?_
 | refine SLc.exit ?_
 | refine SLc.ret ?_)))
    refine SLl.seq rfl rfl (SLo.call plain70 rfl (SLf.mono (Await_at W _ lb sb _ (L := ⟨K, []⟩) (bv := false) (L' := ⟨K, [0]⟩) (by simp [awaitM]; omega) rfl) ?_))
    rintro v σ2 ⟨q1, rfl, rfl⟩
    (repeat' (first
 | (first
 | refine SLl.nil ?_
 | ((show SLl _ _ _ _ _ (⟨⟨_, _, _, _, _, _⟩, _, _⟩ :: _) _ _ _); first
 | refine SLl.ev rfl rfl rfl rfl ?_
 | ((show SLl _ _ _ _ _ (⟨⟨_, .load _ _, _, _, _, _⟩, _, _⟩ :: _) _ _ _); (first | refine SLl.rdSeq rfl rfl (Rd.load rfl rfl (by (first | (apply Reads.blk; (· (repeat (first | apply Sel.here | apply Sel.there | apply Upd.here | apply Upd.there))); (· rfl)) | (apply Reads.row; (· (repeat (first | apply Sel.here | apply Sel.there | apply Upd.here | apply Upd.there))); (· (first | rfl | assumption)); (· rfl)) | (apply Reads.rs; (· exact Rs.mono (by assumption) (by (repeat' (first | exact Ent.refl | exact Ent.drop | exact Ent.appR | apply Ent.skip)))); (· (first | rfl | assumption)); (· rfl)) | exact Reads.mono (by assumption) (by (repeat' (first | exact Ent.refl | exact Ent.drop | exact Ent.appR | apply Ent.skip)))))) ?_ | refine SLl.rdSeq rfl rfl (Rd.loadN rfl rfl (by (first | exact ReadsN.mono (by assumption) (by (repeat' (first | exact Ent.refl | exact Ent.drop | exact Ent.appR | apply Ent.skip))) | (apply ReadsN.blk0; (· (repeat (first | apply Sel.here | apply Sel.there | apply Upd.here | apply Upd.there)))) | (apply ReadsN.row0; (· (repeat (first | apply Sel.here | apply Sel.there | apply Upd.here | apply Upd.there))); (· (first | rfl | assumption))) | (apply ReadsN.rs0; (· exact Rs.mono (by assumption) (by (repeat' (first | exact Ent.refl | exact Ent.drop | exact Ent.appR | apply Ent.skip)))); (· (first | rfl | assumption))))) (by rfl)) ?_))
 | ((show SLl _ _ _ _ _ (⟨⟨_, .fieldAddr _ _ _, _, _, _, _⟩, _, _⟩ :: _) _ _ _); (first | refine SLl.pu rfl rfl rfl (Pu.fieldAddr rfl) ?_ | refine SLl.rdSeq rfl rfl (Rd.fieldAddrEl rfl (by (first | exact Len.nil | (apply Len.row; (· (repeat (first | apply Sel.here | apply Sel.there | apply Upd.here | apply Upd.there)))) | (apply Len.rs; exact Rs.mono (by assumption) (by (repeat' (first | exact Ent.refl | exact Ent.drop | exact Ent.appR | apply Ent.skip)))))) (by omega)) ?_))
 | ((show SLl _ _ _ _ _ (⟨⟨_, .indexAddr _ _ _, _, _, _, _⟩, _, _⟩ :: _) _ _ _); (refine SLl.rdSeq rfl rfl (Rd.indexAddr rfl rfl (by (first | exact Len.nil | (apply Len.row; (· (repeat (first | apply Sel.here | apply Sel.there | apply Upd.here | apply Upd.there)))) | (apply Len.rs; exact Rs.mono (by assumption) (by (repeat' (first | exact Ent.refl | exact Ent.drop | exact Ent.appR | apply Ent.skip)))))) (by (first | exact ij0 | exact ij1 | exact ij2 | exact ij3 | exact ij4 | exact ij5 | exact ijs _ | exact ijm _ | rfl | exact (Int.toNat_of_nonneg (by omega)).symm)) (by omega)) ?_))
 | ((show SLl _ _ _ _ _ (⟨⟨_, .call ⟨.builtin .len, _, _⟩, _, _, _, _⟩, _, _⟩ :: _) _ _ _); refine SLl.rdSeq rfl rfl (Rd.len rfl (by (first | exact Len.nil | (apply Len.row; (· (repeat (first | apply Sel.here | apply Sel.there | apply Upd.here | apply Upd.there)))) | (apply Len.rs; exact Rs.mono (by assumption) (by (repeat' (first | exact Ent.refl | exact Ent.drop | exact Ent.appR | apply Ent.skip))))))) ?_)
 | ((show SLl _ _ _ _ _ (⟨⟨_, .binOp _ _ _ _ _, _, _, _, _⟩, _, _⟩ :: _) _ _ _); (first
 | refine SLl.pu rfl rfl rfl (Pu.add rfl rfl (IntWalk.i64_in _ (by omega))) ?_
 | refine SLl.pu rfl rfl rfl (Pu.sub rfl rfl (IntWalk.i64_in _ (by omega))) ?_
 | (refine SLl.cmp rfl rfl rfl rfl rfl rfl ?_ ?_ <;> intro hq <;> simp only [cmpP] at hq <;> try (first
 | exact (hq trivial).elim
 | (exfalso; omega)))
 | refine SLl.pu rfl rfl rfl (Pu.eqNilT rfl rfl) ?_
 | refine SLl.pu rfl rfl rfl (Pu.neNilF rfl rfl) ?_
 | refine SLl.rdSeq rfl rfl (Rd.eqNilF rfl rfl (by (first | exact Len.nil | (apply Len.row; (· (repeat (first | apply Sel.here | apply Sel.there | apply Upd.here | apply Upd.there)))) | (apply Len.rs; exact Rs.mono (by assumption) (by (repeat' (first | exact Ent.refl | exact Ent.drop | exact Ent.appR | apply Ent.skip)))))) (by assumption)) ?_
 | refine SLl.rdSeq rfl rfl (Rd.neNilT rfl rfl (by (first | exact Len.nil | (apply Len.row; (· (repeat (first | apply Sel.here | apply Sel.there | apply Upd.here | apply Upd.there)))) | (apply Len.rs; exact Rs.mono (by assumption) (by (repeat' (first | exact Ent.refl | exact Ent.drop | exact Ent.appR | apply Ent.skip)))))) (by assumption)) ?_
 | refine SLl.pu rfl rfl rfl (Pu.eqPtrNil rfl rfl) ?_
 | refine SLl.pu rfl rfl rfl (Pu.eqBool rfl rfl) ?_
 | refine SLl.pu rfl rfl rfl (Pu.neBool rfl rfl) ?_
 | refine SLl.pu rfl rfl rfl (Pu.nePtrNil rfl rfl) ?_
 | refine SLl.pu rfl rfl rfl (Pu.eqFuncNilF rfl rfl) ?_
 | refine SLl.pu rfl rfl rfl (Pu.eqFuncNilT rfl rfl) ?_))
 | ((show SLl _ _ _ _ _ (⟨⟨_, .store _ _ _, _, _, _, _⟩, _, _⟩ :: _) _ _ _); (first | (refine SLl.seq0 rfl (SLo.store rfl rfl rfl (by (first | exact One.lit rfl | exact One.lit (by assumption) | exact One.mono (by assumption) (by (repeat' (first | exact Ent.refl | exact Ent.drop | exact Ent.appR | apply Ent.skip))) | exact One.len (by (first | exact Len.nil | (apply Len.row; (· (repeat (first | apply Sel.here | apply Sel.there | apply Upd.here | apply Upd.there)))) | (apply Len.rs; exact Rs.mono (by assumption) (by (repeat' (first | exact Ent.refl | exact Ent.drop | exact Ent.appR | apply Ent.skip)))))))) (by (first | (apply Wr.blk; (· (repeat (first | apply Sel.here | apply Sel.there | apply Upd.here | apply Upd.there))); (· exact Nat.le_of_ble_eq_true rfl)) | (apply Wr.row; (· (first | rfl | assumption)); (· exact Nat.le_of_ble_eq_true rfl); (· (repeat (first | apply Sel.here | apply Sel.there | apply Upd.here | apply Upd.there)))))) ?_)) | (refine SLl.seq0 rfl (SLo.storeN rfl rfl rfl (by (repeat' (first | exact trivial | (apply And.intro; (· (first | exact One.lit rfl | exact One.lit (by assumption) | exact One.mono (by assumption) (by (repeat' (first | exact Ent.refl | exact Ent.drop | exact Ent.appR | apply Ent.skip))) | exact One.len (by (first | exact Len.nil | (apply Len.row; (· (repeat (first | apply Sel.here | apply Sel.there | apply Upd.here | apply Upd.there)))) | (apply Len.rs; exact Rs.mono (by assumption) (by (repeat' (first | exact Ent.refl | exact Ent.drop | exact Ent.appR | apply Ent.skip)))))))))))) (Nat.le_of_ble_eq_true rfl) (by (repeat (first | apply Sel.here | apply Sel.there | apply Upd.here | apply Upd.there))) ?_))))
 | ((show SLl _ _ _ _ _ (⟨⟨_, .box _ _, _, _, _, _⟩, _, _⟩ :: _) _ _ _); refine SLl.seq rfl rfl (SLo.boxC rfl (by (first | exact Cel.one (by (first | exact One.lit rfl | exact One.lit (by assumption) | exact One.mono (by assumption) (by (repeat' (first | exact Ent.refl | exact Ent.drop | exact Ent.appR | apply Ent.skip))) | exact One.len (by (first | exact Len.nil | (apply Len.row; (· (repeat (first | apply Sel.here | apply Sel.there | apply Upd.here | apply Upd.there)))) | (apply Len.rs; exact Rs.mono (by assumption) (by (repeat' (first | exact Ent.refl | exact Ent.drop | exact Ent.appR | apply Ent.skip)))))))) | exact Cel.agg)) ?_); intro b)
 | ((show SLl _ _ _ _ _ (⟨⟨_, .alloc _, _, _, _, _⟩, _, _⟩ :: _) _ _ _); refine SLl.seq rfl rfl (SLo.alloc ?_); intro b)
 | ((show SLl _ _ _ _ _ (⟨⟨_, .build _ _, _, _, _, _⟩, _, _⟩ :: _) _ _ _); first
 | refine SLl.rdSeq rfl rfl (Rd.build rfl (by (repeat (first | exact CellsW.nil | (apply CellsW.cons; (· (first | exact Cel.one (by (first | exact One.lit rfl | exact One.lit (by assumption) | exact One.mono (by assumption) (by (repeat' (first | exact Ent.refl | exact Ent.drop | exact Ent.appR | apply Ent.skip))) | exact One.len (by (first | exact Len.nil | (apply Len.row; (· (repeat (first | apply Sel.here | apply Sel.there | apply Upd.here | apply Upd.there)))) | (apply Len.rs; exact Rs.mono (by assumption) (by (repeat' (first | exact Ent.refl | exact Ent.drop | exact Ent.appR | apply Ent.skip)))))))) | exact Cel.agg)))))) (by rfl)) ?_
 | refine SLl.pu rfl rfl rfl (Pu.build rfl rfl) ?_)
 | refine SLl.skip rfl rfl ?_))
 | (first
 | refine SLc.seq ?_
 | refine SLc.region rfl ?_
 | refine SLc.condT rfl ?_
 | refine SLc.condF rfl ?_
 | refine SLc.block ?_
 | refine SLc.skip ?_
 | refine SLc.exit ?_
 | refine SLc.ret ?_)))
    refine SLl.seq rfl rfl (SLo.call plain56 rfl (SLf.ent .swap (SLf.mono (Waiting_ok W _ sb pv lw oneW oneW_ok) ?_)))
    rintro w1 σ2 rfl
    rw [oneW_waits]
    have hl1 : (natL [0]).length = 1 := rfl
    (repeat' (first
 | (first
 | refine SLl.nil ?_
 | ((show SLl _ _ _ _ _ (⟨⟨_, _, _, _, _, _⟩, _, _⟩ :: _) _ _ _); first
 | refine SLl.ev rfl rfl rfl rfl ?_
 | ((show SLl _ _ _ _ _ (⟨⟨_, .load _ _, _, _, _, _⟩, _, _⟩ :: _) _ _ _); (first | refine SLl.rdSeq rfl rfl (Rd.load rfl rfl (by (first | (apply Reads.blk; (· (repeat (first | apply Sel.here | apply Sel.there | apply Upd.here | apply Upd.there))); (· rfl)) | (apply Reads.row; (· (repeat (first | apply Sel.here | apply Sel.there | apply Upd.here | apply Upd.there))); (· (first | rfl | assumption)); (· rfl)) | (apply Reads.rs; (· exact Rs.mono (by assumption) (by (repeat' (first | exact Ent.refl | exact Ent.drop | exact Ent.appR | apply Ent.skip)))); (· (first | rfl | assumption)); (· rfl)) | exact Reads.mono (by assumption) (by (repeat' (first | exact Ent.refl | exact Ent.drop | exact Ent.appR | apply Ent.skip)))))) ?_ | refine SLl.rdSeq rfl rfl (Rd.loadN rfl rfl (by (first | exact ReadsN.mono (by assumption) (by (repeat' (first | exact Ent.refl | exact Ent.drop | exact Ent.appR | apply Ent.skip))) | (apply ReadsN.blk0; (· (repeat (first | apply Sel.here | apply Sel.there | apply Upd.here | apply Upd.there)))) | (apply ReadsN.row0; (· (repeat (first | apply Sel.here | apply Sel.there | apply Upd.here | apply Upd.there))); (· (first | rfl | assumption))) | (apply ReadsN.rs0; (· exact Rs.mono (by assumption) (by (repeat' (first | exact Ent.refl | exact Ent.drop | exact Ent.appR | apply Ent.skip)))); (· (first | rfl | assumption))))) (by rfl)) ?_))
 | ((show SLl _ _ _ _ _ (⟨⟨_, .fieldAddr _ _ _, _, _, _, _⟩, _, _⟩ :: _) _ _ _); (first | refine SLl.pu rfl rfl rfl (Pu.fieldAddr rfl) ?_ | refine SLl.rdSeq rfl rfl (Rd.fieldAddrEl rfl (by (first | exact Len.nil | (apply Len.row; (· (repeat (first | apply Sel.here | apply Sel.there | apply Upd.here | apply Upd.there)))) | (apply Len.rs; exact Rs.mono (by assumption) (by (repeat' (first | exact Ent.refl | exact Ent.drop | exact Ent.appR | apply Ent.skip)))))) (by omega)) ?_))
 | ((show SLl _ _ _ _ _ (⟨⟨_, .indexAddr _ _ _, _, _, _, _⟩, _, _⟩ :: _) _ _ _); (refine SLl.rdSeq rfl rfl (Rd.indexAddr rfl rfl (by (first | exact Len.nil | (apply Len.row; (· (repeat (first | apply Sel.here | apply Sel.there | apply Upd.here | apply Upd.there)))) | (apply Len.rs; exact Rs.mono (by assumption) (by (repeat' (first | exact Ent.refl | exact Ent.drop | exact Ent.appR | apply Ent.skip)))))) (by (first | exact ij0 | exact ij1 | exact ij2 | exact ij3 | exact ij4 | exact ij5 | exact ijs _ | exact ijm _ | rfl | exact (Int.toNat_of_nonneg (by omega)).symm)) (by omega)) ?_))
 | ((show SLl _ _ _ _ _ (⟨⟨_, .call ⟨.builtin .len, _, _⟩, _, _, _, _⟩, _, _⟩ :: _) _ _ _); refine SLl.rdSeq rfl rfl (Rd.len rfl (by (first | exact Len.nil | (apply Len.row; (· (repeat (first | apply Sel.here | apply Sel.there | apply Upd.here | apply Upd.there)))) | (apply Len.rs; exact Rs.mono (by assumption) (by (repeat' (first | exact Ent.refl | exact Ent.drop | exact Ent.appR | apply Ent.skip))))))) ?_)
 | ((show SLl _ _ _ _ _ (⟨⟨_, .binOp _ _ _ _ _, _, _, _, _⟩, _, _⟩ :: _) _ _ _); (first
 | refine SLl.pu rfl rfl rfl (Pu.add rfl rfl (IntWalk.i64_in _ (by omega))) ?_
 | refine SLl.pu rfl rfl rfl (Pu.sub rfl rfl (IntWalk.i64_in _ (by omega))) ?_
 | (refine SLl.cmp rfl rfl rfl rfl rfl rfl ?_ ?_ <;> intro hq <;> simp only [cmpP] at hq <;> try (first
 | exact (hq trivial).elim
 | (exfalso; omega)))
 | refine SLl.pu rfl rfl rfl (Pu.eqNilT rfl rfl) ?_
 | refine SLl.pu rfl rfl rfl (Pu.neNilF rfl rfl) ?_
 | refine SLl.rdSeq rfl rfl (Rd.eqNilF rfl rfl (by (first | exact Len.nil | (apply Len.row; (· (repeat (first | apply Sel.here | apply Sel.there | apply Upd.here | apply Upd.there)))) | (apply Len.rs; exact Rs.mono (by assumption) (by (repeat' (first | exact Ent.refl | exact Ent.drop | exact Ent.appR | apply Ent.skip)))))) (by assumption)) ?_
 | refine SLl.rdSeq rfl rfl (Rd.neNilT rfl rfl (by (first | exact Len.nil | (apply Len.row; (· (repeat (first | apply Sel.here | apply Sel.there | apply Upd.here | apply Upd.there)))) | (apply Len.rs; exact Rs.mono (by assumption) (by (repeat' (first | exact Ent.refl | exact Ent.drop | exact Ent.appR | apply Ent.skip)))))) (by assumption)) ?_
 | refine SLl.pu rfl rfl rfl (Pu.eqPtrNil rfl rfl) ?_
 | refine SLl.pu rfl rfl rfl (Pu.eqBool rfl rfl) ?_
 | refine SLl.pu rfl rfl rfl (Pu.neBool rfl rfl) ?_
 | refine SLl.pu rfl rfl rfl (Pu.nePtrNil rfl rfl) ?_
 | refine SLl.pu rfl rfl rfl (Pu.eqFuncNilF rfl rfl) ?_
 | refine SLl.pu rfl rfl rfl (Pu.eqFuncNilT rfl rfl) ?_))
 | ((show SLl _ _ _ _ _ (⟨⟨_, .store _ _ _, _, _, _, _⟩, _, _⟩ :: _) _ _ _); (first | (refine SLl.seq0 rfl (SLo.store rfl rfl rfl (by (first | exact One.lit rfl | exact One.lit (by assumption) | exact One.mono (by assumption) (by (repeat' (first | exact Ent.refl | exact Ent.drop | exact Ent.appR | apply Ent.skip))) | exact One.len (by (first | exact Len.nil | (apply Len.row; (· (repeat (first | apply Sel.here | apply Sel.there | apply Upd.here | apply Upd.there)))) | (apply Len.rs; exact Rs.mono (by assumption) (by (repeat' (first | exact Ent.refl | exact Ent.drop | exact Ent.appR | apply Ent.skip)))))))) (by (first | (apply Wr.blk; (· (repeat (first | apply Sel.here | apply Sel.there | apply Upd.here | apply Upd.there))); (· exact Nat.le_of_ble_eq_true rfl)) | (apply Wr.row; (· (first | rfl | assumption)); (· exact Nat.le_of_ble_eq_true rfl); (· (repeat (first | apply Sel.here | apply Sel.there | apply Upd.here | apply Upd.there)))))) ?_)) | (refine SLl.seq0 rfl (SLo.storeN rfl rfl rfl (by (repeat' (first | exact trivial | (apply And.intro; (· (first | exact One.lit rfl | exact One.lit (by assumption) | exact One.mono (by assumption) (by (repeat' (first | exact Ent.refl | exact Ent.drop | exact Ent.appR | apply Ent.skip))) | exact One.len (by (first | exact Len.nil | (apply Len.row; (· (repeat (first | apply Sel.here | apply Sel.there | apply Upd.here | apply Upd.there)))) | (apply Len.rs; exact Rs.mono (by assumption) (by (repeat' (first | exact Ent.refl | exact Ent.drop | exact Ent.appR | apply Ent.skip)))))))))))) (Nat.le_of_ble_eq_true rfl) (by (repeat (first | apply Sel.here | apply Sel.there | apply Upd.here | apply Upd.there))) ?_))))
 | ((show SLl _ _ _ _ _ (⟨⟨_, .box _ _, _, _, _, _⟩, _, _⟩ :: _) _ _ _); refine SLl.seq rfl rfl (SLo.boxC rfl (by (first | exact Cel.one (by (first | exact One.lit rfl | exact One.lit (by assumption) | exact One.mono (by assumption) (by (repeat' (first | exact Ent.refl | exact Ent.drop | exact Ent.appR | apply Ent.skip))) | exact One.len (by (first | exact Len.nil | (apply Len.row; (· (repeat (first | apply Sel.here | apply Sel.there | apply Upd.here | apply Upd.there)))) | (apply Len.rs; exact Rs.mono (by assumption) (by (repeat' (first | exact Ent.refl | exact Ent.drop | exact Ent.appR | apply Ent.skip)))))))) | exact Cel.agg)) ?_); intro b)
 | ((show SLl _ _ _ _ _ (⟨⟨_, .alloc _, _, _, _, _⟩, _, _⟩ :: _) _ _ _); refine SLl.seq rfl rfl (SLo.alloc ?_); intro b)
 | ((show SLl _ _ _ _ _ (⟨⟨_, .build _ _, _, _, _, _⟩, _, _⟩ :: _) _ _ _); first
 | refine SLl.rdSeq rfl rfl (Rd.build rfl (by (repeat (first | exact CellsW.nil | (apply CellsW.cons; (· (first | exact Cel.one (by (first | exact One.lit rfl | exact One.lit (by assumption) | exact One.mono (by assumption) (by (repeat' (first | exact Ent.refl | exact Ent.drop | exact Ent.appR | apply Ent.skip))) | exact One.len (by (first | exact Len.nil | (apply Len.row; (· (repeat (first | apply Sel.here | apply Sel.there | apply Upd.here | apply Upd.there)))) | (apply Len.rs; exact Rs.mono (by assumption) (by (repeat' (first | exact Ent.refl | exact Ent.drop | exact Ent.appR | apply Ent.skip)))))))) | exact Cel.agg)))))) (by rfl)) ?_
 | refine SLl.pu rfl rfl rfl (Pu.build rfl rfl) ?_)
 | refine SLl.skip rfl rfl ?_))
 | (first
 | refine SLc.seq ?_
 | refine SLc.region rfl ?_
 | refine SLc.condT rfl ?_
 | refine SLc.condF rfl ?_
 | refine SLc.block ?_
 | refine SLc.skip ?_
 | refine SLc.exit ?_
 | refine SLc.ret ?_)))
    refine SLc.loop (ι := Int × Value) (fun s => [(9, .int .i64 s.1), (7, ptr lb), (5, ptr sb), (4, .bool false)]) (fun s => schC sb pv lw (upsM s.1) ++ (latC lb sb s.2 ⟨s.1 + 1, upsQ s.1⟩ ++ [])) (fun s => -1 ≤ s.1 ∧ s.1 ≤ 1000000) (fun s => (s.1 + 1).toNat) (K - 1, q1) ⟨by dsimp only; omega, by dsimp only; omega⟩ (by (repeat' (first | exact trivial | apply And.intro | rfl))) ?_ ?_
    · dsimp only
      rw [show K - 1 + 1 = K by omega, show upsQ (K - 1) = [0] from if_neg (by omega), show upsM (K - 1) = oneW from if_neg (by omega)]
      exact .skip .refl
    rintro ⟨j, q⟩ ⟨hj1, hj2⟩
    dsimp only at hj1 hj2 ⊢
    by_cases hj : 0 ≤ j
    · rw [show upsQ j = [0] from if_neg (by omega), show upsM j = oneW from if_neg (by omega)]
      (repeat' (first
 | (first
 | refine SLl.nil ?_
 | ((show SLl _ _ _ _ _ (⟨⟨_, _, _, _, _, _⟩, _, _⟩ :: _) _ _ _); first
 | refine SLl.ev rfl rfl rfl rfl ?_
 | ((show SLl _ _ _ _ _ (⟨⟨_, .load _ _, _, _, _, _⟩, _, _⟩ :: _) _ _ _); (first | refine SLl.rdSeq rfl rfl (Rd.load rfl rfl (by (first | (apply Reads.blk; (· (repeat (first | apply Sel.here | apply Sel.there | apply Upd.here | apply Upd.there))); (· rfl)) | (apply Reads.row; (· (repeat (first | apply Sel.here | apply Sel.there | apply Upd.here | apply Upd.there))); (· (first | rfl | assumption)); (· rfl)) | (apply Reads.rs; (· exact Rs.mono (by assumption) (by (repeat' (first | exact Ent.refl | exact Ent.drop | exact Ent.appR | apply Ent.skip)))); (· (first | rfl | assumption)); (· rfl)) | exact Reads.mono (by assumption) (by (repeat' (first | exact Ent.refl | exact Ent.drop | exact Ent.appR | apply Ent.skip)))))) ?_ | refine SLl.rdSeq rfl rfl (Rd.loadN rfl rfl (by (first | exact ReadsN.mono (by assumption) (by (repeat' (first | exact Ent.refl | exact Ent.drop | exact Ent.appR | apply Ent.skip))) | (apply ReadsN.blk0; (· (repeat (first | apply Sel.here | apply Sel.there | apply Upd.here | apply Upd.there)))) | (apply ReadsN.row0; (· (repeat (first | apply Sel.here | apply Sel.there | apply Upd.here | apply Upd.there))); (· (first | rfl | assumption))) | (apply ReadsN.rs0; (· exact Rs.mono (by assumption) (by (repeat' (first | exact Ent.refl | exact Ent.drop | exact Ent.appR | apply Ent.skip)))); (· (first | rfl | assumption))))) (by rfl)) ?_))
 | ((show SLl _ _ _ _ _ (⟨⟨_, .fieldAddr _ _ _, _, _, _, _⟩, _, _⟩ :: _) _ _ _); (first | refine SLl.pu rfl rfl rfl (Pu.fieldAddr rfl) ?_ | refine SLl.rdSeq rfl rfl (Rd.fieldAddrEl rfl (by (first | exact Len.nil | (apply Len.row; (· (repeat (first | apply Sel.here | apply Sel.there | apply Upd.here | apply Upd.there)))) | (apply Len.rs; exact Rs.mono (by assumption) (by (repeat' (first | exact Ent.refl | exact Ent.drop | exact Ent.appR | apply Ent.skip)))))) (by omega)) ?_))
 | ((show SLl _ _ _ _ _ (⟨⟨_, .indexAddr _ _ _, _, _, _, _⟩, _, _⟩ :: _) _ _ _); (refine SLl.rdSeq rfl rfl (Rd.indexAddr rfl rfl (by (first | exact Len.nil | (apply Len.row; (· (repeat (first | apply Sel.here | apply Sel.there | apply Upd.here | apply Upd.there)))) | (apply Len.rs; exact Rs.mono (by assumption) (by (repeat' (first | exact Ent.refl | exact Ent.drop | exact Ent.appR | apply Ent.skip)))))) (by (first | exact ij0 | exact ij1 | exact ij2 | exact ij3 | exact ij4 | exact ij5 | exact ijs _ | exact ijm _ | rfl | exact (Int.toNat_of_nonneg (by omega)).symm)) (by omega)) ?_))
 | ((show SLl _ _ _ _ _ (⟨⟨_, .call ⟨.builtin .len, _, _⟩, _, _, _, _⟩, _, _⟩ :: _) _ _ _); refine SLl.rdSeq rfl rfl (Rd.len rfl (by (first | exact Len.nil | (apply Len.row; (· (repeat (first | apply Sel.here | apply Sel.there | apply Upd.here | apply Upd.there)))) | (apply Len.rs; exact Rs.mono (by assumption) (by (repeat' (first | exact Ent.refl | exact Ent.drop | exact Ent.appR | apply Ent.skip))))))) ?_)
 | ((show SLl _ _ _ _ _ (⟨⟨_, .binOp _ _ _ _ _, _, _, _, _⟩, _, _⟩ :: _) _ _ _); (first
 | refine SLl.pu rfl rfl rfl (Pu.add rfl rfl (IntWalk.i64_in _ (by omega))) ?_
 | refine SLl.pu rfl rfl rfl (Pu.sub rfl rfl (IntWalk.i64_in _ (by omega))) ?_
 | (refine SLl.cmp rfl rfl rfl rfl rfl rfl ?_ ?_ <;> intro hq <;> simp only [cmpP] at hq <;> try (first
 | exact (hq trivial).elim
 | (exfalso; omega)))
 | refine SLl.pu rfl rfl rfl (Pu.eqNilT rfl rfl) ?_
 | refine SLl.pu rfl rfl rfl (Pu.neNilF rfl rfl) ?_
 | refine SLl.rdSeq rfl rfl (Rd.eqNilF rfl rfl (by (first | exact Len.nil | (apply Len.row; (· (repeat (first | apply Sel.here | apply Sel.there | apply Upd.here | apply Upd.there)))) | (apply Len.rs; exact Rs.mono (by assumption) (by (repeat' (first | exact Ent.refl | exact Ent.drop | exact Ent.appR | apply Ent.skip)))))) (by assumption)) ?_
 | refine SLl.rdSeq rfl rfl (Rd.neNilT rfl rfl (by (first | exact Len.nil | (apply Len.row; (· (repeat (first | apply Sel.here | apply Sel.there | apply Upd.here | apply Upd.there)))) | (apply Len.rs; exact Rs.mono (by assumption) (by (repeat' (first | exact Ent.refl | exact Ent.drop | exact Ent.appR | apply Ent.skip)))))) (by assumption)) ?_
 | refine SLl.pu rfl rfl rfl (Pu.eqPtrNil rfl rfl) ?_
 | refine SLl.pu rfl rfl rfl (Pu.eqBool rfl rfl) ?_
 | refine SLl.pu rfl rfl rfl (Pu.neBool rfl rfl) ?_
 | refine SLl.pu rfl rfl rfl (Pu.nePtrNil rfl rfl) ?_
 | refine SLl.pu rfl rfl rfl (Pu.eqFuncNilF rfl rfl) ?_
 | refine SLl.pu rfl rfl rfl (Pu.eqFuncNilT rfl rfl) ?_))
 | ((show SLl _ _ _ _ _ (⟨⟨_, .store _ _ _, _, _, _, _⟩, _, _⟩ :: _) _ _ _); (first | (refine SLl.seq0 rfl (SLo.store rfl rfl rfl (by (first | exact One.lit rfl | exact One.lit (by assumption) | exact One.mono (by assumption) (by (repeat' (first | exact Ent.refl | exact Ent.drop | exact Ent.appR | apply Ent.skip))) | exact One.len (by (first | exact Len.nil | (apply Len.row; (· (repeat (first | apply Sel.here | apply Sel.there | apply Upd.here | apply Upd.there)))) | (apply Len.rs; exact Rs.mono (by assumption) (by (repeat' (first | exact Ent.refl | exact Ent.drop | exact Ent.appR | apply Ent.skip)))))))) (by (first | (apply Wr.blk; (· (repeat (first | apply Sel.here | apply Sel.there | apply Upd.here | apply Upd.there))); (· exact Nat.le_of_ble_eq_true rfl)) | (apply Wr.row; (· (first | rfl | assumption)); (· exact Nat.le_of_ble_eq_true rfl); (· (repeat (first | apply Sel.here | apply Sel.there | apply Upd.here | apply Upd.there)))))) ?_)) | (refine SLl.seq0 rfl (SLo.storeN rfl rfl rfl (by (repeat' (first | exact trivial | (apply And.intro; (· (first | exact One.lit rfl | exact One.lit (by assumption) | exact One.mono (by assumption) (by (repeat' (first | exact Ent.refl | exact Ent.drop | exact Ent.appR | apply Ent.skip))) | exact One.len (by (first | exact Len.nil | (apply Len.row; (· (repeat (first | apply Sel.here | apply Sel.there | apply Upd.here | apply Upd.there)))) | (apply Len.rs; exact Rs.mono (by assumption) (by (repeat' (first | exact Ent.refl | exact Ent.drop | exact Ent.appR | apply Ent.skip)))))))))))) (Nat.le_of_ble_eq_true rfl) (by (repeat (first | apply Sel.here | apply Sel.there | apply Upd.here | apply Upd.there))) ?_))))
 | ((show SLl _ _ _ _ _ (⟨⟨_, .box _ _, _, _, _, _⟩, _, _⟩ :: _) _ _ _); refine SLl.seq rfl rfl (SLo.boxC rfl (by (first | exact Cel.one (by (first | exact One.lit rfl | exact One.lit (by assumption) | exact One.mono (by assumption) (by (repeat' (first | exact Ent.refl | exact Ent.drop | exact Ent.appR | apply Ent.skip))) | exact One.len (by (first | exact Len.nil | (apply Len.row; (· (repeat (first | apply Sel.here | apply Sel.there | apply Upd.here | apply Upd.there)))) | (apply Len.rs; exact Rs.mono (by assumption) (by (repeat' (first | exact Ent.refl | exact Ent.drop | exact Ent.appR | apply Ent.skip)))))))) | exact Cel.agg)) ?_); intro b)
 | ((show SLl _ _ _ _ _ (⟨⟨_, .alloc _, _, _, _, _⟩, _, _⟩ :: _) _ _ _); refine SLl.seq rfl rfl (SLo.alloc ?_); intro b)
 | ((show SLl _ _ _ _ _ (⟨⟨_, .build _ _, _, _, _, _⟩, _, _⟩ :: _) _ _ _); first
 | refine SLl.rdSeq rfl rfl (Rd.build rfl (by (repeat (first | exact CellsW.nil | (apply CellsW.cons; (· (first | exact Cel.one (by (first | exact One.lit rfl | exact One.lit (by assumption) | exact One.mono (by assumption) (by (repeat' (first | exact Ent.refl | exact Ent.drop | exact Ent.appR | apply Ent.skip))) | exact One.len (by (first | exact Len.nil | (apply Len.row; (· (repeat (first | apply Sel.here | apply Sel.there | apply Upd.here | apply Upd.there)))) | (apply Len.rs; exact Rs.mono (by assumption) (by (repeat' (first | exact Ent.refl | exact Ent.drop | exact Ent.appR | apply Ent.skip)))))))) | exact Cel.agg)))))) (by rfl)) ?_
 | refine SLl.pu rfl rfl rfl (Pu.build rfl rfl) ?_)
 | refine SLl.skip rfl rfl ?_))
 | (first
 | refine SLc.seq ?_
 | refine SLc.region rfl ?_
 | refine SLc.condT rfl ?_
 | refine SLc.condF rfl ?_
 | refine SLc.block ?_
 | refine SLc.skip ?_
 | refine SLc.exit ?_
 | refine SLc.ret ?_)))
      refine SLl.seq rfl rfl (SLo.call plain56 rfl (SLf.mono (Waiting_ok W _ sb pv lw oneW oneW_ok) ?_))
      rintro w2 σ2 rfl
      rw [oneW_waits]
      (repeat' (first
 | (first
 | refine SLl.nil ?_
 | ((show SLl _ _ _ _ _ (⟨⟨_, _, _, _, _, _⟩, _, _⟩ :: _) _ _ _); first
 | refine SLl.ev rfl rfl rfl rfl ?_
 | ((show SLl _ _ _ _ _ (⟨⟨_, .load _ _, _, _, _, _⟩, _, _⟩ :: _) _ _ _); (first | refine SLl.rdSeq rfl rfl (Rd.load rfl rfl (by (first | (apply Reads.blk; (· (repeat (first | apply Sel.here | apply Sel.there | apply Upd.here | apply Upd.there))); (· rfl)) | (apply Reads.row; (· (repeat (first | apply Sel.here | apply Sel.there | apply Upd.here | apply Upd.there))); (· (first | rfl | assumption)); (· rfl)) | (apply Reads.rs; (· exact Rs.mono (by assumption) (by (repeat' (first | exact Ent.refl | exact Ent.drop | exact Ent.appR | apply Ent.skip)))); (· (first | rfl | assumption)); (· rfl)) | exact Reads.mono (by assumption) (by (repeat' (first | exact Ent.refl | exact Ent.drop | exact Ent.appR | apply Ent.skip)))))) ?_ | refine SLl.rdSeq rfl rfl (Rd.loadN rfl rfl (by (first | exact ReadsN.mono (by assumption) (by (repeat' (first | exact Ent.refl | exact Ent.drop | exact Ent.appR | apply Ent.skip))) | (apply ReadsN.blk0; (· (repeat (first | apply Sel.here | apply Sel.there | apply Upd.here | apply Upd.there)))) | (apply ReadsN.row0; (· (repeat (first | apply Sel.here | apply Sel.there | apply Upd.here | apply Upd.there))); (· (first | rfl | assumption))) | (apply ReadsN.rs0; (· exact Rs.mono (by assumption) (by (repeat' (first | exact Ent.refl | exact Ent.drop | exact Ent.appR | apply Ent.skip)))); (· (first | rfl | assumption))))) (by rfl)) ?_))
 | ((show SLl _ _ _ _ _ (⟨⟨_, .fieldAddr _ _ _, _, _, _, _⟩, _, _⟩ :: _) _ _ _); (first | refine SLl.pu rfl rfl rfl (Pu.fieldAddr rfl) ?_ | refine SLl.rdSeq rfl rfl (Rd.fieldAddrEl rfl (by (first | exact Len.nil | (apply Len.row; (· (repeat (first | apply Sel.here | apply Sel.there | apply Upd.here | apply Upd.there)))) | (apply Len.rs; exact Rs.mono (by assumption) (by (repeat' (first | exact Ent.refl | exact Ent.drop | exact Ent.appR | apply Ent.skip)))))) (by omega)) ?_))
 | ((show SLl _ _ _ _ _ (⟨⟨_, .indexAddr _ _ _, _, _, _, _⟩, _, _⟩ :: _) _ _ _); (refine SLl.rdSeq rfl rfl (Rd.indexAddr rfl rfl (by (first | exact Len.nil | (apply Len.row; (· (repeat (first | apply Sel.here | apply Sel.there | apply Upd.here | apply Upd.there)))) | (apply Len.rs; exact Rs.mono (by assumption) (by (repeat' (first | exact Ent.refl | exact Ent.drop | exact Ent.appR | apply Ent.skip)))))) (by (first | exact ij0 | exact ij1 | exact ij2 | exact ij3 | exact ij4 | exact ij5 | exact ijs _ | exact ijm _ | rfl | exact (Int.toNat_of_nonneg (by omega)).symm)) (by omega)) ?_))
 | ((show SLl _ _ _ _ _ (⟨⟨_, .call ⟨.builtin .len, _, _⟩, _, _, _, _⟩, _, _⟩ :: _) _ _ _); refine SLl.rdSeq rfl rfl (Rd.len rfl (by (first | exact Len.nil | (apply Len.row; (· (repeat (first | apply Sel.here | apply Sel.there | apply Upd.here | apply Upd.there)))) | (apply Len.rs; exact Rs.mono (by assumption) (by (repeat' (first | exact Ent.refl | exact Ent.drop | exact Ent.appR | apply Ent.skip))))))) ?_)
 | ((show SLl _ _ _ _ _ (⟨⟨_, .binOp _ _ _ _ _, _, _, _, _⟩, _, _⟩ :: _) _ _ _); (first
 | refine SLl.pu rfl rfl rfl (Pu.add rfl rfl (IntWalk.i64_in _ (by omega))) ?_
 | refine SLl.pu rfl rfl rfl (Pu.sub rfl rfl (IntWalk.i64_in _ (by omega))) ?_
 | (refine SLl.cmp rfl rfl rfl rfl rfl rfl ?_ ?_ <;> intro hq <;> simp only [cmpP] at hq <;> try (first
 | exact (hq trivial).elim
 | (exfalso; omega)))
 | refine SLl.pu rfl rfl rfl (Pu.eqNilT rfl rfl) ?_
 | refine SLl.pu rfl rfl rfl (Pu.neNilF rfl rfl) ?_
 | refine SLl.rdSeq rfl rfl (Rd.eqNilF rfl rfl (by (first | exact Len.nil | (apply Len.row; (· (repeat (first | apply Sel.here | apply Sel.there | apply Upd.here | apply Upd.there)))) | (apply Len.rs; exact Rs.mono (by assumption) (by (repeat' (first | exact Ent.refl | exact Ent.drop | exact Ent.appR | apply Ent.skip)))))) (by assumption)) ?_
 | refine SLl.rdSeq rfl rfl (Rd.neNilT rfl rfl (by (first | exact Len.nil | (apply Len.row; (· (repeat (first | apply Sel.here | apply Sel.there | apply Upd.here | apply Upd.there)))) | (apply Len.rs; exact Rs.mono (by assumption) (by (repeat' (first | exact Ent.refl | exact Ent.drop | exact Ent.appR | apply Ent.skip)))))) (by assumption)) ?_
 | refine SLl.pu rfl rfl rfl (Pu.eqPtrNil rfl rfl) ?_
 | refine SLl.pu rfl rfl rfl (Pu.eqBool rfl rfl) ?_
 | refine SLl.pu rfl rfl rfl (Pu.neBool rfl rfl) ?_
 | refine SLl.pu rfl rfl rfl (Pu.nePtrNil rfl rfl) ?_
 | refine SLl.pu rfl rfl rfl (Pu.eqFuncNilF rfl rfl) ?_
 | refine SLl.pu rfl rfl rfl (Pu.eqFuncNilT rfl rfl) ?_))
 | ((show SLl _ _ _ _ _ (⟨⟨_, .store _ _ _, _, _, _, _⟩, _, _⟩ :: _) _ _ _); (first | (refine SLl.seq0 rfl (SLo.store rfl rfl rfl (by (first | exact One.lit rfl | exact One.lit (by assumption) | exact One.mono (by assumption) (by (repeat' (first | exact Ent.refl | exact Ent.drop | exact Ent.appR | apply Ent.skip))) | exact One.len (by (first | exact Len.nil | (apply Len.row; (· (repeat (first | apply Sel.here | apply Sel.there | apply Upd.here | apply Upd.there)))) | (apply Len.rs; exact Rs.mono (by assumption) (by (repeat' (first | exact Ent.refl | exact Ent.drop | exact Ent.appR | apply Ent.skip)))))))) (by (first | (apply Wr.blk; (· (repeat (first | apply Sel.here | apply Sel.there | apply Upd.here | apply Upd.there))); (· exact Nat.le_of_ble_eq_true rfl)) | (apply Wr.row; (· (first | rfl | assumption)); (· exact Nat.le_of_ble_eq_true rfl); (· (repeat (first | apply Sel.here | apply Sel.there | apply Upd.here | apply Upd.there)))))) ?_)) | (refine SLl.seq0 rfl (SLo.storeN rfl rfl rfl (by (repeat' (first | exact trivial | (apply And.intro; (· (first | exact One.lit rfl | exact One.lit (by assumption) | exact One.mono (by assumption) (by (repeat' (first | exact Ent.refl | exact Ent.drop | exact Ent.appR | apply Ent.skip))) | exact One.len (by (first | exact Len.nil | (apply Len.row; (· (repeat (first | apply Sel.here | apply Sel.there | apply Upd.here | apply Upd.there)))) | (apply Len.rs; exact Rs.mono (by assumption) (by (repeat' (first | exact Ent.refl | exact Ent.drop | exact Ent.appR | apply Ent.skip)))))))))))) (Nat.le_of_ble_eq_true rfl) (by (repeat (first | apply Sel.here | apply Sel.there | apply Upd.here | apply Upd.there))) ?_))))
 | ((show SLl _ _ _ _ _ (⟨⟨_, .box _ _, _, _, _, _⟩, _, _⟩ :: _) _ _ _); refine SLl.seq rfl rfl (SLo.boxC rfl (by (first | exact Cel.one (by (first | exact One.lit rfl | exact One.lit (by assumption) | exact One.mono (by assumption) (by (repeat' (first | exact Ent.refl | exact Ent.drop | exact Ent.appR | apply Ent.skip))) | exact One.len (by (first | exact Len.nil | (apply Len.row; (· (repeat (first | apply Sel.here | apply Sel.there | apply Upd.here | apply Upd.there)))) | (apply Len.rs; exact Rs.mono (by assumption) (by (repeat' (first | exact Ent.refl | exact Ent.drop | exact Ent.appR | apply Ent.skip)))))))) | exact Cel.agg)) ?_); intro b)
 | ((show SLl _ _ _ _ _ (⟨⟨_, .alloc _, _, _, _, _⟩, _, _⟩ :: _) _ _ _); refine SLl.seq rfl rfl (SLo.alloc ?_); intro b)
 | ((show SLl _ _ _ _ _ (⟨⟨_, .build _ _, _, _, _, _⟩, _, _⟩ :: _) _ _ _); first
 | refine SLl.rdSeq rfl rfl (Rd.build rfl (by (repeat (first | exact CellsW.nil | (apply CellsW.cons; (· (first | exact Cel.one (by (first | exact One.lit rfl | exact One.lit (by assumption) | exact One.mono (by assumption) (by (repeat' (first | exact Ent.refl | exact Ent.drop | exact Ent.appR | apply Ent.skip))) | exact One.len (by (first | exact Len.nil | (apply Len.row; (· (repeat (first | apply Sel.here | apply Sel.there | apply Upd.here | apply Upd.there)))) | (apply Len.rs; exact Rs.mono (by assumption) (by (repeat' (first | exact Ent.refl | exact Ent.drop | exact Ent.appR | apply Ent.skip)))))))) | exact Cel.agg)))))) (by rfl)) ?_
 | refine SLl.pu rfl rfl rfl (Pu.build rfl rfl) ?_)
 | refine SLl.skip rfl rfl ?_))
 | (first
 | refine SLc.seq ?_
 | refine SLc.region rfl ?_
 | refine SLc.condT rfl ?_
 | refine SLc.condF rfl ?_
 | refine SLc.block ?_
 | refine SLc.skip ?_
 | refine SLc.exit ?_
 | refine SLc.ret ?_)))
      refine SLl.seq rfl rfl (SLo.call plain72 rfl (SLf.ent (.skip .swap) (SLf.mono (Down_at W _ lb sb q pv lw (downUps hj) (by dsimp only; omega) (by dsimp only; omega) rfl) ?_)))
      rintro v σ2 ⟨q2, rfl, rfl⟩
      (repeat' (first
 | (first
 | refine SLl.nil ?_
 | ((show SLl _ _ _ _ _ (⟨⟨_, _, _, _, _, _⟩, _, _⟩ :: _) _ _ _); first
 | refine SLl.ev rfl rfl rfl rfl ?_
 | ((show SLl _ _ _ _ _ (⟨⟨_, .load _ _, _, _, _, _⟩, _, _⟩ :: _) _ _ _); (first | refine SLl.rdSeq rfl rfl (Rd.load rfl rfl (by (first | (apply Reads.blk; (· (repeat (first | apply Sel.here | apply Sel.there | apply Upd.here | apply Upd.there))); (· rfl)) | (apply Reads.row; (· (repeat (first | apply Sel.here | apply Sel.there | apply Upd.here | apply Upd.there))); (· (first | rfl | assumption)); (· rfl)) | (apply Reads.rs; (· exact Rs.mono (by assumption) (by (repeat' (first | exact Ent.refl | exact Ent.drop | exact Ent.appR | apply Ent.skip)))); (· (first | rfl | assumption)); (· rfl)) | exact Reads.mono (by assumption) (by (repeat' (first | exact Ent.refl | exact Ent.drop | exact Ent.appR | apply Ent.skip)))))) ?_ | refine SLl.rdSeq rfl rfl (Rd.loadN rfl rfl (by (first | exact ReadsN.mono (by assumption) (by (repeat' (first | exact Ent.refl | exact Ent.drop | exact Ent.appR | apply Ent.skip))) | (apply ReadsN.blk0; (· (repeat (first | apply Sel.here | apply Sel.there | apply Upd.here | apply Upd.there)))) | (apply ReadsN.row0; (· (repeat (first | apply Sel.here | apply Sel.there | apply Upd.here | apply Upd.there))); (· (first | rfl | assumption))) | (apply ReadsN.rs0; (· exact Rs.mono (by assumption) (by (repeat' (first | exact Ent.refl | exact Ent.drop | exact Ent.appR | apply Ent.skip)))); (· (first | rfl | assumption))))) (by rfl)) ?_))
 | ((show SLl _ _ _ _ _ (⟨⟨_, .fieldAddr _ _ _, _, _, _, _⟩, _, _⟩ :: _) _ _ _); (first | refine SLl.pu rfl rfl rfl (Pu.fieldAddr rfl) ?_ | refine SLl.rdSeq rfl rfl (Rd.fieldAddrEl rfl (by (first | exact Len.nil | (apply Len.row; (· (repeat (first | apply Sel.here | apply Sel.there | apply Upd.here | apply Upd.there)))) | (apply Len.rs; exact Rs.mono (by assumption) (by (repeat' (first | exact Ent.refl | exact Ent.drop | exact Ent.appR | apply Ent.skip)))))) (by omega)) ?_))
 | ((show SLl _ _ _ _ _ (⟨⟨_, .indexAddr _ _ _, _, _, _, _⟩, _, _⟩ :: _) _ _ _); (refine SLl.rdSeq rfl rfl (Rd.indexAddr rfl rfl (by (first | exact Len.nil | (apply Len.row; (· (repeat (first | apply Sel.here | apply Sel.there | apply Upd.here | apply Upd.there)))) | (apply Len.rs; exact Rs.mono (by assumption) (by (repeat' (first | exact Ent.refl | exact Ent.drop | exact Ent.appR | apply Ent.skip)))))) (by (first | exact ij0 | exact ij1 | exact ij2 | exact ij3 | exact ij4 | exact ij5 | exact ijs _ | exact ijm _ | rfl | exact (Int.toNat_of_nonneg (by omega)).symm)) (by omega)) ?_))
 | ((show SLl _ _ _ _ _ (⟨⟨_, .call ⟨.builtin .len, _, _⟩, _, _, _, _⟩, _, _⟩ :: _) _ _ _); refine SLl.rdSeq rfl rfl (Rd.len rfl (by (first | exact Len.nil | (apply Len.row; (· (repeat (first | apply Sel.here | apply Sel.there | apply Upd.here | apply Upd.there)))) | (apply Len.rs; exact Rs.mono (by assumption) (by (repeat' (first | exact Ent.refl | exact Ent.drop | exact Ent.appR | apply Ent.skip))))))) ?_)
 | ((show SLl _ _ _ _ _ (⟨⟨_, .binOp _ _ _ _ _, _, _, _, _⟩, _, _⟩ :: _) _ _ _); (first
 | refine SLl.pu rfl rfl rfl (Pu.add rfl rfl (IntWalk.i64_in _ (by omega))) ?_
 | refine SLl.pu rfl rfl rfl (Pu.sub rfl rfl (IntWalk.i64_in _ (by omega))) ?_
 | (refine SLl.cmp rfl rfl rfl rfl rfl rfl ?_ ?_ <;> intro hq <;> simp only [cmpP] at hq <;> try (first
 | exact (hq trivial).elim
 | (exfalso; omega)))
 | refine SLl.pu rfl rfl rfl (Pu.eqNilT rfl rfl) ?_
 | refine SLl.pu rfl rfl rfl (Pu.neNilF rfl rfl) ?_
 | refine SLl.rdSeq rfl rfl (Rd.eqNilF rfl rfl (by (first | exact Len.nil | (apply Len.row; (· (repeat (first | apply Sel.here | apply Sel.there | apply Upd.here | apply Upd.there)))) | (apply Len.rs; exact Rs.mono (by assumption) (by (repeat' (first | exact Ent.refl | exact Ent.drop | exact Ent.appR | apply Ent.skip)))))) (by assumption)) ?_
 | refine SLl.rdSeq rfl rfl (Rd.neNilT rfl rfl (by (first | exact Len.nil | (apply Len.row; (· (repeat (first | apply Sel.here | apply Sel.there | apply Upd.here | apply Upd.there)))) | (apply Len.rs; exact Rs.mono (by assumption) (by (repeat' (first | exact Ent.refl | exact Ent.drop | exact Ent.appR | apply Ent.skip)))))) (by assumption)) ?_
 | refine SLl.pu rfl rfl rfl (Pu.eqPtrNil rfl rfl) ?_
 | refine SLl.pu rfl rfl rfl (Pu.eqBool rfl rfl) ?_
 | refine SLl.pu rfl rfl rfl (Pu.neBool rfl rfl) ?_
 | refine SLl.pu rfl rfl rfl (Pu.nePtrNil rfl rfl) ?_
 | refine SLl.pu rfl rfl rfl (Pu.eqFuncNilF rfl rfl) ?_
 | refine SLl.pu rfl rfl rfl (Pu.eqFuncNilT rfl rfl) ?_))
 | ((show SLl _ _ _ _ _ (⟨⟨_, .store _ _ _, _, _, _, _⟩, _, _⟩ :: _) _ _ _); (first | (refine SLl.seq0 rfl (SLo.store rfl rfl rfl (by (first | exact One.lit rfl | exact One.lit (by assumption) | exact One.mono (by assumption) (by (repeat' (first | exact Ent.refl | exact Ent.drop | exact Ent.appR | apply Ent.skip))) | exact One.len (by (first | exact Len.nil | (apply Len.row; (· (repeat (first | apply Sel.here | apply Sel.there | apply Upd.here | apply Upd.there)))) | (apply Len.rs; exact Rs.mono (by assumption) (by (repeat' (first | exact Ent.refl | exact Ent.drop | exact Ent.appR | apply Ent.skip)))))))) (by (first | (apply Wr.blk; (· (repeat (first | apply Sel.here | apply Sel.there | apply Upd.here | apply Upd.there))); (· exact Nat.le_of_ble_eq_true rfl)) | (apply Wr.row; (· (first | rfl | assumption)); (· exact Nat.le_of_ble_eq_true rfl); (· (repeat (first | apply Sel.here | apply Sel.there | apply Upd.here | apply Upd.there)))))) ?_)) | (refine SLl.seq0 rfl (SLo.storeN rfl rfl rfl (by (repeat' (first | exact trivial | (apply And.intro; (· (first | exact One.lit rfl | exact One.lit (by assumption) | exact One.mono (by assumption) (by (repeat' (first | exact Ent.refl | exact Ent.drop | exact Ent.appR | apply Ent.skip))) | exact One.len (by (first | exact Len.nil | (apply Len.row; (· (repeat (first | apply Sel.here | apply Sel.there | apply Upd.here | apply Upd.there)))) | (apply Len.rs; exact Rs.mono (by assumption) (by (repeat' (first | exact Ent.refl | exact Ent.drop | exact Ent.appR | apply Ent.skip)))))))))))) (Nat.le_of_ble_eq_true rfl) (by (repeat (first | apply Sel.here | apply Sel.there | apply Upd.here | apply Upd.there))) ?_))))
 | ((show SLl _ _ _ _ _ (⟨⟨_, .box _ _, _, _, _, _⟩, _, _⟩ :: _) _ _ _); refine SLl.seq rfl rfl (SLo.boxC rfl (by (first | exact Cel.one (by (first | exact One.lit rfl | exact One.lit (by assumption) | exact One.mono (by assumption) (by (repeat' (first | exact Ent.refl | exact Ent.drop | exact Ent.appR | apply Ent.skip))) | exact One.len (by (first | exact Len.nil | (apply Len.row; (· (repeat (first | apply Sel.here | apply Sel.there | apply Upd.here | apply Upd.there)))) | (apply Len.rs; exact Rs.mono (by assumption) (by (repeat' (first | exact Ent.refl | exact Ent.drop | exact Ent.appR | apply Ent.skip)))))))) | exact Cel.agg)) ?_); intro b)
 | ((show SLl _ _ _ _ _ (⟨⟨_, .alloc _, _, _, _, _⟩, _, _⟩ :: _) _ _ _); refine SLl.seq rfl rfl (SLo.alloc ?_); intro b)
 | ((show SLl _ _ _ _ _ (⟨⟨_, .build _ _, _, _, _, _⟩, _, _⟩ :: _) _ _ _); first
 | refine SLl.rdSeq rfl rfl (Rd.build rfl (by (repeat (first | exact CellsW.nil | (apply CellsW.cons; (· (first | exact Cel.one (by (first | exact One.lit rfl | exact One.lit (by assumption) | exact One.mono (by assumption) (by (repeat' (first | exact Ent.refl | exact Ent.drop | exact Ent.appR | apply Ent.skip))) | exact One.len (by (first | exact Len.nil | (apply Len.row; (· (repeat (first | apply Sel.here | apply Sel.there | apply Upd.here | apply Upd.there)))) | (apply Len.rs; exact Rs.mono (by assumption) (by (repeat' (first | exact Ent.refl | exact Ent.drop | exact Ent.appR | apply Ent.skip)))))))) | exact Cel.agg)))))) (by rfl)) ?_
 | refine SLl.pu rfl rfl rfl (Pu.build rfl rfl) ?_)
 | refine SLl.skip rfl rfl ?_))
 | (first
 | refine SLc.seq ?_
 | refine SLc.region rfl ?_
 | refine SLc.condT rfl ?_
 | refine SLc.condF rfl ?_
 | refine SLc.block ?_
 | refine SLc.skip ?_
 | refine SLc.exit ?_
 | refine SLc.ret ?_)))
      refine And.intro rfl (Exists.intro (j - 1, q2) (And.intro ⟨by dsimp only; omega, by dsimp only; omega⟩ (And.intro (by dsimp only; omega) (And.intro (by (repeat' (first | exact trivial | apply And.intro | rfl))) ?_))))
      dsimp only
      rw [show j - 1 + 1 = j by omega]
      exact .swap
    · obtain rfl : j = -1 := by omega
      rw [show upsQ (-1) = [] from rfl, show upsM (-1) = oneR from rfl, show (-1 : Int) + 1 = 0 from rfl]
      (repeat' (first
 | (first
 | refine SLl.nil ?_
 | ((show SLl _ _ _ _ _ (⟨⟨_, _, _, _, _, _⟩, _, _⟩ :: _) _ _ _); first
 | refine SLl.ev rfl rfl rfl rfl ?_
 | ((show SLl _ _ _ _ _ (⟨⟨_, .load _ _, _, _, _, _⟩, _, _⟩ :: _) _ _ _); (first | refine SLl.rdSeq rfl rfl (Rd.load rfl rfl (by (first | (apply Reads.blk; (· (repeat (first | apply Sel.here | apply Sel.there | apply Upd.here | apply Upd.there))); (· rfl)) | (apply Reads.row; (· (repeat (first | apply Sel.here | apply Sel.there | apply Upd.here | apply Upd.there))); (· (first | rfl | assumption)); (· rfl)) | (apply Reads.rs; (· exact Rs.mono (by assumption) (by (repeat' (first | exact Ent.refl | exact Ent.drop | exact Ent.appR | apply Ent.skip)))); (· (first | rfl | assumption)); (· rfl)) | exact Reads.mono (by assumption) (by (repeat' (first | exact Ent.refl | exact Ent.drop | exact Ent.appR | apply Ent.skip)))))) ?_ | refine SLl.rdSeq rfl rfl (Rd.loadN rfl rfl (by (first | exact ReadsN.mono (by assumption) (by (repeat' (first | exact Ent.refl | exact Ent.drop | exact Ent.appR | apply Ent.skip))) | (apply ReadsN.blk0; (· (repeat (first | apply Sel.here | apply Sel.there | apply Upd.here | apply Upd.there)))) | (apply ReadsN.row0; (· (repeat (first | apply Sel.here | apply Sel.there | apply Upd.here | apply Upd.there))); (· (first | rfl | assumption))) | (apply ReadsN.rs0; (· exact Rs.mono (by assumption) (by (repeat' (first | exact Ent.refl | exact Ent.drop | exact Ent.appR | apply Ent.skip)))); (· (first | rfl | assumption))))) (by rfl)) ?_))
 | ((show SLl _ _ _ _ _ (⟨⟨_, .fieldAddr _ _ _, _, _, _, _⟩, _, _⟩ :: _) _ _ _); (first | refine SLl.pu rfl rfl rfl (Pu.fieldAddr rfl) ?_ | refine SLl.rdSeq rfl rfl (Rd.fieldAddrEl rfl (by (first | exact Len.nil | (apply Len.row; (· (repeat (first | apply Sel.here | apply Sel.there | apply Upd.here | apply Upd.there)))) | (apply Len.rs; exact Rs.mono (by assumption) (by (repeat' (first | exact Ent.refl | exact Ent.drop | exact Ent.appR | apply Ent.skip)))))) (by omega)) ?_))
 | ((show SLl _ _ _ _ _ (⟨⟨_, .indexAddr _ _ _, _, _, _, _⟩, _, _⟩ :: _) _ _ _); (refine SLl.rdSeq rfl rfl (Rd.indexAddr rfl rfl (by (first | exact Len.nil | (apply Len.row; (· (repeat (first | apply Sel.here | apply Sel.there | apply Upd.here | apply Upd.there)))) | (apply Len.rs; exact Rs.mono (by assumption) (by (repeat' (first | exact Ent.refl | exact Ent.drop | exact Ent.appR | apply Ent.skip)))))) (by (first | exact ij0 | exact ij1 | exact ij2 | exact ij3 | exact ij4 | exact ij5 | exact ijs _ | exact ijm _ | rfl | exact (Int.toNat_of_nonneg (by omega)).symm)) (by omega)) ?_))
 | ((show SLl _ _ _ _ _ (⟨⟨_, .call ⟨.builtin .len, _, _⟩, _, _, _, _⟩, _, _⟩ :: _) _ _ _); refine SLl.rdSeq rfl rfl (Rd.len rfl (by (first | exact Len.nil | (apply Len.row; (· (repeat (first | apply Sel.here | apply Sel.there | apply Upd.here | apply Upd.there)))) | (apply Len.rs; exact Rs.mono (by assumption) (by (repeat' (first | exact Ent.refl | exact Ent.drop | exact Ent.appR | apply Ent.skip))))))) ?_)
 | ((show SLl _ _ _ _ _ (⟨⟨_, .binOp _ _ _ _ _, _, _, _, _⟩, _, _⟩ :: _) _ _ _); (first
 | refine SLl.pu rfl rfl rfl (Pu.add rfl rfl (IntWalk.i64_in _ (by omega))) ?_
 | refine SLl.pu rfl rfl rfl (Pu.sub rfl rfl (IntWalk.i64_in _ (by omega))) ?_
 | (refine SLl.cmp rfl rfl rfl rfl rfl rfl ?_ ?_ <;> intro hq <;> simp only [cmpP] at hq <;> try (first
 | exact (hq trivial).elim
 | (exfalso; omega)))
 | refine SLl.pu rfl rfl rfl (Pu.eqNilT rfl rfl) ?_
 | refine SLl.pu rfl rfl rfl (Pu.neNilF rfl rfl) ?_
 | refine SLl.rdSeq rfl rfl (Rd.eqNilF rfl rfl (by (first | exact Len.nil | (apply Len.row; (· (repeat (first | apply Sel.here | apply Sel.there | apply Upd.here | apply Upd.there)))) | (apply Len.rs; exact Rs.mono (by assumption) (by (repeat' (first | exact Ent.refl | exact Ent.drop | exact Ent.appR | apply Ent.skip)))))) (by assumption)) ?_
 | refine SLl.rdSeq rfl rfl (Rd.neNilT rfl rfl (by (first | exact Len.nil | (apply Len.row; (· (repeat (first | apply Sel.here | apply Sel.there | apply Upd.here | apply Upd.there)))) | (apply Len.rs; exact Rs.mono (by assumption) (by (repeat' (first | exact Ent.refl | exact Ent.drop | exact Ent.appR | apply Ent.skip)))))) (by assumption)) ?_
 | refine SLl.pu rfl rfl rfl (Pu.eqPtrNil rfl rfl) ?_
 | refine SLl.pu rfl rfl rfl (Pu.eqBool rfl rfl) ?_
 | refine SLl.pu rfl rfl rfl (Pu.neBool rfl rfl) ?_
 | refine SLl.pu rfl rfl rfl (Pu.nePtrNil rfl rfl) ?_
 | refine SLl.pu rfl rfl rfl (Pu.eqFuncNilF rfl rfl) ?_
 | refine SLl.pu rfl rfl rfl (Pu.eqFuncNilT rfl rfl) ?_))
 | ((show SLl _ _ _ _ _ (⟨⟨_, .store _ _ _, _, _, _, _⟩, _, _⟩ :: _) _ _ _); (first | (refine SLl.seq0 rfl (SLo.store rfl rfl rfl (by (first | exact One.lit rfl | exact One.lit (by assumption) | exact One.mono (by assumption) (by (repeat' (first | exact Ent.refl | exact Ent.drop | exact Ent.appR | apply Ent.skip))) | exact One.len (by (first | exact Len.nil | (apply Len.row; (· (repeat (first | apply Sel.here | apply Sel.there | apply Upd.here | apply Upd.there)))) | (apply Len.rs; exact Rs.mono (by assumption) (by (repeat' (first | exact Ent.refl | exact Ent.drop | exact Ent.appR | apply Ent.skip)))))))) (by (first | (apply Wr.blk; (· (repeat (first | apply Sel.here | apply Sel.there | apply Upd.here | apply Upd.there))); (· exact Nat.le_of_ble_eq_true rfl)) | (apply Wr.row; (· (first | rfl | assumption)); (· exact Nat.le_of_ble_eq_true rfl); (· (repeat (first | apply Sel.here | apply Sel.there | apply Upd.here | apply Upd.there)))))) ?_)) | (refine SLl.seq0 rfl (SLo.storeN rfl rfl rfl (by (repeat' (first | exact trivial | (apply And.intro; (· (first | exact One.lit rfl | exact One.lit (by assumption) | exact One.mono (by assumption) (by (repeat' (first | exact Ent.refl | exact Ent.drop | exact Ent.appR | apply Ent.skip))) | exact One.len (by (first | exact Len.nil | (apply Len.row; (· (repeat (first | apply Sel.here | apply Sel.there | apply Upd.here | apply Upd.there)))) | (apply Len.rs; exact Rs.mono (by assumption) (by (repeat' (first | exact Ent.refl | exact Ent.drop | exact Ent.appR | apply Ent.skip)))))))))))) (Nat.le_of_ble_eq_true rfl) (by (repeat (first | apply Sel.here | apply Sel.there | apply Upd.here | apply Upd.there))) ?_))))
 | ((show SLl _ _ _ _ _ (⟨⟨_, .box _ _, _, _, _, _⟩, _, _⟩ :: _) _ _ _); refine SLl.seq rfl rfl (SLo.boxC rfl (by (first | exact Cel.one (by (first | exact One.lit rfl | exact One.lit (by assumption) | exact One.mono (by assumption) (by (repeat' (first | exact Ent.refl | exact Ent.drop | exact Ent.appR | apply Ent.skip))) | exact One.len (by (first | exact Len.nil | (apply Len.row; (· (repeat (first | apply Sel.here | apply Sel.there | apply Upd.here | apply Upd.there)))) | (apply Len.rs; exact Rs.mono (by assumption) (by (repeat' (first | exact Ent.refl | exact Ent.drop | exact Ent.appR | apply Ent.skip)))))))) | exact Cel.agg)) ?_); intro b)
 | ((show SLl _ _ _ _ _ (⟨⟨_, .alloc _, _, _, _, _⟩, _, _⟩ :: _) _ _ _); refine SLl.seq rfl rfl (SLo.alloc ?_); intro b)
 | ((show SLl _ _ _ _ _ (⟨⟨_, .build _ _, _, _, _, _⟩, _, _⟩ :: _) _ _ _); first
 | refine SLl.rdSeq rfl rfl (Rd.build rfl (by (repeat (first | exact CellsW.nil | (apply CellsW.cons; (· (first | exact Cel.one (by (first | exact One.lit rfl | exact One.lit (by assumption) | exact One.mono (by assumption) (by (repeat' (first | exact Ent.refl | exact Ent.drop | exact Ent.appR | apply Ent.skip))) | exact One.len (by (first | exact Len.nil | (apply Len.row; (· (repeat (first | apply Sel.here | apply Sel.there | apply Upd.here | apply Upd.there)))) | (apply Len.rs; exact Rs.mono (by assumption) (by (repeat' (first | exact Ent.refl | exact Ent.drop | exact Ent.appR | apply Ent.skip)))))))) | exact Cel.agg)))))) (by rfl)) ?_
 | refine SLl.pu rfl rfl rfl (Pu.build rfl rfl) ?_)
 | refine SLl.skip rfl rfl ?_))
 | (first
 | refine SLc.seq ?_
 | refine SLc.region rfl ?_
 | refine SLc.condT rfl ?_
 | refine SLc.condF rfl ?_
 | refine SLc.block ?_
 | refine SLc.skip ?_
 | refine SLc.exit ?_
 | refine SLc.ret ?_)))
      refine SLl.seq rfl rfl (SLo.call plain56 rfl (SLf.mono (Waiting_ok W _ sb pv lw oneR oneR_ok) ?_))
      rintro w2 σ2 rfl
      rw [oneR_waits]
      have hl0 : (natL []).length = 0 := rfl
      (repeat' (first
 | (first
 | refine SLl.nil ?_
 | ((show SLl _ _ _ _ _ (⟨⟨_, _, _, _, _, _⟩, _, _⟩ :: _) _ _ _); first
 | refine SLl.ev rfl rfl rfl rfl ?_
 | ((show SLl _ _ _ _ _ (⟨⟨_, .load _ _, _, _, _, _⟩, _, _⟩ :: _) _ _ _); (first | refine SLl.rdSeq rfl rfl (Rd.load rfl rfl (by (first | (apply Reads.blk; (· (repeat (first | apply Sel.here | apply Sel.there | apply Upd.here | apply Upd.there))); (· rfl)) | (apply Reads.row; (· (repeat (first | apply Sel.here | apply Sel.there | apply Upd.here | apply Upd.there))); (· (first | rfl | assumption)); (· rfl)) | (apply Reads.rs; (· exact Rs.mono (by assumption) (by (repeat' (first | exact Ent.refl | exact Ent.drop | exact Ent.appR | apply Ent.skip)))); (· (first | rfl | assumption)); (· rfl)) | exact Reads.mono (by assumption) (by (repeat' (first | exact Ent.refl | exact Ent.drop | exact Ent.appR | apply Ent.skip)))))) ?_ | refine SLl.rdSeq rfl rfl (Rd.loadN rfl rfl (by (first | exact ReadsN.mono (by assumption) (by (repeat' (first | exact Ent.refl | exact Ent.drop | exact Ent.appR | apply Ent.skip))) | (apply ReadsN.blk0; (· (repeat (first | apply Sel.here | apply Sel.there | apply Upd.here | apply Upd.there)))) | (apply ReadsN.row0; (· (repeat (first | apply Sel.here | apply Sel.there | apply Upd.here | apply Upd.there))); (· (first | rfl | assumption))) | (apply ReadsN.rs0; (· exact Rs.mono (by assumption) (by (repeat' (first | exact Ent.refl | exact Ent.drop | exact Ent.appR | apply Ent.skip)))); (· (first | rfl | assumption))))) (by rfl)) ?_))
 | ((show SLl _ _ _ _ _ (⟨⟨_, .fieldAddr _ _ _, _, _, _, _⟩, _, _⟩ :: _) _ _ _); (first | refine SLl.pu rfl rfl rfl (Pu.fieldAddr rfl) ?_ | refine SLl.rdSeq rfl rfl (Rd.fieldAddrEl rfl (by (first | exact Len.nil | (apply Len.row; (· (repeat (first | apply Sel.here | apply Sel.there | apply Upd.here | apply Upd.there)))) | (apply Len.rs; exact Rs.mono (by assumption) (by (repeat' (first | exact Ent.refl | exact Ent.drop | exact Ent.appR | apply Ent.skip)))))) (by omega)) ?_))
 | ((show SLl _ _ _ _ _ (⟨⟨_, .indexAddr _ _ _, _, _, _, _⟩, _, _⟩ :: _) _ _ _); (refine SLl.rdSeq rfl rfl (Rd.indexAddr rfl rfl (by (first | exact Len.nil | (apply Len.row; (· (repeat (first | apply Sel.here | apply Sel.there | apply Upd.here | apply Upd.there)))) | (apply Len.rs; exact Rs.mono (by assumption) (by (repeat' (first | exact Ent.refl | exact Ent.drop | exact Ent.appR | apply Ent.skip)))))) (by (first | exact ij0 | exact ij1 | exact ij2 | exact ij3 | exact ij4 | exact ij5 | exact ijs _ | exact ijm _ | rfl | exact (Int.toNat_of_nonneg (by omega)).symm)) (by omega)) ?_))
 | ((show SLl _ _ _ _ _ (⟨⟨_, .call ⟨.builtin .len, _, _⟩, _, _, _, _⟩, _, _⟩ :: _) _ _ _); refine SLl.rdSeq rfl rfl (Rd.len rfl (by (first | exact Len.nil | (apply Len.row; (· (repeat (first | apply Sel.here | apply Sel.there | apply Upd.here | apply Upd.there)))) | (apply Len.rs; exact Rs.mono (by assumption) (by (repeat' (first | exact Ent.refl | exact Ent.drop | exact Ent.appR | apply Ent.skip))))))) ?_)
 | ((show SLl _ _ _ _ _ (⟨⟨_, .binOp _ _ _ _ _, _, _, _, _⟩, _, _⟩ :: _) _ _ _); (first
 | refine SLl.pu rfl rfl rfl (Pu.add rfl rfl (IntWalk.i64_in _ (by omega))) ?_
 | refine SLl.pu rfl rfl rfl (Pu.sub rfl rfl (IntWalk.i64_in _ (by omega))) ?_
 | (refine SLl.cmp rfl rfl rfl rfl rfl rfl ?_ ?_ <;> intro hq <;> simp only [cmpP] at hq <;> try (first
 | exact (hq trivial).elim
 | (exfalso; omega)))
 | refine SLl.pu rfl rfl rfl (Pu.eqNilT rfl rfl) ?_
 | refine SLl.pu rfl rfl rfl (Pu.neNilF rfl rfl) ?_
 | refine SLl.rdSeq rfl rfl (Rd.eqNilF rfl rfl (by (first | exact Len.nil | (apply Len.row; (· (repeat (first | apply Sel.here | apply Sel.there | apply Upd.here | apply Upd.there)))) | (apply Len.rs; exact Rs.mono (by assumption) (by (repeat' (first | exact Ent.refl | exact Ent.drop | exact Ent.appR | apply Ent.skip)))))) (by assumption)) ?_
 | refine SLl.rdSeq rfl rfl (Rd.neNilT rfl rfl (by (first | exact Len.nil | (apply Len.row; (· (repeat (first | apply Sel.here | apply Sel.there | apply Upd.here | apply Upd.there)))) | (apply Len.rs; exact Rs.mono (by assumption) (by (repeat' (first | exact Ent.refl | exact Ent.drop | exact Ent.appR | apply Ent.skip)))))) (by assumption)) ?_
 | refine SLl.pu rfl rfl rfl (Pu.eqPtrNil rfl rfl) ?_
 | refine SLl.pu rfl rfl rfl (Pu.eqBool rfl rfl) ?_
 | refine SLl.pu rfl rfl rfl (Pu.neBool rfl rfl) ?_
 | refine SLl.pu rfl rfl rfl (Pu.nePtrNil rfl rfl) ?_
 | refine SLl.pu rfl rfl rfl (Pu.eqFuncNilF rfl rfl) ?_
 | refine SLl.pu rfl rfl rfl (Pu.eqFuncNilT rfl rfl) ?_))
 | ((show SLl _ _ _ _ _ (⟨⟨_, .store _ _ _, _, _, _, _⟩, _, _⟩ :: _) _ _ _); (first | (refine SLl.seq0 rfl (SLo.store rfl rfl rfl (by (first | exact One.lit rfl | exact One.lit (by assumption) | exact One.mono (by assumption) (by (repeat' (first | exact Ent.refl | exact Ent.drop | exact Ent.appR | apply Ent.skip))) | exact One.len (by (first | exact Len.nil | (apply Len.row; (· (repeat (first | apply Sel.here | apply Sel.there | apply Upd.here | apply Upd.there)))) | (apply Len.rs; exact Rs.mono (by assumption) (by (repeat' (first | exact Ent.refl | exact Ent.drop | exact Ent.appR | apply Ent.skip)))))))) (by (first | (apply Wr.blk; (· (repeat (first | apply Sel.here | apply Sel.there | apply Upd.here | apply Upd.there))); (· exact Nat.le_of_ble_eq_true rfl)) | (apply Wr.row; (· (first | rfl | assumption)); (· exact Nat.le_of_ble_eq_true rfl); (· (repeat (first | apply Sel.here | apply Sel.there | apply Upd.here | apply Upd.there)))))) ?_)) | (refine SLl.seq0 rfl (SLo.storeN rfl rfl rfl (by (repeat' (first | exact trivial | (apply And.intro; (· (first | exact One.lit rfl | exact One.lit (by assumption) | exact One.mono (by assumption) (by (repeat' (first | exact Ent.refl | exact Ent.drop | exact Ent.appR | apply Ent.skip))) | exact One.len (by (first | exact Len.nil | (apply Len.row; (· (repeat (first | apply Sel.here | apply Sel.there | apply Upd.here | apply Upd.there)))) | (apply Len.rs; exact Rs.mono (by assumption) (by (repeat' (first | exact Ent.refl | exact Ent.drop | exact Ent.appR | apply Ent.skip)))))))))))) (Nat.le_of_ble_eq_true rfl) (by (repeat (first | apply Sel.here | apply Sel.there | apply Upd.here | apply Upd.there))) ?_))))
 | ((show SLl _ _ _ _ _ (⟨⟨_, .box _ _, _, _, _, _⟩, _, _⟩ :: _) _ _ _); refine SLl.seq rfl rfl (SLo.boxC rfl (by (first | exact Cel.one (by (first | exact One.lit rfl | exact One.lit (by assumption) | exact One.mono (by assumption) (by (repeat' (first | exact Ent.refl | exact Ent.drop | exact Ent.appR | apply Ent.skip))) | exact One.len (by (first | exact Len.nil | (apply Len.row; (· (repeat (first | apply Sel.here | apply Sel.there | apply Upd.here | apply Upd.there)))) | (apply Len.rs; exact Rs.mono (by assumption) (by (repeat' (first | exact Ent.refl | exact Ent.drop | exact Ent.appR | apply Ent.skip)))))))) | exact Cel.agg)) ?_); intro b)
 | ((show SLl _ _ _ _ _ (⟨⟨_, .alloc _, _, _, _, _⟩, _, _⟩ :: _) _ _ _); refine SLl.seq rfl rfl (SLo.alloc ?_); intro b)
 | ((show SLl _ _ _ _ _ (⟨⟨_, .build _ _, _, _, _, _⟩, _, _⟩ :: _) _ _ _); first
 | refine SLl.rdSeq rfl rfl (Rd.build rfl (by (repeat (first | exact CellsW.nil | (apply CellsW.cons; (· (first | exact Cel.one (by (first | exact One.lit rfl | exact One.lit (by assumption) | exact One.mono (by assumption) (by (repeat' (first | exact Ent.refl | exact Ent.drop | exact Ent.appR | apply Ent.skip))) | exact One.len (by (first | exact Len.nil | (apply Len.row; (· (repeat (first | apply Sel.here | apply Sel.there | apply Upd.here | apply Upd.there)))) | (apply Len.rs; exact Rs.mono (by assumption) (by (repeat' (first | exact Ent.refl | exact Ent.drop | exact Ent.appR | apply Ent.skip)))))))) | exact Cel.agg)))))) (by rfl)) ?_
 | refine SLl.pu rfl rfl rfl (Pu.build rfl rfl) ?_)
 | refine SLl.skip rfl rfl ?_))
 | (first
 | refine SLc.seq ?_
 | refine SLc.region rfl ?_
 | refine SLc.condT rfl ?_
 | refine SLc.condF rfl ?_
 | refine SLc.block ?_
 | refine SLc.skip ?_
 | refine SLc.exit ?_
 | refine SLc.ret ?_)))
      refine SLl.seq rfl rfl (SLo.call plain75 rfl (SLf.ent (.skip .swap) (SLf.mono (Up_at W _ lb sb q (bv := false) (L := ⟨0, []⟩) (L' := ⟨0, []⟩) rfl rfl (by decide) (by decide)) ?_)))
      rintro v σ2 ⟨rfl, rfl⟩
      (repeat' (first
 | (first
 | refine SLl.nil ?_
 | ((show SLl _ _ _ _ _ (⟨⟨_, _, _, _, _, _⟩, _, _⟩ :: _) _ _ _); first
 | refine SLl.ev rfl rfl rfl rfl ?_
 | ((show SLl _ _ _ _ _ (⟨⟨_, .load _ _, _, _, _, _⟩, _, _⟩ :: _) _ _ _); (first | refine SLl.rdSeq rfl rfl (Rd.load rfl rfl (by (first | (apply Reads.blk; (· (repeat (first | apply Sel.here | apply Sel.there | apply Upd.here | apply Upd.there))); (· rfl)) | (apply Reads.row; (· (repeat (first | apply Sel.here | apply Sel.there | apply Upd.here | apply Upd.there))); (· (first | rfl | assumption)); (· rfl)) | (apply Reads.rs; (· exact Rs.mono (by assumption) (by (repeat' (first | exact Ent.refl | exact Ent.drop | exact Ent.appR | apply Ent.skip)))); (· (first | rfl | assumption)); (· rfl)) | exact Reads.mono (by assumption) (by (repeat' (first | exact Ent.refl | exact Ent.drop | exact Ent.appR | apply Ent.skip)))))) ?_ | refine SLl.rdSeq rfl rfl (Rd.loadN rfl rfl (by (first | exact ReadsN.mono (by assumption) (by (repeat' (first | exact Ent.refl | exact Ent.drop | exact Ent.appR | apply Ent.skip))) | (apply ReadsN.blk0; (· (repeat (first | apply Sel.here | apply Sel.there | apply Upd.here | apply Upd.there)))) | (apply ReadsN.row0; (· (repeat (first | apply Sel.here | apply Sel.there | apply Upd.here | apply Upd.there))); (· (first | rfl | assumption))) | (apply ReadsN.rs0; (· exact Rs.mono (by assumption) (by (repeat' (first | exact Ent.refl | exact Ent.drop | exact Ent.appR | apply Ent.skip)))); (· (first | rfl | assumption))))) (by rfl)) ?_))
 | ((show SLl _ _ _ _ _ (⟨⟨_, .fieldAddr _ _ _, _, _, _, _⟩, _, _⟩ :: _) _ _ _); (first | refine SLl.pu rfl rfl rfl (Pu.fieldAddr rfl) ?_ | refine SLl.rdSeq rfl rfl (Rd.fieldAddrEl rfl (by (first | exact Len.nil | (apply Len.row; (· (repeat (first | apply Sel.here | apply Sel.there | apply Upd.here | apply Upd.there)))) | (apply Len.rs; exact Rs.mono (by assumption) (by (repeat' (first | exact Ent.refl | exact Ent.drop | exact Ent.appR | apply Ent.skip)))))) (by omega)) ?_))
 | ((show SLl _ _ _ _ _ (⟨⟨_, .indexAddr _ _ _, _, _, _, _⟩, _, _⟩ :: _) _ _ _); (refine SLl.rdSeq rfl rfl (Rd.indexAddr rfl rfl (by (first | exact Len.nil | (apply Len.row; (· (repeat (first | apply Sel.here | apply Sel.there | apply Upd.here | apply Upd.there)))) | (apply Len.rs; exact Rs.mono (by assumption) (by (repeat' (first | exact Ent.refl | exact Ent.drop | exact Ent.appR | apply Ent.skip)))))) (by (first | exact ij0 | exact ij1 | exact ij2 | exact ij3 | exact ij4 | exact ij5 | exact ijs _ | exact ijm _ | rfl | exact (Int.toNat_of_nonneg (by omega)).symm)) (by omega)) ?_))
 | ((show SLl _ _ _ _ _ (⟨⟨_, .call ⟨.builtin .len, _, _⟩, _, _, _, _⟩, _, _⟩ :: _) _ _ _); refine SLl.rdSeq rfl rfl (Rd.len rfl (by (first | exact Len.nil | (apply Len.row; (· (repeat (first | apply Sel.here | apply Sel.there | apply Upd.here | apply Upd.there)))) | (apply Len.rs; exact Rs.mono (by assumption) (by (repeat' (first | exact Ent.refl | exact Ent.drop | exact Ent.appR | apply Ent.skip))))))) ?_)
 | ((show SLl _ _ _ _ _ (⟨⟨_, .binOp _ _ _ _ _, _, _, _, _⟩, _, _⟩ :: _) _ _ _); (first
 | refine SLl.pu rfl rfl rfl (Pu.add rfl rfl (IntWalk.i64_in _ (by omega))) ?_
 | refine SLl.pu rfl rfl rfl (Pu.sub rfl rfl (IntWalk.i64_in _ (by omega))) ?_
 | (refine SLl.cmp rfl rfl rfl rfl rfl rfl ?_ ?_ <;> intro hq <;> simp only [cmpP] at hq <;> try (first
 | exact (hq trivial).elim
 | (exfalso; omega)))
 | refine SLl.pu rfl rfl rfl (Pu.eqNilT rfl rfl) ?_
 | refine SLl.pu rfl rfl rfl (Pu.neNilF rfl rfl) ?_
 | refine SLl.rdSeq rfl rfl (Rd.eqNilF rfl rfl (by (first | exact Len.nil | (apply Len.row; (· (repeat (first | apply Sel.here | apply Sel.there | apply Upd.here | apply Upd.there)))) | (apply Len.rs; exact Rs.mono (by assumption) (by (repeat' (first | exact Ent.refl | exact Ent.drop | exact Ent.appR | apply Ent.skip)))))) (by assumption)) ?_
 | refine SLl.rdSeq rfl rfl (Rd.neNilT rfl rfl (by (first | exact Len.nil | (apply Len.row; (· (repeat (first | apply Sel.here | apply Sel.there | apply Upd.here | apply Upd.there)))) | (apply Len.rs; exact Rs.mono (by assumption) (by (repeat' (first | exact Ent.refl | exact Ent.drop | exact Ent.appR | apply Ent.skip)))))) (by assumption)) ?_
 | refine SLl.pu rfl rfl rfl (Pu.eqPtrNil rfl rfl) ?_
 | refine SLl.pu rfl rfl rfl (Pu.eqBool rfl rfl) ?_
 | refine SLl.pu rfl rfl rfl (Pu.neBool rfl rfl) ?_
 | refine SLl.pu rfl rfl rfl (Pu.nePtrNil rfl rfl) ?_
 | refine SLl.pu rfl rfl rfl (Pu.eqFuncNilF rfl rfl) ?_
 | refine SLl.pu rfl rfl rfl (Pu.eqFuncNilT rfl rfl) ?_))
 | ((show SLl _ _ _ _ _ (⟨⟨_, .store _ _ _, _, _, _, _⟩, _, _⟩ :: _) _ _ _); (first | (refine SLl.seq0 rfl (SLo.store rfl rfl rfl (by (first | exact One.lit rfl | exact One.lit (by assumption) | exact One.mono (by assumption) (by (repeat' (first | exact Ent.refl | exact Ent.drop | exact Ent.appR | apply Ent.skip))) | exact One.len (by (first | exact Len.nil | (apply Len.row; (· (repeat (first | apply Sel.here | apply Sel.there | apply Upd.here | apply Upd.there)))) | (apply Len.rs; exact Rs.mono (by assumption) (by (repeat' (first | exact Ent.refl | exact Ent.drop | exact Ent.appR | apply Ent.skip)))))))) (by (first | (apply Wr.blk; (· (repeat (first | apply Sel.here | apply Sel.there | apply Upd.here | apply Upd.there))); (· exact Nat.le_of_ble_eq_true rfl)) | (apply Wr.row; (· (first | rfl | assumption)); (· exact Nat.le_of_ble_eq_true rfl); (· (repeat (first | apply Sel.here | apply Sel.there | apply Upd.here | apply Upd.there)))))) ?_)) | (refine SLl.seq0 rfl (SLo.storeN rfl rfl rfl (by (repeat' (first | exact trivial | (apply And.intro; (· (first | exact One.lit rfl | exact One.lit (by assumption) | exact One.mono (by assumption) (by (repeat' (first | exact Ent.refl | exact Ent.drop | exact Ent.appR | apply Ent.skip))) | exact One.len (by (first | exact Len.nil | (apply Len.row; (· (repeat (first | apply Sel.here | apply Sel.there | apply Upd.here | apply Upd.there)))) | (apply Len.rs; exact Rs.mono (by assumption) (by (repeat' (first | exact Ent.refl | exact Ent.drop | exact Ent.appR | apply Ent.skip)))))))))))) (Nat.le_of_ble_eq_true rfl) (by (repeat (first | apply Sel.here | apply Sel.there | apply Upd.here | apply Upd.there))) ?_))))
 | ((show SLl _ _ _ _ _ (⟨⟨_, .box _ _, _, _, _, _⟩, _, _⟩ :: _) _ _ _); refine SLl.seq rfl rfl (SLo.boxC rfl (by (first | exact Cel.one (by (first | exact One.lit rfl | exact One.lit (by assumption) | exact One.mono (by assumption) (by (repeat' (first | exact Ent.refl | exact Ent.drop | exact Ent.appR | apply Ent.skip))) | exact One.len (by (first | exact Len.nil | (apply Len.row; (· (repeat (first | apply Sel.here | apply Sel.there | apply Upd.here | apply Upd.there)))) | (apply Len.rs; exact Rs.mono (by assumption) (by (repeat' (first | exact Ent.refl | exact Ent.drop | exact Ent.appR | apply Ent.skip)))))))) | exact Cel.agg)) ?_); intro b)
 | ((show SLl _ _ _ _ _ (⟨⟨_, .alloc _, _, _, _, _⟩, _, _⟩ :: _) _ _ _); refine SLl.seq rfl rfl (SLo.alloc ?_); intro b)
 | ((show SLl _ _ _ _ _ (⟨⟨_, .build _ _, _, _, _, _⟩, _, _⟩ :: _) _ _ _); first
 | refine SLl.rdSeq rfl rfl (Rd.build rfl (by (repeat (first | exact CellsW.nil | (apply CellsW.cons; (· (first | exact Cel.one (by (first | exact One.lit rfl | exact One.lit (by assumption) | exact One.mono (by assumption) (by (repeat' (first | exact Ent.refl | exact Ent.drop | exact Ent.appR | apply Ent.skip))) | exact One.len (by (first | exact Len.nil | (apply Len.row; (· (repeat (first | apply Sel.here | apply Sel.there | apply Upd.here | apply Upd.there)))) | (apply Len.rs; exact Rs.mono (by assumption) (by (repeat' (first | exact Ent.refl | exact Ent.drop | exact Ent.appR | apply Ent.skip)))))))) | exact Cel.agg)))))) (by rfl)) ?_
 | refine SLl.pu rfl rfl rfl (Pu.build rfl rfl) ?_)
 | refine SLl.skip rfl rfl ?_))
 | (first
 | refine SLc.seq ?_
 | refine SLc.region rfl ?_
 | refine SLc.condT rfl ?_
 | refine SLc.condF rfl ?_
 | refine SLc.block ?_
 | refine SLc.skip ?_
 | refine SLc.exit ?_
 | refine SLc.ret ?_)))
      refine SLl.seq rfl rfl (SLo.call plain70 rfl (SLf.mono (Await_at W _ lb sb q (L := ⟨0, []⟩) (bv := true) (L' := ⟨0, []⟩) rfl rfl) ?_))
      rintro v σ2 ⟨q9, rfl, rfl⟩
      (repeat' (first
 | (first
 | refine SLl.nil ?_
 | ((show SLl _ _ _ _ _ (⟨⟨_, _, _, _, _, _⟩, _, _⟩ :: _) _ _ _); first
 | refine SLl.ev rfl rfl rfl rfl ?_
 | ((show SLl _ _ _ _ _ (⟨⟨_, .load _ _, _, _, _, _⟩, _, _⟩ :: _) _ _ _); (first | refine SLl.rdSeq rfl rfl (Rd.load rfl rfl (by (first | (apply Reads.blk; (· (repeat (first | apply Sel.here | apply Sel.there | apply Upd.here | apply Upd.there))); (· rfl)) | (apply Reads.row; (· (repeat (first | apply Sel.here | apply Sel.there | apply Upd.here | apply Upd.there))); (· (first | rfl | assumption)); (· rfl)) | (apply Reads.rs; (· exact Rs.mono (by assumption) (by (repeat' (first | exact Ent.refl | exact Ent.drop | exact Ent.appR | apply Ent.skip)))); (· (first | rfl | assumption)); (· rfl)) | exact Reads.mono (by assumption) (by (repeat' (first | exact Ent.refl | exact Ent.drop | exact Ent.appR | apply Ent.skip)))))) ?_ | refine SLl.rdSeq rfl rfl (Rd.loadN rfl rfl (by (first | exact ReadsN.mono (by assumption) (by (repeat' (first | exact Ent.refl | exact Ent.drop | exact Ent.appR | apply Ent.skip))) | (apply ReadsN.blk0; (· (repeat (first | apply Sel.here | apply Sel.there | apply Upd.here | apply Upd.there)))) | (apply ReadsN.row0; (· (repeat (first | apply Sel.here | apply Sel.there | apply Upd.here | apply Upd.there))); (· (first | rfl | assumption))) | (apply ReadsN.rs0; (· exact Rs.mono (by assumption) (by (repeat' (first | exact Ent.refl | exact Ent.drop | exact Ent.appR | apply Ent.skip)))); (· (first | rfl | assumption))))) (by rfl)) ?_))
 | ((show SLl _ _ _ _ _ (⟨⟨_, .fieldAddr _ _ _, _, _, _, _⟩, _, _⟩ :: _) _ _ _); (first | refine SLl.pu rfl rfl rfl (Pu.fieldAddr rfl) ?_ | refine SLl.rdSeq rfl rfl (Rd.fieldAddrEl rfl (by (first | exact Len.nil | (apply Len.row; (· (repeat (first | apply Sel.here | apply Sel.there | apply Upd.here | apply Upd.there)))) | (apply Len.rs; exact Rs.mono (by assumption) (by (repeat' (first | exact Ent.refl | exact Ent.drop | exact Ent.appR | apply Ent.skip)))))) (by omega)) ?_))
 | ((show SLl _ _ _ _ _ (⟨⟨_, .indexAddr _ _ _, _, _, _, _⟩, _, _⟩ :: _) _ _ _); (refine SLl.rdSeq rfl rfl (Rd.indexAddr rfl rfl (by (first | exact Len.nil | (apply Len.row; (· (repeat (first | apply Sel.here | apply Sel.there | apply Upd.here | apply Upd.there)))) | (apply Len.rs; exact Rs.mono (by assumption) (by (repeat' (first | exact Ent.refl | exact Ent.drop | exact Ent.appR | apply Ent.skip)))))) (by (first | exact ij0 | exact ij1 | exact ij2 | exact ij3 | exact ij4 | exact ij5 | exact ijs _ | exact ijm _ | rfl | exact (Int.toNat_of_nonneg (by omega)).symm)) (by omega)) ?_))
 | ((show SLl _ _ _ _ _ (⟨⟨_, .call ⟨.builtin .len, _, _⟩, _, _, _, _⟩, _, _⟩ :: _) _ _ _); refine SLl.rdSeq rfl rfl (Rd.len rfl (by (first | exact Len.nil | (apply Len.row; (· (repeat (first | apply Sel.here | apply Sel.there | apply Upd.here | apply Upd.there)))) | (apply Len.rs; exact Rs.mono (by assumption) (by (repeat' (first | exact Ent.refl | exact Ent.drop | exact Ent.appR | apply Ent.skip))))))) ?_)
 | ((show SLl _ _ _ _ _ (⟨⟨_, .binOp _ _ _ _ _, _, _, _, _⟩, _, _⟩ :: _) _ _ _); (first
 | refine SLl.pu rfl rfl rfl (Pu.add rfl rfl (IntWalk.i64_in _ (by omega))) ?_
 | refine SLl.pu rfl rfl rfl (Pu.sub rfl rfl (IntWalk.i64_in _ (by omega))) ?_
 | (refine SLl.cmp rfl rfl rfl rfl rfl rfl ?_ ?_ <;> intro hq <;> simp only [cmpP] at hq <;> try (first
 | exact (hq trivial).elim
 | (exfalso; omega)))
 | refine SLl.pu rfl rfl rfl (Pu.eqNilT rfl rfl) ?_
 | refine SLl.pu rfl rfl rfl (Pu.neNilF rfl rfl) ?_
 | refine SLl.rdSeq rfl rfl (Rd.eqNilF rfl rfl (by (first | exact Len.nil | (apply Len.row; (· (repeat (first | apply Sel.here | apply Sel.there | apply Upd.here | apply Upd.there)))) | (apply Len.rs; exact Rs.mono (by assumption) (by (repeat' (first | exact Ent.refl | exact Ent.drop | exact Ent.appR | apply Ent.skip)))))) (by assumption)) ?_
 | refine SLl.rdSeq rfl rfl (Rd.neNilT rfl rfl (by (first | exact Len.nil | (apply Len.row; (· (repeat (first | apply Sel.here | apply Sel.there | apply Upd.here | apply Upd.there)))) | (apply Len.rs; exact Rs.mono (by assumption) (by (repeat' (first | exact Ent.refl | exact Ent.drop | exact Ent.appR | apply Ent.skip)))))) (by assumption)) ?_
 | refine SLl.pu rfl rfl rfl (Pu.eqPtrNil rfl rfl) ?_
 | refine SLl.pu rfl rfl rfl (Pu.eqBool rfl rfl) ?_
 | refine SLl.pu rfl rfl rfl (Pu.neBool rfl rfl) ?_
 | refine SLl.pu rfl rfl rfl (Pu.nePtrNil rfl rfl) ?_
 | refine SLl.pu rfl rfl rfl (Pu.eqFuncNilF rfl rfl) ?_
 | refine SLl.pu rfl rfl rfl (Pu.eqFuncNilT rfl rfl) ?_))
 | ((show SLl _ _ _ _ _ (⟨⟨_, .store _ _ _, _, _, _, _⟩, _, _⟩ :: _) _ _ _); (first | (refine SLl.seq0 rfl (SLo.store rfl rfl rfl (by (first | exact One.lit rfl | exact One.lit (by assumption) | exact One.mono (by assumption) (by (repeat' (first | exact Ent.refl | exact Ent.drop | exact Ent.appR | apply Ent.skip))) | exact One.len (by (first | exact Len.nil | (apply Len.row; (· (repeat (first | apply Sel.here | apply Sel.there | apply Upd.here | apply Upd.there)))) | (apply Len.rs; exact Rs.mono (by assumption) (by (repeat' (first | exact Ent.refl | exact Ent.drop | exact Ent.appR | apply Ent.skip)))))))) (by (first | (apply Wr.blk; (· (repeat (first | apply Sel.here | apply Sel.there | apply Upd.here | apply Upd.there))); (· exact Nat.le_of_ble_eq_true rfl)) | (apply Wr.row; (· (first | rfl | assumption)); (· exact Nat.le_of_ble_eq_true rfl); (· (repeat (first | apply Sel.here | apply Sel.there | apply Upd.here | apply Upd.there)))))) ?_)) | (refine SLl.seq0 rfl (SLo.storeN rfl rfl rfl (by (repeat' (first | exact trivial | (apply And.intro; (· (first | exact One.lit rfl | exact One.lit (by assumption) | exact One.mono (by assumption) (by (repeat' (first | exact Ent.refl | exact Ent.drop | exact Ent.appR | apply Ent.skip))) | exact One.len (by (first | exact Len.nil | (apply Len.row; (· (repeat (first | apply Sel.here | apply Sel.there | apply Upd.here | apply Upd.there)))) | (apply Len.rs; exact Rs.mono (by assumption) (by (repeat' (first | exact Ent.refl | exact Ent.drop | exact Ent.appR | apply Ent.skip)))))))))))) (Nat.le_of_ble_eq_true rfl) (by (repeat (first | apply Sel.here | apply Sel.there | apply Upd.here | apply Upd.there))) ?_))))
 | ((show SLl _ _ _ _ _ (⟨⟨_, .box _ _, _, _, _, _⟩, _, _⟩ :: _) _ _ _); refine SLl.seq rfl rfl (SLo.boxC rfl (by (first | exact Cel.one (by (first | exact One.lit rfl | exact One.lit (by assumption) | exact One.mono (by assumption) (by (repeat' (first | exact Ent.refl | exact Ent.drop | exact Ent.appR | apply Ent.skip))) | exact One.len (by (first | exact Len.nil | (apply Len.row; (· (repeat (first | apply Sel.here | apply Sel.there | apply Upd.here | apply Upd.there)))) | (apply Len.rs; exact Rs.mono (by assumption) (by (repeat' (first | exact Ent.refl | exact Ent.drop | exact Ent.appR | apply Ent.skip)))))))) | exact Cel.agg)) ?_); intro b)
 | ((show SLl _ _ _ _ _ (⟨⟨_, .alloc _, _, _, _, _⟩, _, _⟩ :: _) _ _ _); refine SLl.seq rfl rfl (SLo.alloc ?_); intro b)
 | ((show SLl _ _ _ _ _ (⟨⟨_, .build _ _, _, _, _, _⟩, _, _⟩ :: _) _ _ _); first
 | refine SLl.rdSeq rfl rfl (Rd.build rfl (by (repeat (first | exact CellsW.nil | (apply CellsW.cons; (· (first | exact Cel.one (by (first | exact One.lit rfl | exact One.lit (by assumption) | exact One.mono (by assumption) (by (repeat' (first | exact Ent.refl | exact Ent.drop | exact Ent.appR | apply Ent.skip))) | exact One.len (by (first | exact Len.nil | (apply Len.row; (· (repeat (first | apply Sel.here | apply Sel.there | apply Upd.here | apply Upd.there)))) | (apply Len.rs; exact Rs.mono (by assumption) (by (repeat' (first | exact Ent.refl | exact Ent.drop | exact Ent.appR | apply Ent.skip)))))))) | exact Cel.agg)))))) (by rfl)) ?_
 | refine SLl.pu rfl rfl rfl (Pu.build rfl rfl) ?_)
 | refine SLl.skip rfl rfl ?_))
 | (first
 | refine SLc.seq ?_
 | refine SLc.region rfl ?_
 | refine SLc.condT rfl ?_
 | refine SLc.condF rfl ?_
 | refine SLc.block ?_
 | refine SLc.skip ?_
 | refine SLc.exit ?_
 | refine SLc.ret ?_)))
      exact And.intro rfl (Exists.intro _ (Exists.intro [] (And.intro rfl (And.intro .drop rfl))))
end Go.Sl
