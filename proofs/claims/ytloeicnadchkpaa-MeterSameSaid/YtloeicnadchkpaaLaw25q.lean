/- backstitchlaw25.MeterSame: the walk. -/
import Derived.Test.YtloeicnadchkpaaMGrad
import Derived.Test.YtloeicnadchkpaaMAwake
namespace Go.Sl
open Go.Proofs
attribute [local irreducible] SLc SLl SLo SLf Pu Rd

set_option maxHeartbeats 4000000 in
theorem Same25 (W : World) (p q : Grad) (hX : GradX W p) (hY : GradX W q) : SLf Try.prog W 16 [.agg p.cells.toArray, .agg q.cells.toArray] [] (fun v _ => v = .bool true) := by
  have hpl := hX.l []
  have hql := hY.l []
  have o1 : One W [] p.lv := One.lit hX.lo
  have o2 : One W [] p.par.sv := One.lit hX.p.so
  have o3 : One W [] p.par.dv := One.lit hX.p.dO
  have o4 : One W [] q.lv := One.lit hY.lo
  have o5 : One W [] q.par.sv := One.lit hY.p.so
  have o6 : One W [] q.par.dv := One.lit hY.p.dO
  have ec1 : p.cells = [p.lv, p.par.sv, p.par.dv, .int .i64 p.node, .int .i64 p.err] := rfl
  have ec2 : q.cells = [q.lv, q.par.sv, q.par.dv, .int .i64 q.node, .int .i64 q.err] := rfl
  rw [ec1, ec2]
  refine SLf.enter Try.func16 rfl (Nat.le_of_ble_eq_true rfl) ?_
  (repeat' (first | (first | refine SLl.nil ?_ | ((show SLl _ _ _ _ _ (⟨⟨_, _, _, _, _, _⟩, _, _⟩ :: _) _ _ _); first | refine SLl.ev rfl rfl rfl rfl ?_ | ((show SLl _ _ _ _ _ (⟨⟨_, .box _ _, _, _, _, _⟩, _, _⟩ :: _) _ _ _); refine SLl.seq rfl rfl (SLo.boxC rfl (by (exact Cel.agg)) ?_); intro b))) | (first | refine SLc.seq ?_ | refine SLc.region rfl ?_)))
  obtain ⟨b3, hb3⟩ : ∃ x, x = b := ⟨_, rfl⟩
  subst hb3
  refine SLl.seq rfl rfl (SLo.call plain61 rfl (SLf.mono (Awake25 W _) ?_))
  rintro v σ ⟨rfl, rfl⟩
  (repeat' (first | (first | refine SLl.nil ?_ | ((show SLl _ _ _ _ _ (⟨⟨_, _, _, _, _, _⟩, _, _⟩ :: _) _ _ _); first | refine SLl.ev rfl rfl rfl rfl ?_ | ((show SLl _ _ _ _ _ (⟨⟨_, .load _ _, _, _, _, _⟩, _, _⟩ :: _) _ _ _); (refine SLl.rdSeq rfl rfl (Rd.load rfl rfl (by ((apply Reads.blk; (· (repeat (first | apply Sel.here | apply Sel.there))); (· rfl))))) ?_)) | ((show SLl _ _ _ _ _ (⟨⟨_, .fieldAddr _ _ _, _, _, _, _⟩, _, _⟩ :: _) _ _ _); (refine SLl.pu rfl rfl rfl (Pu.fieldAddr rfl) ?_)) | ((show SLl _ _ _ _ _ (⟨⟨_, .call ⟨.builtin .len, _, _⟩, _, _, _, _⟩, _, _⟩ :: _) _ _ _); refine SLl.rdSeq rfl rfl (Rd.len rfl (by ((apply Len.rs; exact Rs.mono (by assumption) (by (repeat' (exact Ent.drop))))))) ?_) | ((show SLl _ _ _ _ _ (⟨⟨_, .binOp _ _ _ _ _, _, _, _, _⟩, _, _⟩ :: _) _ _ _); ((refine SLl.cmp rfl rfl rfl rfl rfl rfl ?_ ?_ <;> intro hq <;> simp only [cmpP] at hq <;> try (fail)))) | refine SLl.skip rfl rfl ?_)) | (first | refine SLc.seq ?_ | refine SLc.region rfl ?_ | refine SLc.condT rfl ?_ | refine SLc.condF rfl ?_ | refine SLc.skip ?_ | refine SLc.ret ?_)))
  · refine And.intro rfl (Exists.intro _ (Exists.intro _ (And.intro rfl (And.intro .drop rfl))))
  · refine And.intro rfl (Exists.intro _ (Exists.intro _ (And.intro rfl (And.intro .drop rfl))))
  refine SLl.rdSeq rfl rfl (Rd.loadN (vs := [p.par.sv, p.par.dv]) rfl rfl (ReadsN.blkP 2 (.there .here) rfl) (by rfl)) ?_
  (repeat' (first | (first | refine SLl.nil ?_ | ((show SLl _ _ _ _ _ (⟨⟨_, _, _, _, _, _⟩, _, _⟩ :: _) _ _ _); first | ((show SLl _ _ _ _ _ (⟨⟨_, .load _ _, _, _, _, _⟩, _, _⟩ :: _) _ _ _); (refine SLl.rdSeq rfl rfl (Rd.load rfl rfl (by ((apply Reads.blk; (· (repeat (first | apply Sel.here | apply Sel.there))); (· rfl))))) ?_)) | ((show SLl _ _ _ _ _ (⟨⟨_, .fieldAddr _ _ _, _, _, _, _⟩, _, _⟩ :: _) _ _ _); (refine SLl.pu rfl rfl rfl (Pu.fieldAddr rfl) ?_)) | ((show SLl _ _ _ _ _ (⟨⟨_, .store _ _ _, _, _, _, _⟩, _, _⟩ :: _) _ _ _); ((refine SLl.seq0 rfl (SLo.storeN rfl rfl rfl (by (repeat' (first | exact trivial | (apply And.intro; (· (first | exact One.lit rfl | exact One.mono (by assumption) (by (repeat' (exact Ent.drop))))))))) (Nat.le_of_ble_eq_true rfl) (by (repeat (apply Upd.here))) ?_)))) | ((show SLl _ _ _ _ _ (⟨⟨_, .alloc _, _, _, _, _⟩, _, _⟩ :: _) _ _ _); refine SLl.seq rfl rfl (SLo.alloc ?_); intro b) | ((show SLl _ _ _ _ _ (⟨⟨_, .build _ _, _, _, _, _⟩, _, _⟩ :: _) _ _ _); refine SLl.rdSeq rfl rfl (Rd.build rfl (by (repeat (first | exact CellsW.nil | (apply CellsW.cons; (· (first | exact Cel.one (by (first | exact One.lit rfl | exact One.mono (by assumption) (by (repeat' (exact Ent.drop))))) | exact Cel.agg)))))) (by rfl)) ?_))) | (first | refine SLc.seq ?_ | refine SLc.region rfl ?_)))
  refine SLl.rdSeq rfl rfl (Rd.loadN (vs := [q.par.sv, q.par.dv]) rfl rfl (ReadsN.blkP 2 (.there .here) rfl) (by rfl)) ?_
  (repeat' (first | (first | refine SLl.nil ?_ | ((show SLl _ _ _ _ _ (⟨⟨_, _, _, _, _, _⟩, _, _⟩ :: _) _ _ _); first | ((show SLl _ _ _ _ _ (⟨⟨_, .load _ _, _, _, _, _⟩, _, _⟩ :: _) _ _ _); (refine SLl.rdSeq rfl rfl (Rd.load rfl rfl (by ((apply Reads.blk; (· (repeat (first | apply Sel.here | apply Sel.there))); (· rfl))))) ?_)) | ((show SLl _ _ _ _ _ (⟨⟨_, .fieldAddr _ _ _, _, _, _, _⟩, _, _⟩ :: _) _ _ _); (refine SLl.pu rfl rfl rfl (Pu.fieldAddr rfl) ?_)) | ((show SLl _ _ _ _ _ (⟨⟨_, .store _ _ _, _, _, _, _⟩, _, _⟩ :: _) _ _ _); ((refine SLl.seq0 rfl (SLo.storeN rfl rfl rfl (by (repeat' (first | exact trivial | (apply And.intro; (· (first | exact One.lit rfl | exact One.mono (by assumption) (by (repeat' (exact Ent.drop))))))))) (Nat.le_of_ble_eq_true rfl) (by (repeat (apply Upd.here))) ?_)))) | ((show SLl _ _ _ _ _ (⟨⟨_, .alloc _, _, _, _, _⟩, _, _⟩ :: _) _ _ _); refine SLl.seq rfl rfl (SLo.alloc ?_); intro b) | ((show SLl _ _ _ _ _ (⟨⟨_, .build _ _, _, _, _, _⟩, _, _⟩ :: _) _ _ _); refine SLl.rdSeq rfl rfl (Rd.build rfl (by (repeat (first | exact CellsW.nil | (apply CellsW.cons; (· (first | exact Cel.one (by (first | exact One.lit rfl | exact One.mono (by assumption) (by (repeat' (exact Ent.drop))))) | exact Cel.agg)))))) (by rfl)) ?_))) | (refine SLc.seq ?_)))
  refine SLc.draws _ [(0, .take), (1, .take), (3, .take), (4, .take), (2, .eff true), (5, .eff true), (6, .take), (7, .take), (8, .take), (9, .take), (10, .eff true), (11, .take), (12, .take), (13, .take), (15, .take), (14, .eff true), (16, .eff true), (17, .take), (18, .take)] mixed (by kernel_rfl) .refl ?_
  (repeat' ((((show SLl _ _ _ _ _ (⟨⟨_, _, _, _, _, _⟩, _, _⟩ :: _) _ _ _); ((show SLl _ _ _ _ _ (⟨⟨_, .load _ _, _, _, _, _⟩, _, _⟩ :: _) _ _ _); (refine SLl.rdTake rfl rfl (Rd.loadN rfl rfl (by ((apply ReadsN.blk0; (· (repeat (first | apply Sel.here | apply Sel.there)))))) (by rfl)) ?_))))))
  refine SLl.eff rfl rfl (SLo.call plain63 rfl (SLf.mono (Same63_ok W _ p q hX hY) ?_))
  rintro v σ ⟨rfl, rfl⟩
  refine And.intro (fun _ => .refl) ?_
  refine SLl.eff rfl rfl (SLo.call plain64 rfl (SLf.mono (SGrad64_ok W _ p q hX hY) ?_))
  rintro v σ ⟨rfl, rfl⟩
  refine And.intro (fun _ => .refl) ?_
  generalize decide (gkey p = gkey q) = c
  cases c
  all_goals
    (repeat' ((((show SLl _ _ _ _ _ (⟨⟨_, _, _, _, _, _⟩, _, _⟩ :: _) _ _ _); first | refine SLl.ev rfl rfl rfl rfl ?_ | ((show SLl _ _ _ _ _ (⟨⟨_, .load _ _, _, _, _, _⟩, _, _⟩ :: _) _ _ _); (refine SLl.rdTake rfl rfl (Rd.loadN rfl rfl (by ((apply ReadsN.blk0; (· (repeat (first | apply Sel.here | apply Sel.there)))))) (by rfl)) ?_)) | ((show SLl _ _ _ _ _ (⟨⟨_, .binOp _ _ _ _ _, _, _, _, _⟩, _, _⟩ :: _) _ _ _); (refine SLl.pu rfl rfl rfl (Pu.eqBool rfl rfl) ?_))))))
    refine SLl.eff rfl rfl (SLo.call plain63 rfl (SLf.mono (Same63_ok W _ p p hX hX) ?_))
    rintro v σ ⟨rfl, rfl⟩
    rw [decide_eq_true (rfl : gkey p = gkey p)]
    refine And.intro (fun _ => .refl) ?_
    (repeat' ((((show SLl _ _ _ _ _ (⟨⟨_, _, _, _, _, _⟩, _, _⟩ :: _) _ _ _); first | refine SLl.ev rfl rfl rfl rfl ?_ | ((show SLl _ _ _ _ _ (⟨⟨_, .load _ _, _, _, _, _⟩, _, _⟩ :: _) _ _ _); (refine SLl.rdTake rfl rfl (Rd.loadN rfl rfl (by ((apply ReadsN.blk0; (· (repeat (first | apply Sel.here | apply Sel.there)))))) (by rfl)) ?_))))))
    refine SLl.eff rfl rfl (SLo.call plain65 rfl (SLf.mono (Back65_ok W _ p hX) ?_))
    rintro v σ ⟨rfl, rfl⟩
    refine And.intro (fun _ => .refl) ?_
    refine SLl.eff rfl rfl (SLo.call plain64 rfl (SLf.mono (SGrad64_ok W _ p p hX hX) ?_))
    rintro v σ ⟨rfl, rfl⟩
    rw [decide_eq_true (rfl : gkey p = gkey p)]
    refine And.intro (fun _ => .refl) ?_
    (repeat' (first | (first | refine SLl.nil ?_ | ((show SLl _ _ _ _ _ (⟨⟨_, _, _, _, _, _⟩, _, _⟩ :: _) _ _ _); refine SLl.ev rfl rfl rfl rfl ?_)) | (refine SLc.ret ?_)))
    (repeat' (fail))
    refine And.intro rfl (Exists.intro _ (Exists.intro _ (And.intro rfl (And.intro .drop rfl))))
end Go.Sl
