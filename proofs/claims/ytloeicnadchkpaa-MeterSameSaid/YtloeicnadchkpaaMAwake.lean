/- backstitchlaw25.awake. -/
import Derived.Test.YtloeicnadchkpaaMOf2
import Derived.Test.YtloeicnadchkpaaMSame
import Derived.Test.YtloeicnadchkpaaLaw11b
namespace Go.Sl
open Go.Proofs
attribute [local irreducible] SLc SLl SLo SLf Pu Rd

set_option maxHeartbeats 1000000 in
theorem Awake25 (W : World) (F : List Chunk) : SLf Try.prog W 61 [] F (fun v σ => v = .bool true ∧ σ = F) := by
  refine SLf.enter Try.func61 rfl (Nat.le_of_ble_eq_true rfl) ?_
  (repeat' (first | (first | refine SLl.nil ?_ | ((show SLl _ _ _ _ _ (⟨⟨_, _, _, _, _, _⟩, _, _⟩ :: _) _ _ _); first | refine SLl.ev rfl rfl rfl rfl ?_ | ((show SLl _ _ _ _ _ (⟨⟨_, .build _ _, _, _, _, _⟩, _, _⟩ :: _) _ _ _); refine SLl.rdSeq rfl rfl (Rd.build rfl (by (repeat (first | exact CellsW.nil | (apply CellsW.cons; (· (exact Cel.one (by (exact One.lit rfl)))))))) (by rfl)) ?_))) | (first | refine SLc.seq ?_ | refine SLc.region rfl ?_)))
  refine SLl.seq rfl rfl (SLo.buildSliceE [ndCells 1 (.slice none 0 0)] (by decide) (by decide) rfl (by (repeat (first | exact CellsW.nil | (apply CellsW.cons; (· (exact Cel.agg)))))) (by simp [ndCells]) rfl (by rfl) ?_)
  intro sl hsl
  (repeat' ((((show SLl _ _ _ _ _ (⟨⟨_, _, _, _, _, _⟩, _, _⟩ :: _) _ _ _); ((show SLl _ _ _ _ _ (⟨⟨_, .build _ _, _, _, _, _⟩, _, _⟩ :: _) _ _ _); refine SLl.rdSeq rfl rfl (Rd.build rfl (by (repeat (first | exact CellsW.nil | (apply CellsW.cons; (· (exact Cel.one (by (exact One.len (by ((apply Len.row; (· (repeat (apply Sel.here)))))))))))))) (by rfl)) ?_)))))
  refine SLl.seq rfl rfl (SLo.buildSliceE [[sl]] (by decide) (by decide) rfl (by (repeat (first | exact CellsW.nil | (apply CellsW.cons; (· (exact Cel.agg)))))) (by simp) rfl (by rfl) ?_)
  intro gv hgv
  have hG : ∀ σ, Ent σ (.row sl 47 7 [ndCells 1 (.slice none 0 0)] :: []) → GraphR W σ sl [nd 1 (.slice none 0 0) []] := by
    intro σ he
    refine ⟨(Rs.row .here (by simp [nd, Node.cells])).mono he, ?_, Nat.le_of_ble_eq_true rfl, ?_, ?_⟩
    · intro x hx
      rw [List.mem_singleton] at hx
      subst hx
      exact Rs.nil
    · intro x hx
      rw [List.mem_singleton] at hx
      subst hx
      exact Nat.le_of_ble_eq_true rfl
    · intro x hx
      rw [List.mem_singleton] at hx
      subst hx
      exact ⟨One.lit rfl, One.lit rfl, One.lit rfl, One.lit rfl, One.lit rfl⟩
  have hm : mayF [nd 1 (.slice none 0 0) []] ((0 : Nat) : Int) = true := rfl
  refine SLl.seq rfl rfl (SLo.call plain62 rfl (SLf.mono (Of_ok W _ gv [(sl, [nd 1 (.slice none 0 0) []])] 0 0 sl _ (Rs.row .here (by simp [gcells])) rfl (hG _ (by (repeat' (first | (refine Ent.cons (by (repeat (first | apply Sel.here | apply Sel.there))) ?_) | exact Ent.drop)))) hm (Nat.le_of_ble_eq_true rfl) (Nat.le_of_ble_eq_true rfl)) ?_))
  rintro v σ ⟨ov, hov, rfl, rfl⟩
  have hM : meterV [nd 1 (.slice none 0 0) []] (fromL [nd 1 (.slice none 0 0) []] 0) 0 ov = [.int .i64 1, .int .i64 0, .int .i64 1, .int .i64 1, .int .i64 1, ov] := rfl
  rw [hM]
  (repeat' (first | (first | refine SLl.nil ?_ | ((show SLl _ _ _ _ _ (⟨⟨_, _, _, _, _, _⟩, _, _⟩ :: _) _ _ _); first | refine SLl.ev rfl rfl rfl rfl ?_ | ((show SLl _ _ _ _ _ (⟨⟨_, .load _ _, _, _, _, _⟩, _, _⟩ :: _) _ _ _); (refine SLl.rdSeq rfl rfl (Rd.load rfl rfl (by ((apply Reads.blk; (· (repeat (apply Sel.here))); (· rfl))))) ?_)) | ((show SLl _ _ _ _ _ (⟨⟨_, .fieldAddr _ _ _, _, _, _, _⟩, _, _⟩ :: _) _ _ _); (refine SLl.pu rfl rfl rfl (Pu.fieldAddr rfl) ?_)) | ((show SLl _ _ _ _ _ (⟨⟨_, .binOp _ _ _ _ _, _, _, _, _⟩, _, _⟩ :: _) _ _ _); ((refine SLl.cmp rfl rfl rfl rfl rfl rfl ?_ ?_ <;> intro hq <;> simp only [cmpP] at hq <;> try (exact (hq trivial).elim)))) | ((show SLl _ _ _ _ _ (⟨⟨_, .store _ _ _, _, _, _, _⟩, _, _⟩ :: _) _ _ _); ((refine SLl.seq0 rfl (SLo.storeN rfl rfl rfl (by (repeat' (first | exact trivial | (apply And.intro; (· (first | exact One.lit rfl | exact One.len (by ((apply Len.row; (· (repeat (first | apply Sel.here | apply Sel.there)))))))))))) (Nat.le_of_ble_eq_true rfl) (by (repeat (apply Upd.here))) ?_)))) | ((show SLl _ _ _ _ _ (⟨⟨_, .alloc _, _, _, _, _⟩, _, _⟩ :: _) _ _ _); refine SLl.seq rfl rfl (SLo.alloc ?_); intro b) | ((show SLl _ _ _ _ _ (⟨⟨_, .build _ _, _, _, _, _⟩, _, _⟩ :: _) _ _ _); refine SLl.rdSeq rfl rfl (Rd.build rfl (by (repeat (exact CellsW.nil))) (by rfl)) ?_))) | (first | refine SLc.seq ?_ | refine SLc.region rfl ?_)))
  refine SLl.seq rfl rfl (SLo.call plain63 rfl (SLf.mono (Same_zero W _) ?_))
  rintro v σ ⟨rfl, rfl⟩
  (repeat' (first | (first | refine SLl.nil ?_ | ((show SLl _ _ _ _ _ (⟨⟨_, _, _, _, _, _⟩, _, _⟩ :: _) _ _ _); refine SLl.ev rfl rfl rfl rfl ?_)) | (refine SLc.ret ?_)))
  (refine And.intro rfl (Exists.intro _ (Exists.intro _ (And.intro rfl (And.intro ?_ (And.intro ?_ rfl))))); (· (repeat' (first | exact Ent.refl | apply Ent.skip))); (try rfl))
end Go.Sl
