/- backstitchlaw11.awake. -/
import Derived.Test.YtloeicnadchkpaaLaw11
import Derived.Test.YtloeicnadchkpaaReach4
namespace Go.Sl
open Go.Proofs
attribute [local irreducible] SLc SLl SLo SLf Pu Rd

def nd (op : Int) (inv : Value) (ins : List Int) : Node := ⟨op, inv, ins, .slice none 0 0, 0, .slice none 0 0, .slice none 0 0, .slice none 0 0⟩
def ndCells (op : Int) (inv : Value) : List Value := [.int .i64 op, inv, .slice none 0 0, .int .i64 0, .slice none 0 0, .slice none 0 0, .slice none 0 0]
theorem rs_ints {W : World} {σ F : List Chunk} {v : Value} {l : List Int} (h : Sel (.row v 3 1 (ints l)) σ F) : Rs W σ v 1 (ints l) := Rs.row h (by simp [ints])

theorem Awake11 (W : World) (F : List Chunk) : SLf Try.prog W 27 [] F (fun v σ => v = .bool true ∧ σ = F) := by
  refine SLf.enter Try.func27 rfl (Nat.le_of_ble_eq_true rfl) ?_
  (repeat' (first | (first | refine SLl.nil ?_ | ((show SLl _ _ _ _ _ (⟨⟨_, _, _, _, _, _⟩, _, _⟩ :: _) _ _ _); first | refine SLl.ev rfl rfl rfl rfl ?_ | ((show SLl _ _ _ _ _ (⟨⟨_, .build _ _, _, _, _, _⟩, _, _⟩ :: _) _ _ _); refine SLl.rdSeq rfl rfl (Rd.build rfl (by (repeat (first | exact CellsW.nil | (apply CellsW.cons; (· (exact Cel.one (by (exact One.lit rfl)))))))) (by rfl)) ?_))) | (first | refine SLc.seq ?_ | refine SLc.region rfl ?_)))
  refine SLl.seq rfl rfl (SLo.buildSliceC (es := ints [0, 0]) (by decide) (by decide) rfl (by (repeat (first | exact CellsW.nil | (apply CellsW.cons; (· (exact Cel.one (by (exact One.lit rfl)))))))) (by simp [ints]) rfl (by rfl) ?_)
  intro iv hiv
  (repeat' ((((show SLl _ _ _ _ _ (⟨⟨_, _, _, _, _, _⟩, _, _⟩ :: _) _ _ _); ((show SLl _ _ _ _ _ (⟨⟨_, .build _ _, _, _, _, _⟩, _, _⟩ :: _) _ _ _); refine SLl.rdSeq rfl rfl (Rd.build rfl (by (repeat (first | exact CellsW.nil | (apply CellsW.cons; (· (exact Cel.one (by (first | exact One.lit rfl | exact One.len (by ((apply Len.row; (· (repeat (apply Sel.here)))))))))))))) (by rfl)) ?_)))))
  refine SLl.seq rfl rfl (SLo.buildSliceC (es := [ndCells 1 (.slice none 0 0), ndCells 4 iv]) (by decide) (by decide) rfl (by (repeat (first | exact CellsW.nil | (apply CellsW.cons; (· (exact Cel.agg)))))) (by simp [ndCells]) rfl (by rfl) ?_)
  intro sl hsl
  (repeat' (first | (first | refine SLl.nil ?_ | ((show SLl _ _ _ _ _ (⟨⟨_, _, _, _, _, _⟩, _, _⟩ :: _) _ _ _); first | ((show SLl _ _ _ _ _ (⟨⟨_, .load _ _, _, _, _, _⟩, _, _⟩ :: _) _ _ _); (refine SLl.rdSeq rfl rfl (Rd.loadN rfl rfl (by ((apply ReadsN.blk0; (· (repeat (apply Sel.here)))))) (by rfl)) ?_)) | ((show SLl _ _ _ _ _ (⟨⟨_, .store _ _ _, _, _, _, _⟩, _, _⟩ :: _) _ _ _); ((refine SLl.seq0 rfl (SLo.storeN rfl rfl rfl (by (repeat' (first | exact trivial | (apply And.intro; (· (exact One.len (by ((apply Len.row; (· (repeat (first | apply Sel.here | apply Sel.there)))))))))))) (Nat.le_of_ble_eq_true rfl) (by (repeat (apply Upd.here))) ?_)))) | ((show SLl _ _ _ _ _ (⟨⟨_, .alloc _, _, _, _, _⟩, _, _⟩ :: _) _ _ _); refine SLl.seq rfl rfl (SLo.alloc ?_); intro b) | ((show SLl _ _ _ _ _ (⟨⟨_, .build _ _, _, _, _, _⟩, _, _⟩ :: _) _ _ _); refine SLl.rdSeq rfl rfl (Rd.build rfl (by (repeat (first | exact CellsW.nil | (apply CellsW.cons; (· (exact Cel.one (by (exact One.len (by ((apply Len.row; (· (repeat (apply Sel.here)))))))))))))) (by rfl)) ?_))) | (first | refine SLc.seq ?_ | refine SLc.region rfl ?_)))
  have hG : ∀ σ, Ent σ (.row sl 47 7 [ndCells 1 (.slice none 0 0), ndCells 4 iv] :: .row iv 3 1 (ints [0, 0]) :: []) → GraphR W σ sl [nd 1 (.slice none 0 0) [], nd 4 iv [0, 0]] := by
    intro σ he
    refine ⟨(Rs.row .here (by simp [nd, Node.cells])).mono he, ?_, Nat.le_of_ble_eq_true rfl, ?_, ?_⟩
    · intro x hx
      simp only [List.mem_cons, List.not_mem_nil, or_false] at hx
      rcases hx with rfl | rfl
      · exact Rs.nil
      · exact (rs_ints (.there .here)).mono he
    · intro x hx
      simp only [List.mem_cons, List.not_mem_nil, or_false] at hx
      rcases hx with rfl | rfl <;> exact Nat.le_of_ble_eq_true rfl
    · intro x hx
      simp only [List.mem_cons, List.not_mem_nil, or_false] at hx
      rcases hx with rfl | rfl
      · exact ⟨One.lit rfl, One.lit rfl, One.lit rfl, One.lit rfl, One.lit rfl⟩
      · exact ⟨(One.len (Len.row (.there .here))).mono he, One.lit rfl, One.lit rfl, One.lit rfl, One.lit rfl⟩
  have hm : mayF [nd 1 (.slice none 0 0) [], nd 4 iv [0, 0]] ((1 : Nat) : Int) = true := rfl
  have hU : usersL [nd 1 (.slice none 0 0) [], nd 4 iv [0, 0]] 1 = [[(1, 0), (1, 1)], []] := rfl
  refine SLl.seq rfl rfl (SLo.call plain30 rfl (SLf.mono (Users_yes W _ sl _ 1 (hG _ (by (repeat' (first | (refine Ent.cons (by (repeat (first | apply Sel.here | apply Sel.there))) ?_) | exact Ent.drop)))) hm (Nat.le_of_ble_eq_true rfl) (Nat.le_of_ble_eq_true rfl)) ?_))
  rintro uv σ ⟨huv, ps, hps, rfl⟩
  rw [hU] at hps
  rcases ps with _ | ⟨⟨v0, u0⟩, _ | ⟨⟨v1, u1⟩, _ | _⟩⟩ <;> simp at hps
  obtain ⟨rfl, rfl⟩ := hps
  simp only [List.map_cons, List.map_nil, List.cons_append, List.nil_append, urow, uvals]
  (repeat' (first | (first | refine SLl.nil ?_ | ((show SLl _ _ _ _ _ (⟨⟨_, _, _, _, _, _⟩, _, _⟩ :: _) _ _ _); first | refine SLl.ev rfl rfl rfl rfl ?_ | ((show SLl _ _ _ _ _ (⟨⟨_, .load _ _, _, _, _, _⟩, _, _⟩ :: _) _ _ _); (refine SLl.rdSeq rfl rfl (Rd.loadN rfl rfl (by ((apply ReadsN.blk0; (· (repeat (first | apply Sel.here | apply Sel.there)))))) (by rfl)) ?_)))) | (first | refine SLc.seq ?_ | refine SLc.region rfl ?_)))
  refine SLl.seq rfl rfl (SLo.call plain31 rfl (SLf.mono (Counts_yes W _ sl _ 1 (hG _ (by (repeat' (first | (refine Ent.cons (by (repeat (first | apply Sel.here | apply Sel.there))) ?_) | exact Ent.drop)))) hm (Nat.le_of_ble_eq_true rfl) (Nat.le_of_ble_eq_true rfl)) ?_))
  rintro cv σ rfl
  rw [hU]
  have hl1 : ([[v0], [v1]] : List (List Value)).length = 2 := rfl
  have hl2 : (usesV [((1 : Int), (0 : Int)), (1, 1)]).length = 2 := rfl
  have hl3 : (ints (List.map (fun (u : Uses) => (u.length : Int)) [[(1, 0), (1, 1)], []])).length = 2 := rfl
  have hl4 : ([((1 : Int), (0 : Int)), (1, 1)] : Uses).length = 2 := rfl
  (repeat' (first | (first | refine SLl.nil ?_ | ((show SLl _ _ _ _ _ (⟨⟨_, _, _, _, _, _⟩, _, _⟩ :: _) _ _ _); first | refine SLl.ev rfl rfl rfl rfl ?_ | ((show SLl _ _ _ _ _ (⟨⟨_, .load _ _, _, _, _, _⟩, _, _⟩ :: _) _ _ _); (first | refine SLl.rdSeq rfl rfl (Rd.load rfl rfl (by ((apply Reads.row; (· (repeat (first | apply Sel.here | apply Sel.there))); (· (rfl)); (· rfl))))) ?_ | refine SLl.rdSeq rfl rfl (Rd.loadN rfl rfl (by ((apply ReadsN.row0; (· (repeat (first | apply Sel.here | apply Sel.there))); (· (rfl))))) (by rfl)) ?_)) | ((show SLl _ _ _ _ _ (⟨⟨_, .indexAddr _ _ _, _, _, _, _⟩, _, _⟩ :: _) _ _ _); (refine SLl.rdSeq rfl rfl (Rd.indexAddr rfl rfl (by ((apply Len.row; (· (repeat (first | apply Sel.here | apply Sel.there)))))) (by (first | exact ij0 | exact ij1)) (by omega)) ?_)) | ((show SLl _ _ _ _ _ (⟨⟨_, .call ⟨.builtin .len, _, _⟩, _, _, _, _⟩, _, _⟩ :: _) _ _ _); refine SLl.rdSeq rfl rfl (Rd.len rfl (by ((apply Len.row; (· (repeat (first | apply Sel.here | apply Sel.there))))))) ?_) | ((show SLl _ _ _ _ _ (⟨⟨_, .binOp _ _ _ _ _, _, _, _, _⟩, _, _⟩ :: _) _ _ _); ((refine SLl.cmp rfl rfl rfl rfl rfl rfl ?_ ?_ <;> intro hq <;> simp only [cmpP] at hq <;> try ((exfalso; omega))))) | ((show SLl _ _ _ _ _ (⟨⟨_, .build _ _, _, _, _, _⟩, _, _⟩ :: _) _ _ _); refine SLl.rdSeq rfl rfl (Rd.build rfl (by (repeat (first | exact CellsW.nil | (apply CellsW.cons; (· (exact Cel.one (by (exact One.lit rfl)))))))) (by rfl)) ?_))) | (first | refine SLc.seq ?_ | refine SLc.region rfl ?_)))
  refine SLl.pu rfl rfl rfl (Pu.useEq rfl rfl) ?_
  (repeat' ((((show SLl _ _ _ _ _ (⟨⟨_, _, _, _, _, _⟩, _, _⟩ :: _) _ _ _); first | refine SLl.ev rfl rfl rfl rfl ?_ | ((show SLl _ _ _ _ _ (⟨⟨_, .load _ _, _, _, _, _⟩, _, _⟩ :: _) _ _ _); (first | refine SLl.rdSeq rfl rfl (Rd.load rfl rfl (by (first | (apply Reads.blk; (· (repeat (first | apply Sel.here | apply Sel.there))); (· rfl)) | (apply Reads.row; (· (repeat (apply Sel.here))); (· (rfl)); (· rfl))))) ?_ | refine SLl.rdSeq rfl rfl (Rd.loadN rfl rfl (by ((apply ReadsN.blk0; (· (repeat (first | apply Sel.here | apply Sel.there)))))) (by rfl)) ?_)) | ((show SLl _ _ _ _ _ (⟨⟨_, .indexAddr _ _ _, _, _, _, _⟩, _, _⟩ :: _) _ _ _); (refine SLl.rdSeq rfl rfl (Rd.indexAddr rfl rfl (by ((apply Len.row; (· (repeat (apply Sel.here)))))) (by (exact ij0)) (by omega)) ?_)) | ((show SLl _ _ _ _ _ (⟨⟨_, .call ⟨.builtin .len, _, _⟩, _, _, _, _⟩, _, _⟩ :: _) _ _ _); refine SLl.rdSeq rfl rfl (Rd.len rfl (by ((apply Len.row; (· (repeat (apply Sel.here))))))) ?_) | ((show SLl _ _ _ _ _ (⟨⟨_, .binOp _ _ _ _ _, _, _, _, _⟩, _, _⟩ :: _) _ _ _); ((refine SLl.cmp rfl rfl rfl rfl rfl rfl ?_ ?_ <;> intro hq <;> simp only [cmpP] at hq <;> try ((exfalso; omega)))))))))
  refine SLl.seq rfl rfl (SLo.call plain29 rfl (SLf.mono (From_yes W _ sl _ 1 (hG _ (by (repeat' (first | (refine Ent.cons (by (repeat (first | apply Sel.here | apply Sel.there))) ?_) | exact Ent.drop)))) hm (Nat.le_of_ble_eq_true rfl)) ?_))
  rintro fv σ ⟨hfv, rfl⟩
  have hl5 : (bools (fromL [nd 1 (.slice none 0 0) [], nd 4 iv [0, 0]] 1)).length = 2 := rfl
  (repeat' (first | (first | refine SLl.nil ?_ | ((show SLl _ _ _ _ _ (⟨⟨_, _, _, _, _, _⟩, _, _⟩ :: _) _ _ _); first | refine SLl.ev rfl rfl rfl rfl ?_ | ((show SLl _ _ _ _ _ (⟨⟨_, .call ⟨.builtin .len, _, _⟩, _, _, _, _⟩, _, _⟩ :: _) _ _ _); refine SLl.rdSeq rfl rfl (Rd.len rfl (by ((apply Len.row; (· (repeat (apply Sel.here))))))) ?_) | ((show SLl _ _ _ _ _ (⟨⟨_, .binOp _ _ _ _ _, _, _, _, _⟩, _, _⟩ :: _) _ _ _); ((refine SLl.cmp rfl rfl rfl rfl rfl rfl ?_ ?_ <;> intro hq <;> simp only [cmpP] at hq <;> try ((exfalso; omega))))))) | (refine SLc.ret ?_)))
  (refine And.intro rfl (Exists.intro _ (Exists.intro _ (And.intro rfl (And.intro ?_ (And.intro ?_ rfl))))); (· (repeat' (first | exact Ent.refl | apply Ent.skip))); (try rfl))
end Go.Sl
