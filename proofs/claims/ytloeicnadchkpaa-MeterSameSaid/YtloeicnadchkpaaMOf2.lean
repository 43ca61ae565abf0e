/- meter.Of: the contracts. -/
import Derived.Test.YtloeicnadchkpaaMEach
import Derived.Test.YtloeicnadchkpaaSL15
import Derived.Test.YtloeicnadchkpaaSmall
namespace Go.Sl
open Go.Proofs
attribute [local irreducible] SLc SLl SLo SLf Pu Rd

def zeroM : List Value := [.int .i64 0, .int .i64 0, .int .i64 0, .int .i64 0, .int .i64 0, .slice none 0 0]
theorem Of_low1 (W : World) (F : List Chunk) (gv : Value) (Gs : List Gph) (which root : Int) (hl : Rs W F gv 1 (gcells Gs)) (hw : which < 0 ∨ (Gs.length : Int) ≤ which) :
    SLf Try.prog W 62 [gv, .int .i64 which, .int .i64 root] F (fun v σ => v = .tuple #[.agg zeroM.toArray, .int .i64 6] ∧ σ = F) := by
  have hgl := @gcells_len Gs
  refine SLf.enterC Try.func62 rfl (Nat.le_of_ble_eq_true rfl) ?_
  (repeat' (first | (first | refine SLl.nil ?_ | ((show SLl _ _ _ _ _ (⟨⟨_, _, _, _, _, _⟩, _, _⟩ :: _) _ _ _); first | refine SLl.ev rfl rfl rfl rfl ?_ | ((show SLl _ _ _ _ _ (⟨⟨_, .call ⟨.builtin .len, _, _⟩, _, _, _, _⟩, _, _⟩ :: _) _ _ _); refine SLl.rdSeq rfl rfl (Rd.len rfl (by ((apply Len.rs; exact Rs.mono (by assumption) (by (repeat' (first | exact Ent.refl | apply Ent.skip))))))) ?_) | ((show SLl _ _ _ _ _ (⟨⟨_, .binOp _ _ _ _ _, _, _, _, _⟩, _, _⟩ :: _) _ _ _); ((refine SLl.cmp rfl rfl rfl rfl rfl rfl ?_ ?_ <;> intro hq <;> simp only [cmpP] at hq <;> try ((exfalso; omega))))) | ((show SLl _ _ _ _ _ (⟨⟨_, .store _ _ _, _, _, _, _⟩, _, _⟩ :: _) _ _ _); ((refine SLl.seq0 rfl (SLo.storeN rfl rfl rfl (by (repeat' (first | exact trivial | (apply And.intro; (· (exact One.lit rfl)))))) (Nat.le_of_ble_eq_true rfl) (by (repeat (apply Upd.here))) ?_)))) | ((show SLl _ _ _ _ _ (⟨⟨_, .alloc _, _, _, _, _⟩, _, _⟩ :: _) _ _ _); refine SLl.seq rfl rfl (SLo.alloc ?_); intro b) | ((show SLl _ _ _ _ _ (⟨⟨_, .build _ _, _, _, _, _⟩, _, _⟩ :: _) _ _ _); refine SLl.rdSeq rfl rfl (Rd.build rfl (by (repeat (exact CellsW.nil))) (by rfl)) ?_) | refine SLl.skip rfl rfl ?_)) | (first | refine SLc.seq ?_ | refine SLc.region rfl ?_ | refine SLc.condT rfl ?_ | refine SLc.block ?_ | refine SLc.ret ?_)))
  all_goals
    refine And.intro rfl (Exists.intro _ (Exists.intro F (And.intro (ResW.cell ty86 rfl rfl (ReadsN.blk0 .here) rfl (ResW.tmp rfl ResW.nil)) (And.intro (.skip .refl) (And.intro rfl rfl)))))
theorem Of_low2 (W : World) (F : List Chunk) (gv : Value) (Gs : List Gph) (which : Nat) (root : Int) (sl : Value) (G : List Node) (hl : Rs W F gv 1 (gcells Gs)) (hi : Gs[which]? = some (sl, G)) (hg : GraphR W F sl G) (hw : root < 0 ∨ (G.length : Int) ≤ root) :
    SLf Try.prog W 62 [gv, .int .i64 which, .int .i64 root] F (fun v σ => v = .tuple #[.agg zeroM.toArray, .int .i64 1] ∧ σ = F) := by
  have hgl := @gcells_len Gs
  have hwl := (List.getElem?_eq_some_iff.1 hi).1
  have hgi := gcells_at hi
  dsimp only at hgi
  have hrs := hg.rs
  have hlen : (G.map Node.cells).length = G.length := by simp
  refine SLf.enterC Try.func62 rfl (Nat.le_of_ble_eq_true rfl) ?_
  (repeat' (first | (first | refine SLl.nil ?_ | ((show SLl _ _ _ _ _ (⟨⟨_, _, _, _, _, _⟩, _, _⟩ :: _) _ _ _); first | refine SLl.ev rfl rfl rfl rfl ?_ | ((show SLl _ _ _ _ _ (⟨⟨_, .load _ _, _, _, _, _⟩, _, _⟩ :: _) _ _ _); (refine SLl.rdSeq rfl rfl (Rd.load rfl rfl (by ((apply Reads.rs; (· exact Rs.mono (by assumption) (by (repeat' (first | exact Ent.refl | apply Ent.skip)))); (· (assumption)); (· rfl))))) ?_)) | ((show SLl _ _ _ _ _ (⟨⟨_, .fieldAddr _ _ _, _, _, _, _⟩, _, _⟩ :: _) _ _ _); (refine SLl.rdSeq rfl rfl (Rd.fieldAddrEl rfl (by (first | exact Len.nil | (apply Len.rs; exact Rs.mono (by assumption) (by (repeat' (first | exact Ent.refl | apply Ent.skip)))))) (by omega)) ?_)) | ((show SLl _ _ _ _ _ (⟨⟨_, .indexAddr _ _ _, _, _, _, _⟩, _, _⟩ :: _) _ _ _); (refine SLl.rdSeq rfl rfl (Rd.indexAddr rfl rfl (by ((apply Len.rs; exact Rs.mono (by assumption) (by (repeat' (first | exact Ent.refl | apply Ent.skip)))))) (by (rfl)) (by omega)) ?_)) | ((show SLl _ _ _ _ _ (⟨⟨_, .call ⟨.builtin .len, _, _⟩, _, _, _, _⟩, _, _⟩ :: _) _ _ _); refine SLl.rdSeq rfl rfl (Rd.len rfl (by ((apply Len.rs; exact Rs.mono (by assumption) (by (repeat' (first | exact Ent.refl | apply Ent.skip))))))) ?_) | ((show SLl _ _ _ _ _ (⟨⟨_, .binOp _ _ _ _ _, _, _, _, _⟩, _, _⟩ :: _) _ _ _); ((refine SLl.cmp rfl rfl rfl rfl rfl rfl ?_ ?_ <;> intro hq <;> simp only [cmpP] at hq <;> try ((exfalso; omega))))) | ((show SLl _ _ _ _ _ (⟨⟨_, .store _ _ _, _, _, _, _⟩, _, _⟩ :: _) _ _ _); ((refine SLl.seq0 rfl (SLo.storeN rfl rfl rfl (by (repeat' (first | exact trivial | (apply And.intro; (· (exact One.lit rfl)))))) (Nat.le_of_ble_eq_true rfl) (by (repeat (apply Upd.here))) ?_)))) | ((show SLl _ _ _ _ _ (⟨⟨_, .alloc _, _, _, _, _⟩, _, _⟩ :: _) _ _ _); refine SLl.seq rfl rfl (SLo.alloc ?_); intro b) | ((show SLl _ _ _ _ _ (⟨⟨_, .build _ _, _, _, _, _⟩, _, _⟩ :: _) _ _ _); refine SLl.rdSeq rfl rfl (Rd.build rfl (by (repeat (exact CellsW.nil))) (by rfl)) ?_) | refine SLl.skip rfl rfl ?_)) | (first | refine SLc.seq ?_ | refine SLc.region rfl ?_ | refine SLc.condT rfl ?_ | refine SLc.condF rfl ?_ | refine SLc.block ?_ | refine SLc.ret ?_)))
  all_goals
    refine And.intro rfl (Exists.intro _ (Exists.intro F (And.intro (ResW.cell ty86 rfl rfl (ReadsN.blk0 .here) rfl (ResW.tmp rfl ResW.nil)) (And.intro (.skip .refl) (And.intro rfl rfl)))))
theorem Of_low3 (W : World) (F : List Chunk) (gv : Value) (Gs : List Gph) (which : Nat) (root : Int) (sl : Value) (G : List Node) (hl : Rs W F gv 1 (gcells Gs)) (hi : Gs[which]? = some (sl, G)) (hg : GraphR W F sl G) (hw : 0 ≤ root ∧ root < (G.length : Int)) (hm : mayF G root = false) :
    SLf Try.prog W 62 [gv, .int .i64 which, .int .i64 root] F (fun v σ => v = .tuple #[.agg zeroM.toArray, .int .i64 5] ∧ σ = F) := by
  have hgl := @gcells_len Gs
  have hwl := (List.getElem?_eq_some_iff.1 hi).1
  have hgi := gcells_at hi
  dsimp only at hgi
  have hrs := hg.rs
  have hlen : (G.map Node.cells).length = G.length := by simp
  refine SLf.enterC Try.func62 rfl (Nat.le_of_ble_eq_true rfl) ?_
  (repeat' (first | (first | refine SLl.nil ?_ | ((show SLl _ _ _ _ _ (⟨⟨_, _, _, _, _, _⟩, _, _⟩ :: _) _ _ _); first | refine SLl.ev rfl rfl rfl rfl ?_ | ((show SLl _ _ _ _ _ (⟨⟨_, .load _ _, _, _, _, _⟩, _, _⟩ :: _) _ _ _); (first | refine SLl.rdSeq rfl rfl (Rd.load rfl rfl (by ((apply Reads.rs; (· exact Rs.mono (by assumption) (by (repeat' (first | exact Ent.refl | apply Ent.skip)))); (· (assumption)); (· rfl))))) ?_ | refine SLl.rdSeq rfl rfl (Rd.loadN rfl rfl (by ((apply ReadsN.rs0; (· exact Rs.mono (by assumption) (by (repeat' (first | exact Ent.refl | apply Ent.skip)))); (· (assumption))))) (by rfl)) ?_)) | ((show SLl _ _ _ _ _ (⟨⟨_, .fieldAddr _ _ _, _, _, _, _⟩, _, _⟩ :: _) _ _ _); (refine SLl.rdSeq rfl rfl (Rd.fieldAddrEl rfl (by ((apply Len.rs; exact Rs.mono (by assumption) (by (repeat' (first | exact Ent.refl | apply Ent.skip)))))) (by omega)) ?_)) | ((show SLl _ _ _ _ _ (⟨⟨_, .indexAddr _ _ _, _, _, _, _⟩, _, _⟩ :: _) _ _ _); (refine SLl.rdSeq rfl rfl (Rd.indexAddr rfl rfl (by ((apply Len.rs; exact Rs.mono (by assumption) (by (repeat' (first | exact Ent.refl | apply Ent.skip)))))) (by (rfl)) (by omega)) ?_)) | ((show SLl _ _ _ _ _ (⟨⟨_, .call ⟨.builtin .len, _, _⟩, _, _, _, _⟩, _, _⟩ :: _) _ _ _); refine SLl.rdSeq rfl rfl (Rd.len rfl (by ((apply Len.rs; exact Rs.mono (by assumption) (by (repeat' (first | exact Ent.refl | apply Ent.skip))))))) ?_) | ((show SLl _ _ _ _ _ (⟨⟨_, .binOp _ _ _ _ _, _, _, _, _⟩, _, _⟩ :: _) _ _ _); ((refine SLl.cmp rfl rfl rfl rfl rfl rfl ?_ ?_ <;> intro hq <;> simp only [cmpP] at hq <;> try ((exfalso; omega))))) | ((show SLl _ _ _ _ _ (⟨⟨_, .alloc _, _, _, _, _⟩, _, _⟩ :: _) _ _ _); refine SLl.seq rfl rfl (SLo.alloc ?_); intro b))) | (first | refine SLc.seq ?_ | refine SLc.region rfl ?_ | refine SLc.condF rfl ?_ | refine SLc.block ?_ | refine SLc.skip ?_)))
  refine SLl.seq rfl rfl (SLo.call plain29 rfl (SLf.mono (From_no W _ sl G root (hg.mono (by (repeat' (first | exact Ent.refl | apply Ent.skip)))) hm) ?_))
  rintro v σ ⟨rfl, rfl⟩
  (repeat' (first | (first | refine SLl.nil ?_ | ((show SLl _ _ _ _ _ (⟨⟨_, _, _, _, _, _⟩, _, _⟩ :: _) _ _ _); first | refine SLl.ev rfl rfl rfl rfl ?_ | ((show SLl _ _ _ _ _ (⟨⟨_, .binOp _ _ _ _ _, _, _, _, _⟩, _, _⟩ :: _) _ _ _); (refine SLl.pu rfl rfl rfl (Pu.eqNilT rfl rfl) ?_)) | ((show SLl _ _ _ _ _ (⟨⟨_, .store _ _ _, _, _, _, _⟩, _, _⟩ :: _) _ _ _); ((refine SLl.seq0 rfl (SLo.storeN rfl rfl rfl (by (repeat' (first | exact trivial | (apply And.intro; (· (exact One.lit rfl)))))) (Nat.le_of_ble_eq_true rfl) (by (repeat (apply Upd.here))) ?_)))) | ((show SLl _ _ _ _ _ (⟨⟨_, .build _ _, _, _, _, _⟩, _, _⟩ :: _) _ _ _); refine SLl.rdSeq rfl rfl (Rd.build rfl (by (repeat (exact CellsW.nil))) (by rfl)) ?_))) | (first | refine SLc.seq ?_ | refine SLc.region rfl ?_ | refine SLc.condT rfl ?_ | refine SLc.ret ?_)))
  refine And.intro rfl (Exists.intro _ (Exists.intro F (And.intro (ResW.cell ty86 rfl rfl (ReadsN.blk0 .here) rfl (ResW.tmp rfl ResW.nil)) (And.intro (.skip .refl) (And.intro rfl rfl)))))
def meterV (G : List Node) (R : List Bool) (root : Nat) (ov : Value) : List Value :=
  [.int .i64 (G.length : Nat), .int .i64 (edgesL G G.length : Nat), .int .i64 (cnR R G.length : Nat), .int .i64 (depthL G R root), .int .i64 (hcR G R 1 G.length : Nat), ov]
theorem boolsO {l : List Bool} : ∀ c ∈ bools l, c.length = 1 := fun c hc => by obtain ⟨x, _, rfl⟩ := List.mem_map.1 hc; rfl
set_option maxHeartbeats 4000000 in
set_option maxRecDepth 4000 in
theorem Of_ok (W : World) (F : List Chunk) (gv : Value) (Gs : List Gph) (which root : Nat) (sl : Value) (G : List Node) (hl : Rs W F gv 1 (gcells Gs)) (hi : Gs[which]? = some (sl, G)) (hg : GraphR W F sl G) (hm : mayF G root = true) (hb : G.length ≤ 1000000) (he : edgesL G G.length ≤ 1000000) :
    SLf Try.prog W 62 [gv, .int .i64 which, .int .i64 root] F (fun v σ => ∃ ov, ov ≠ .slice none 0 0 ∧ v = .tuple #[.agg (meterV G (fromL G root) root ov).toArray, .int .i64 0] ∧ σ = .row ov 3 1 (ints (histL fun k => (hcR G (fromL G root) k G.length : Nat))) :: F) := by
  obtain ⟨h0, h1, hin⟩ := mayF_spec hm
  have hgl := @gcells_len Gs
  have hwl := (List.getElem?_eq_some_iff.1 hi).1
  have hgi := gcells_at hi
  dsimp only at hgi
  have hrs := hg.rs
  have hlen : (G.map Node.cells).length = G.length := by simp
  refine SLf.enterC Try.func62 rfl (Nat.le_of_ble_eq_true rfl) ?_
  (repeat' (first | (first | refine SLl.nil ?_ | ((show SLl _ _ _ _ _ (⟨⟨_, _, _, _, _, _⟩, _, _⟩ :: _) _ _ _); first | refine SLl.ev rfl rfl rfl rfl ?_ | ((show SLl _ _ _ _ _ (⟨⟨_, .load _ _, _, _, _, _⟩, _, _⟩ :: _) _ _ _); (first | refine SLl.rdSeq rfl rfl (Rd.load rfl rfl (by ((apply Reads.rs; (· exact Rs.mono (by assumption) (by (repeat' (first | exact Ent.refl | apply Ent.skip)))); (· (assumption)); (· rfl))))) ?_ | refine SLl.rdSeq rfl rfl (Rd.loadN rfl rfl (by ((apply ReadsN.rs0; (· exact Rs.mono (by assumption) (by (repeat' (first | exact Ent.refl | apply Ent.skip)))); (· (assumption))))) (by rfl)) ?_)) | ((show SLl _ _ _ _ _ (⟨⟨_, .fieldAddr _ _ _, _, _, _, _⟩, _, _⟩ :: _) _ _ _); (refine SLl.rdSeq rfl rfl (Rd.fieldAddrEl rfl (by ((apply Len.rs; exact Rs.mono (by assumption) (by (repeat' (first | exact Ent.refl | apply Ent.skip)))))) (by omega)) ?_)) | ((show SLl _ _ _ _ _ (⟨⟨_, .indexAddr _ _ _, _, _, _, _⟩, _, _⟩ :: _) _ _ _); (refine SLl.rdSeq rfl rfl (Rd.indexAddr rfl rfl (by ((apply Len.rs; exact Rs.mono (by assumption) (by (repeat' (first | exact Ent.refl | apply Ent.skip)))))) (by (rfl)) (by omega)) ?_)) | ((show SLl _ _ _ _ _ (⟨⟨_, .call ⟨.builtin .len, _, _⟩, _, _, _, _⟩, _, _⟩ :: _) _ _ _); refine SLl.rdSeq rfl rfl (Rd.len rfl (by ((apply Len.rs; exact Rs.mono (by assumption) (by (repeat' (first | exact Ent.refl | apply Ent.skip))))))) ?_) | ((show SLl _ _ _ _ _ (⟨⟨_, .binOp _ _ _ _ _, _, _, _, _⟩, _, _⟩ :: _) _ _ _); ((refine SLl.cmp rfl rfl rfl rfl rfl rfl ?_ ?_ <;> intro hq <;> simp only [cmpP] at hq <;> try ((exfalso; omega))))) | ((show SLl _ _ _ _ _ (⟨⟨_, .alloc _, _, _, _, _⟩, _, _⟩ :: _) _ _ _); refine SLl.seq rfl rfl (SLo.alloc ?_); intro b))) | (first | refine SLc.seq ?_ | refine SLc.region rfl ?_ | refine SLc.condF rfl ?_ | refine SLc.block ?_ | refine SLc.skip ?_)))
  refine SLl.seq rfl rfl (SLo.call plain29 rfl (SLf.mono (From_yes W _ sl G root (hg.mono (by (repeat' (first | exact Ent.refl | apply Ent.skip)))) hm (by omega)) ?_))
  rintro rv σ ⟨hrv, rfl⟩
  have hfl := @fromL_len G root
  generalize fromL G root = R at hfl
  have hRl := @bools_len R
  (repeat' (first | (first | refine SLl.nil ?_ | ((show SLl _ _ _ _ _ (⟨⟨_, _, _, _, _, _⟩, _, _⟩ :: _) _ _ _); first | refine SLl.ev rfl rfl rfl rfl ?_ | ((show SLl _ _ _ _ _ (⟨⟨_, .binOp _ _ _ _ _, _, _, _, _⟩, _, _⟩ :: _) _ _ _); (refine SLl.rdSeq rfl rfl (Rd.eqNilF rfl rfl (by ((apply Len.row; (· (repeat (apply Sel.here)))))) (by assumption)) ?_)))) | (first | refine SLc.seq ?_ | refine SLc.region rfl ?_ | refine SLc.condF rfl ?_ | refine SLc.skip ?_)))
  have hgF : GraphR W (.row rv 4 1 (bools R) :: .blk b 86 zeroM :: F) sl G := hg.mono (by (repeat' (first | exact Ent.refl | apply Ent.skip)))
  have hrF : Rs W (.row rv 4 1 (bools R) :: .blk b 86 zeroM :: F) rv 1 (bools R) := Rs.row .here boolsO
  refine SLc.mid (fun e ds σ' => ds = [] ∧ ∃ ov b9, ov ≠ .slice none 0 0 ∧ Sub [(9, .pointer (some ⟨b9, 0, none⟩)), (8, rv), (6, .pointer (some ⟨b, 0, none⟩)), (2, .int .i64 root), (1, .int .i64 which), (0, gv)] e ∧
    Ent σ' (.blk b9 86 [.int .i64 ((G.map Node.cells).length : Nat), .int .i64 (edgesL G G.length : Nat), .int .i64 0, .int .i64 (depthL G R root), .int .i64 0, ov] :: .row ov 3 1 (List.replicate 17 [.int .i64 0]) :: .row rv 4 1 (bools R) :: .blk b 86 zeroM :: F)) ?_ ?_
  · refine SLc.drawsR (.row rv 4 1 (bools R) :: .blk b 86 zeroM :: F) [0, 1, 2, 3, 4, 5, 6, 7, 8, 9, 11, 12, 13, 14, 15, 16] mixed ?_
    refine DR.takes [0, 1, 2, 3, 4, 5, 6, 7, 8, 9, 11, 12, 13, 14, 15, 16] (by kernel_rfl) (by kernel_rfl) (by kernel_rfl) .refl ?_
    (repeat' ((first | refine SLl.nil ?_ | ((show SLl _ _ _ _ _ (⟨⟨_, _, _, _, _, _⟩, _, _⟩ :: _) _ _ _); first | refine SLl.ev rfl rfl rfl rfl ?_ | ((show SLl _ _ _ _ _ (⟨⟨_, .load _ _, _, _, _, _⟩, _, _⟩ :: _) _ _ _); (first | refine SLl.rdTake rfl rfl (Rd.load rfl rfl (by ((apply Reads.rs; (· exact Rs.mono (by assumption) (by (repeat' (first | exact Ent.refl | apply Ent.skip)))); (· (assumption)); (· rfl))))) ?_ | refine SLl.rdTake rfl rfl (Rd.loadN rfl rfl (by ((apply ReadsN.rs0; (· exact Rs.mono (by assumption) (by (repeat' (first | exact Ent.refl | apply Ent.skip)))); (· (assumption))))) (by rfl)) ?_)) | ((show SLl _ _ _ _ _ (⟨⟨_, .fieldAddr _ _ _, _, _, _, _⟩, _, _⟩ :: _) _ _ _); (refine SLl.rdTake rfl rfl (Rd.fieldAddrEl rfl (by ((apply Len.rs; exact Rs.mono (by assumption) (by (repeat' (first | exact Ent.refl | apply Ent.skip)))))) (by omega)) ?_)) | ((show SLl _ _ _ _ _ (⟨⟨_, .indexAddr _ _ _, _, _, _, _⟩, _, _⟩ :: _) _ _ _); (refine SLl.rdTake rfl rfl (Rd.indexAddr rfl rfl (by ((apply Len.rs; exact Rs.mono (by assumption) (by (repeat' (first | exact Ent.refl | apply Ent.skip)))))) (by (rfl)) (by omega)) ?_)) | ((show SLl _ _ _ _ _ (⟨⟨_, .call ⟨.builtin .len, _, _⟩, _, _, _, _⟩, _, _⟩ :: _) _ _ _); refine SLl.rdTake rfl rfl (Rd.len rfl (by ((apply Len.rs; exact Rs.mono (by assumption) (by (repeat' (first | exact Ent.refl | apply Ent.skip))))))) ?_)))))
    refine DR.fork [10, 18, 20] (by kernel_rfl) (by kernel_rfl) (by kernel_rfl) (by (repeat' (exact Ent.refl))) ⟨?_, ?_, ?_, trivial⟩
    · refine SLl.eff rfl rfl (SLo.call plain91 rfl (SLf.mono (Edges_ok W _ sl G (hgF.mono (by (repeat' (exact Ent.refl)))) he) ?_)); rintro v σ ⟨rfl, rfl⟩
      refine And.intro (fun _ => by (repeat' (exact Ent.refl))) (SLl.nil ?_)
      refine DR.fork [17, 18, 20] (by kernel_rfl) (by kernel_rfl) (by kernel_rfl) (by (repeat' (exact Ent.refl))) ⟨?_, ?_, ?_, trivial⟩
      · refine SLl.eff rfl rfl (SLo.call plain92 rfl (SLf.mono (Depth_ok W _ sl rv G R root (hgF.mono (by (repeat' (exact Ent.refl)))) (hrF.mono (by (repeat' (exact Ent.refl)))) hfl (by omega) hin hb) ?_)); rintro v σ ⟨rfl, rfl⟩
        refine And.intro (fun _ => by (repeat' (exact Ent.refl))) (SLl.nil ?_)
        refine DR.fork [18, 20] (by kernel_rfl) (by kernel_rfl) (by kernel_rfl) (by (repeat' (exact Ent.refl))) ⟨?_, ?_, trivial⟩
        · refine SLl.eff rfl rfl (SLo.makeSlice (m := 17) (by rfl) (by omega) rfl rfl (by omega) (by omega) ?_); intro ov hov
          refine And.intro (fun _ => by (repeat' (first | exact Ent.refl | apply Ent.skip))) (SLl.nil ?_)
          refine DR.fork [19, 20] (by kernel_rfl) (by kernel_rfl) (by kernel_rfl) (by (repeat' (first | exact Ent.refl | apply Ent.skip))) ⟨?_, ?_, trivial⟩
          · refine SLl.eff rfl rfl (Rd.slo (Rd.build rfl (by (repeat (first | exact CellsW.nil | (apply CellsW.cons; (· (exact Cel.one (by (first | exact One.lit rfl | exact One.len (by ((apply Len.row; (· (repeat (apply Sel.here)))))))))))))) (by rfl)) ?_)
            refine And.intro (fun _ => by (repeat' (first | exact Ent.refl | apply Ent.skip))) (SLl.nil ?_)
            refine DR.fork [20] (by kernel_rfl) (by kernel_rfl) (by kernel_rfl) (by (repeat' (first | exact Ent.refl | apply Ent.skip))) ⟨?_, trivial⟩
            · refine SLl.eff rfl rfl (SLo.alloc ?_); intro b9
              refine And.intro (fun _ => by (repeat' (first | exact Ent.refl | apply Ent.skip))) (SLl.nil ?_)
              refine DR.fork [21] (by kernel_rfl) (by kernel_rfl) (by kernel_rfl) (by (repeat' (first | exact Ent.refl | apply Ent.skip))) ⟨?_, trivial⟩
              · refine SLl.eff0 rfl (SLo.storeN rfl rfl rfl (by (repeat' (first | exact trivial | (apply And.intro; (· (first | exact One.lit rfl | exact One.len (by ((apply Len.row; (· (repeat (first | apply Sel.here | apply Sel.there)))))))))))) (Nat.le_of_ble_eq_true rfl) (by (repeat (apply Upd.here))) ?_)
                refine And.intro (fun _ => by (repeat' (first | exact Ent.refl | apply Ent.skip))) (SLl.nil ?_)
                refine DR.done (by kernel_rfl) ?_
                exact ⟨rfl, ov, b9, hov, by (repeat' (first | exact trivial | apply And.intro | rfl)), by (repeat' (exact Ent.refl))⟩
          · refine SLl.eff rfl rfl (SLo.alloc ?_); intro b9
            refine And.intro (fun _ => by (repeat' (first | exact Ent.refl | apply Ent.skip))) (SLl.nil ?_)
            refine DR.fork [19] (by kernel_rfl) (by kernel_rfl) (by kernel_rfl) (by (repeat' (first | exact Ent.refl | apply Ent.skip))) ⟨?_, trivial⟩
            · refine SLl.eff rfl rfl (Rd.slo (Rd.build rfl (by (repeat (first | exact CellsW.nil | (apply CellsW.cons; (· (exact Cel.one (by (first | exact One.lit rfl | exact One.len (by ((apply Len.row; (· (repeat (first | apply Sel.here | apply Sel.there)))))))))))))) (by rfl)) ?_)
              refine And.intro (fun _ => by (repeat' (first | exact Ent.refl | apply Ent.skip))) (SLl.nil ?_)
              refine DR.fork [21] (by kernel_rfl) (by kernel_rfl) (by kernel_rfl) (by (repeat' (first | exact Ent.refl | apply Ent.skip))) ⟨?_, trivial⟩
              · refine SLl.eff0 rfl (SLo.storeN rfl rfl rfl (by (repeat' (first | exact trivial | (apply And.intro; (· (first | exact One.lit rfl | exact One.len (by ((apply Len.row; (· (repeat (first | apply Sel.here | apply Sel.there)))))))))))) (Nat.le_of_ble_eq_true rfl) (by (repeat (apply Upd.here))) ?_)
                refine And.intro (fun _ => by (repeat' (first | exact Ent.refl | apply Ent.skip))) (SLl.nil ?_)
                refine DR.done (by kernel_rfl) ?_
                exact ⟨rfl, ov, b9, hov, by (repeat' (first | exact trivial | apply And.intro | rfl)), by (repeat' (exact Ent.refl))⟩
        · refine SLl.eff rfl rfl (SLo.alloc ?_); intro b9
          refine And.intro (fun _ => by (repeat' (first | exact Ent.refl | apply Ent.skip))) (SLl.nil ?_)
          refine DR.fork [18] (by kernel_rfl) (by kernel_rfl) (by kernel_rfl) (by (repeat' (first | exact Ent.refl | apply Ent.skip))) ⟨?_, trivial⟩
          · refine SLl.eff rfl rfl (SLo.makeSlice (m := 17) (by rfl) (by omega) rfl rfl (by omega) (by omega) ?_); intro ov hov
            refine And.intro (fun _ => by (repeat' (first | exact Ent.refl | apply Ent.skip))) (SLl.nil ?_)
            refine DR.fork [19] (by kernel_rfl) (by kernel_rfl) (by kernel_rfl) (by (repeat' (first | exact Ent.refl | apply Ent.skip))) ⟨?_, trivial⟩
            · refine SLl.eff rfl rfl (Rd.slo (Rd.build rfl (by (repeat (first | exact CellsW.nil | (apply CellsW.cons; (· (exact Cel.one (by (first | exact One.lit rfl | exact One.len (by ((apply Len.row; (· (repeat (apply Sel.here)))))))))))))) (by rfl)) ?_)
              refine And.intro (fun _ => by (repeat' (first | exact Ent.refl | apply Ent.skip))) (SLl.nil ?_)
              refine DR.fork [21] (by kernel_rfl) (by kernel_rfl) (by kernel_rfl) (by (repeat' (first | exact Ent.refl | apply Ent.skip))) ⟨?_, trivial⟩
              · refine SLl.eff0 rfl (SLo.storeN rfl rfl rfl (by (repeat' (first | exact trivial | (apply And.intro; (· (first | exact One.lit rfl | exact One.len (by ((apply Len.row; (· (repeat (apply Sel.here)))))))))))) (Nat.le_of_ble_eq_true rfl) (by (repeat (first | apply Upd.here | apply Upd.there))) ?_)
                refine And.intro (fun _ => by (repeat' (first | exact Ent.refl | apply Ent.skip))) (SLl.nil ?_)
                refine DR.done (by kernel_rfl) ?_
                exact ⟨rfl, ov, b9, hov, by (repeat' (first | exact trivial | apply And.intro | rfl)), by (repeat' (first | exact Ent.refl | (refine Ent.cons (by (repeat (first | apply Sel.here | apply Sel.there))) ?_)))⟩
      · refine SLl.eff rfl rfl (SLo.makeSlice (m := 17) (by rfl) (by omega) rfl rfl (by omega) (by omega) ?_); intro ov hov
        refine And.intro (fun _ => by (repeat' (first | exact Ent.refl | apply Ent.skip))) (SLl.nil ?_)
        refine DR.fork [17, 20] (by kernel_rfl) (by kernel_rfl) (by kernel_rfl) (by (repeat' (first | exact Ent.refl | apply Ent.skip))) ⟨?_, ?_, trivial⟩
        · refine SLl.eff rfl rfl (SLo.call plain92 rfl (SLf.mono (Depth_ok W _ sl rv G R root (hgF.mono (by (repeat' (first | exact Ent.refl | apply Ent.skip)))) (hrF.mono (by (repeat' (first | exact Ent.refl | apply Ent.skip)))) hfl (by omega) hin hb) ?_)); rintro v σ ⟨rfl, rfl⟩
          refine And.intro (fun _ => by (repeat' (first | exact Ent.refl | apply Ent.skip))) (SLl.nil ?_)
          refine DR.fork [19, 20] (by kernel_rfl) (by kernel_rfl) (by kernel_rfl) (by (repeat' (first | exact Ent.refl | apply Ent.skip))) ⟨?_, ?_, trivial⟩
          · refine SLl.eff rfl rfl (Rd.slo (Rd.build rfl (by (repeat (first | exact CellsW.nil | (apply CellsW.cons; (· (exact Cel.one (by (first | exact One.lit rfl | exact One.len (by ((apply Len.row; (· (repeat (apply Sel.here)))))))))))))) (by rfl)) ?_)
            refine And.intro (fun _ => by (repeat' (first | exact Ent.refl | apply Ent.skip))) (SLl.nil ?_)
            refine DR.fork [20] (by kernel_rfl) (by kernel_rfl) (by kernel_rfl) (by (repeat' (first | exact Ent.refl | apply Ent.skip))) ⟨?_, trivial⟩
            · refine SLl.eff rfl rfl (SLo.alloc ?_); intro b9
              refine And.intro (fun _ => by (repeat' (first | exact Ent.refl | apply Ent.skip))) (SLl.nil ?_)
              refine DR.fork [21] (by kernel_rfl) (by kernel_rfl) (by kernel_rfl) (by (repeat' (first | exact Ent.refl | apply Ent.skip))) ⟨?_, trivial⟩
              · refine SLl.eff0 rfl (SLo.storeN rfl rfl rfl (by (repeat' (first | exact trivial | (apply And.intro; (· (first | exact One.lit rfl | exact One.len (by ((apply Len.row; (· (repeat (first | apply Sel.here | apply Sel.there)))))))))))) (Nat.le_of_ble_eq_true rfl) (by (repeat (apply Upd.here))) ?_)
                refine And.intro (fun _ => by (repeat' (first | exact Ent.refl | apply Ent.skip))) (SLl.nil ?_)
                refine DR.done (by kernel_rfl) ?_
                exact ⟨rfl, ov, b9, hov, by (repeat' (first | exact trivial | apply And.intro | rfl)), by (repeat' (exact Ent.refl))⟩
          · refine SLl.eff rfl rfl (SLo.alloc ?_); intro b9
            refine And.intro (fun _ => by (repeat' (first | exact Ent.refl | apply Ent.skip))) (SLl.nil ?_)
            refine DR.fork [19] (by kernel_rfl) (by kernel_rfl) (by kernel_rfl) (by (repeat' (first | exact Ent.refl | apply Ent.skip))) ⟨?_, trivial⟩
            · refine SLl.eff rfl rfl (Rd.slo (Rd.build rfl (by (repeat (first | exact CellsW.nil | (apply CellsW.cons; (· (exact Cel.one (by (first | exact One.lit rfl | exact One.len (by ((apply Len.row; (· (repeat (first | apply Sel.here | apply Sel.there)))))))))))))) (by rfl)) ?_)
              refine And.intro (fun _ => by (repeat' (first | exact Ent.refl | apply Ent.skip))) (SLl.nil ?_)
              refine DR.fork [21] (by kernel_rfl) (by kernel_rfl) (by kernel_rfl) (by (repeat' (first | exact Ent.refl | apply Ent.skip))) ⟨?_, trivial⟩
              · refine SLl.eff0 rfl (SLo.storeN rfl rfl rfl (by (repeat' (first | exact trivial | (apply And.intro; (· (first | exact One.lit rfl | exact One.len (by ((apply Len.row; (· (repeat (first | apply Sel.here | apply Sel.there)))))))))))) (Nat.le_of_ble_eq_true rfl) (by (repeat (apply Upd.here))) ?_)
                refine And.intro (fun _ => by (repeat' (first | exact Ent.refl | apply Ent.skip))) (SLl.nil ?_)
                refine DR.done (by kernel_rfl) ?_
                exact ⟨rfl, ov, b9, hov, by (repeat' (first | exact trivial | apply And.intro | rfl)), by (repeat' (exact Ent.refl))⟩
        · refine SLl.eff rfl rfl (SLo.alloc ?_); intro b9
          refine And.intro (fun _ => by (repeat' (first | exact Ent.refl | apply Ent.skip))) (SLl.nil ?_)
          refine DR.fork [17] (by kernel_rfl) (by kernel_rfl) (by kernel_rfl) (by (repeat' (first | exact Ent.refl | apply Ent.skip))) ⟨?_, trivial⟩
          · refine SLl.eff rfl rfl (SLo.call plain92 rfl (SLf.mono (Depth_ok W _ sl rv G R root (hgF.mono (by (repeat' (first | exact Ent.refl | apply Ent.skip)))) (hrF.mono (by (repeat' (first | exact Ent.refl | apply Ent.skip)))) hfl (by omega) hin hb) ?_)); rintro v σ ⟨rfl, rfl⟩
            refine And.intro (fun _ => by (repeat' (first | exact Ent.refl | apply Ent.skip))) (SLl.nil ?_)
            refine DR.fork [19] (by kernel_rfl) (by kernel_rfl) (by kernel_rfl) (by (repeat' (first | exact Ent.refl | apply Ent.skip))) ⟨?_, trivial⟩
            · refine SLl.eff rfl rfl (Rd.slo (Rd.build rfl (by (repeat (first | exact CellsW.nil | (apply CellsW.cons; (· (exact Cel.one (by (first | exact One.lit rfl | exact One.len (by ((apply Len.row; (· (repeat (first | apply Sel.here | apply Sel.there)))))))))))))) (by rfl)) ?_)
              refine And.intro (fun _ => by (repeat' (first | exact Ent.refl | apply Ent.skip))) (SLl.nil ?_)
              refine DR.fork [21] (by kernel_rfl) (by kernel_rfl) (by kernel_rfl) (by (repeat' (first | exact Ent.refl | apply Ent.skip))) ⟨?_, trivial⟩
              · refine SLl.eff0 rfl (SLo.storeN rfl rfl rfl (by (repeat' (first | exact trivial | (apply And.intro; (· (first | exact One.lit rfl | exact One.len (by ((apply Len.row; (· (repeat (first | apply Sel.here | apply Sel.there)))))))))))) (Nat.le_of_ble_eq_true rfl) (by (repeat (apply Upd.here))) ?_)
                refine And.intro (fun _ => by (repeat' (first | exact Ent.refl | apply Ent.skip))) (SLl.nil ?_)
                refine DR.done (by kernel_rfl) ?_
                exact ⟨rfl, ov, b9, hov, by (repeat' (first | exact trivial | apply And.intro | rfl)), by (repeat' (exact Ent.refl))⟩
      · refine SLl.eff rfl rfl (SLo.alloc ?_); intro b9
        refine And.intro (fun _ => by (repeat' (first | exact Ent.refl | apply Ent.skip))) (SLl.nil ?_)
        refine DR.fork [17, 18] (by kernel_rfl) (by kernel_rfl) (by kernel_rfl) (by (repeat' (first | exact Ent.refl | apply Ent.skip))) ⟨?_, ?_, trivial⟩
        · refine SLl.eff rfl rfl (SLo.call plain92 rfl (SLf.mono (Depth_ok W _ sl rv G R root (hgF.mono (by (repeat' (first | exact Ent.refl | apply Ent.skip)))) (hrF.mono (by (repeat' (first | exact Ent.refl | apply Ent.skip)))) hfl (by omega) hin hb) ?_)); rintro v σ ⟨rfl, rfl⟩
          refine And.intro (fun _ => by (repeat' (first | exact Ent.refl | apply Ent.skip))) (SLl.nil ?_)
          refine DR.fork [18] (by kernel_rfl) (by kernel_rfl) (by kernel_rfl) (by (repeat' (first | exact Ent.refl | apply Ent.skip))) ⟨?_, trivial⟩
          · refine SLl.eff rfl rfl (SLo.makeSlice (m := 17) (by rfl) (by omega) rfl rfl (by omega) (by omega) ?_); intro ov hov
            refine And.intro (fun _ => by (repeat' (first | exact Ent.refl | apply Ent.skip))) (SLl.nil ?_)
            refine DR.fork [19] (by kernel_rfl) (by kernel_rfl) (by kernel_rfl) (by (repeat' (first | exact Ent.refl | apply Ent.skip))) ⟨?_, trivial⟩
            · refine SLl.eff rfl rfl (Rd.slo (Rd.build rfl (by (repeat (first | exact CellsW.nil | (apply CellsW.cons; (· (exact Cel.one (by (first | exact One.lit rfl | exact One.len (by ((apply Len.row; (· (repeat (apply Sel.here)))))))))))))) (by rfl)) ?_)
              refine And.intro (fun _ => by (repeat' (first | exact Ent.refl | apply Ent.skip))) (SLl.nil ?_)
              refine DR.fork [21] (by kernel_rfl) (by kernel_rfl) (by kernel_rfl) (by (repeat' (first | exact Ent.refl | apply Ent.skip))) ⟨?_, trivial⟩
              · refine SLl.eff0 rfl (SLo.storeN rfl rfl rfl (by (repeat' (first | exact trivial | (apply And.intro; (· (first | exact One.lit rfl | exact One.len (by ((apply Len.row; (· (repeat (apply Sel.here)))))))))))) (Nat.le_of_ble_eq_true rfl) (by (repeat (first | apply Upd.here | apply Upd.there))) ?_)
                refine And.intro (fun _ => by (repeat' (first | exact Ent.refl | apply Ent.skip))) (SLl.nil ?_)
                refine DR.done (by kernel_rfl) ?_
                exact ⟨rfl, ov, b9, hov, by (repeat' (first | exact trivial | apply And.intro | rfl)), by (repeat' (first | exact Ent.refl | (refine Ent.cons (by (repeat (first | apply Sel.here | apply Sel.there))) ?_)))⟩
        · refine SLl.eff rfl rfl (SLo.makeSlice (m := 17) (by rfl) (by omega) rfl rfl (by omega) (by omega) ?_); intro ov hov
          refine And.intro (fun _ => by (repeat' (first | exact Ent.refl | apply Ent.skip))) (SLl.nil ?_)
          refine DR.fork [17] (by kernel_rfl) (by kernel_rfl) (by kernel_rfl) (by (repeat' (first | exact Ent.refl | apply Ent.skip))) ⟨?_, trivial⟩
          · refine SLl.eff rfl rfl (SLo.call plain92 rfl (SLf.mono (Depth_ok W _ sl rv G R root (hgF.mono (by (repeat' (first | exact Ent.refl | apply Ent.skip)))) (hrF.mono (by (repeat' (first | exact Ent.refl | apply Ent.skip)))) hfl (by omega) hin hb) ?_)); rintro v σ ⟨rfl, rfl⟩
            refine And.intro (fun _ => by (repeat' (first | exact Ent.refl | apply Ent.skip))) (SLl.nil ?_)
            refine DR.fork [19] (by kernel_rfl) (by kernel_rfl) (by kernel_rfl) (by (repeat' (first | exact Ent.refl | apply Ent.skip))) ⟨?_, trivial⟩
            · refine SLl.eff rfl rfl (Rd.slo (Rd.build rfl (by (repeat (first | exact CellsW.nil | (apply CellsW.cons; (· (exact Cel.one (by (first | exact One.lit rfl | exact One.len (by ((apply Len.row; (· (repeat (apply Sel.here)))))))))))))) (by rfl)) ?_)
              refine And.intro (fun _ => by (repeat' (first | exact Ent.refl | apply Ent.skip))) (SLl.nil ?_)
              refine DR.fork [21] (by kernel_rfl) (by kernel_rfl) (by kernel_rfl) (by (repeat' (first | exact Ent.refl | apply Ent.skip))) ⟨?_, trivial⟩
              · refine SLl.eff0 rfl (SLo.storeN rfl rfl rfl (by (repeat' (first | exact trivial | (apply And.intro; (· (first | exact One.lit rfl | exact One.len (by ((apply Len.row; (· (repeat (apply Sel.here)))))))))))) (Nat.le_of_ble_eq_true rfl) (by (repeat (first | apply Upd.here | apply Upd.there))) ?_)
                refine And.intro (fun _ => by (repeat' (first | exact Ent.refl | apply Ent.skip))) (SLl.nil ?_)
                refine DR.done (by kernel_rfl) ?_
                exact ⟨rfl, ov, b9, hov, by (repeat' (first | exact trivial | apply And.intro | rfl)), by (repeat' (first | exact Ent.refl | (refine Ent.cons (by (repeat (first | apply Sel.here | apply Sel.there))) ?_)))⟩
    · refine SLl.eff rfl rfl (SLo.makeSlice (m := 17) (by rfl) (by omega) rfl rfl (by omega) (by omega) ?_); intro ov hov
      refine And.intro (fun _ => by (repeat' (first | exact Ent.refl | apply Ent.skip))) (SLl.nil ?_)
      refine DR.fork [10, 20] (by kernel_rfl) (by kernel_rfl) (by kernel_rfl) (by (repeat' (first | exact Ent.refl | apply Ent.skip))) ⟨?_, ?_, trivial⟩
      · refine SLl.eff rfl rfl (SLo.call plain91 rfl (SLf.mono (Edges_ok W _ sl G (hgF.mono (by (repeat' (first | exact Ent.refl | apply Ent.skip)))) he) ?_)); rintro v σ ⟨rfl, rfl⟩
        refine And.intro (fun _ => by (repeat' (first | exact Ent.refl | apply Ent.skip))) (SLl.nil ?_)
        refine DR.fork [17, 20] (by kernel_rfl) (by kernel_rfl) (by kernel_rfl) (by (repeat' (first | exact Ent.refl | apply Ent.skip))) ⟨?_, ?_, trivial⟩
        · refine SLl.eff rfl rfl (SLo.call plain92 rfl (SLf.mono (Depth_ok W _ sl rv G R root (hgF.mono (by (repeat' (first | exact Ent.refl | apply Ent.skip)))) (hrF.mono (by (repeat' (first | exact Ent.refl | apply Ent.skip)))) hfl (by omega) hin hb) ?_)); rintro v σ ⟨rfl, rfl⟩
          refine And.intro (fun _ => by (repeat' (first | exact Ent.refl | apply Ent.skip))) (SLl.nil ?_)
          refine DR.fork [19, 20] (by kernel_rfl) (by kernel_rfl) (by kernel_rfl) (by (repeat' (first | exact Ent.refl | apply Ent.skip))) ⟨?_, ?_, trivial⟩
          · refine SLl.eff rfl rfl (Rd.slo (Rd.build rfl (by (repeat (first | exact CellsW.nil | (apply CellsW.cons; (· (exact Cel.one (by (first | exact One.lit rfl | exact One.len (by ((apply Len.row; (· (repeat (apply Sel.here)))))))))))))) (by rfl)) ?_)
            refine And.intro (fun _ => by (repeat' (first | exact Ent.refl | apply Ent.skip))) (SLl.nil ?_)
            refine DR.fork [20] (by kernel_rfl) (by kernel_rfl) (by kernel_rfl) (by (repeat' (first | exact Ent.refl | apply Ent.skip))) ⟨?_, trivial⟩
            · refine SLl.eff rfl rfl (SLo.alloc ?_); intro b9
              refine And.intro (fun _ => by (repeat' (first | exact Ent.refl | apply Ent.skip))) (SLl.nil ?_)
              refine DR.fork [21] (by kernel_rfl) (by kernel_rfl) (by kernel_rfl) (by (repeat' (first | exact Ent.refl | apply Ent.skip))) ⟨?_, trivial⟩
              · refine SLl.eff0 rfl (SLo.storeN rfl rfl rfl (by (repeat' (first | exact trivial | (apply And.intro; (· (first | exact One.lit rfl | exact One.len (by ((apply Len.row; (· (repeat (first | apply Sel.here | apply Sel.there)))))))))))) (Nat.le_of_ble_eq_true rfl) (by (repeat (apply Upd.here))) ?_)
                refine And.intro (fun _ => by (repeat' (first | exact Ent.refl | apply Ent.skip))) (SLl.nil ?_)
                refine DR.done (by kernel_rfl) ?_
                exact ⟨rfl, ov, b9, hov, by (repeat' (first | exact trivial | apply And.intro | rfl)), by (repeat' (exact Ent.refl))⟩
          · refine SLl.eff rfl rfl (SLo.alloc ?_); intro b9
            refine And.intro (fun _ => by (repeat' (first | exact Ent.refl | apply Ent.skip))) (SLl.nil ?_)
            refine DR.fork [19] (by kernel_rfl) (by kernel_rfl) (by kernel_rfl) (by (repeat' (first | exact Ent.refl | apply Ent.skip))) ⟨?_, trivial⟩
            · refine SLl.eff rfl rfl (Rd.slo (Rd.build rfl (by (repeat (first | exact CellsW.nil | (apply CellsW.cons; (· (exact Cel.one (by (first | exact One.lit rfl | exact One.len (by ((apply Len.row; (· (repeat (first | apply Sel.here | apply Sel.there)))))))))))))) (by rfl)) ?_)
              refine And.intro (fun _ => by (repeat' (first | exact Ent.refl | apply Ent.skip))) (SLl.nil ?_)
              refine DR.fork [21] (by kernel_rfl) (by kernel_rfl) (by kernel_rfl) (by (repeat' (first | exact Ent.refl | apply Ent.skip))) ⟨?_, trivial⟩
              · refine SLl.eff0 rfl (SLo.storeN rfl rfl rfl (by (repeat' (first | exact trivial | (apply And.intro; (· (first | exact One.lit rfl | exact One.len (by ((apply Len.row; (· (repeat (first | apply Sel.here | apply Sel.there)))))))))))) (Nat.le_of_ble_eq_true rfl) (by (repeat (apply Upd.here))) ?_)
                refine And.intro (fun _ => by (repeat' (first | exact Ent.refl | apply Ent.skip))) (SLl.nil ?_)
                refine DR.done (by kernel_rfl) ?_
                exact ⟨rfl, ov, b9, hov, by (repeat' (first | exact trivial | apply And.intro | rfl)), by (repeat' (exact Ent.refl))⟩
        · refine SLl.eff rfl rfl (SLo.alloc ?_); intro b9
          refine And.intro (fun _ => by (repeat' (first | exact Ent.refl | apply Ent.skip))) (SLl.nil ?_)
          refine DR.fork [17] (by kernel_rfl) (by kernel_rfl) (by kernel_rfl) (by (repeat' (first | exact Ent.refl | apply Ent.skip))) ⟨?_, trivial⟩
          · refine SLl.eff rfl rfl (SLo.call plain92 rfl (SLf.mono (Depth_ok W _ sl rv G R root (hgF.mono (by (repeat' (first | exact Ent.refl | apply Ent.skip)))) (hrF.mono (by (repeat' (first | exact Ent.refl | apply Ent.skip)))) hfl (by omega) hin hb) ?_)); rintro v σ ⟨rfl, rfl⟩
            refine And.intro (fun _ => by (repeat' (first | exact Ent.refl | apply Ent.skip))) (SLl.nil ?_)
            refine DR.fork [19] (by kernel_rfl) (by kernel_rfl) (by kernel_rfl) (by (repeat' (first | exact Ent.refl | apply Ent.skip))) ⟨?_, trivial⟩
            · refine SLl.eff rfl rfl (Rd.slo (Rd.build rfl (by (repeat (first | exact CellsW.nil | (apply CellsW.cons; (· (exact Cel.one (by (first | exact One.lit rfl | exact One.len (by ((apply Len.row; (· (repeat (first | apply Sel.here | apply Sel.there)))))))))))))) (by rfl)) ?_)
              refine And.intro (fun _ => by (repeat' (first | exact Ent.refl | apply Ent.skip))) (SLl.nil ?_)
              refine DR.fork [21] (by kernel_rfl) (by kernel_rfl) (by kernel_rfl) (by (repeat' (first | exact Ent.refl | apply Ent.skip))) ⟨?_, trivial⟩
              · refine SLl.eff0 rfl (SLo.storeN rfl rfl rfl (by (repeat' (first | exact trivial | (apply And.intro; (· (first | exact One.lit rfl | exact One.len (by ((apply Len.row; (· (repeat (first | apply Sel.here | apply Sel.there)))))))))))) (Nat.le_of_ble_eq_true rfl) (by (repeat (apply Upd.here))) ?_)
                refine And.intro (fun _ => by (repeat' (first | exact Ent.refl | apply Ent.skip))) (SLl.nil ?_)
                refine DR.done (by kernel_rfl) ?_
                exact ⟨rfl, ov, b9, hov, by (repeat' (first | exact trivial | apply And.intro | rfl)), by (repeat' (exact Ent.refl))⟩
      · refine SLl.eff rfl rfl (SLo.alloc ?_); intro b9
        refine And.intro (fun _ => by (repeat' (first | exact Ent.refl | apply Ent.skip))) (SLl.nil ?_)
        refine DR.fork [10] (by kernel_rfl) (by kernel_rfl) (by kernel_rfl) (by (repeat' (first | exact Ent.refl | apply Ent.skip))) ⟨?_, trivial⟩
        · refine SLl.eff rfl rfl (SLo.call plain91 rfl (SLf.mono (Edges_ok W _ sl G (hgF.mono (by (repeat' (first | exact Ent.refl | apply Ent.skip)))) he) ?_)); rintro v σ ⟨rfl, rfl⟩
          refine And.intro (fun _ => by (repeat' (first | exact Ent.refl | apply Ent.skip))) (SLl.nil ?_)
          refine DR.fork [17] (by kernel_rfl) (by kernel_rfl) (by kernel_rfl) (by (repeat' (first | exact Ent.refl | apply Ent.skip))) ⟨?_, trivial⟩
          · refine SLl.eff rfl rfl (SLo.call plain92 rfl (SLf.mono (Depth_ok W _ sl rv G R root (hgF.mono (by (repeat' (first | exact Ent.refl | apply Ent.skip)))) (hrF.mono (by (repeat' (first | exact Ent.refl | apply Ent.skip)))) hfl (by omega) hin hb) ?_)); rintro v σ ⟨rfl, rfl⟩
            refine And.intro (fun _ => by (repeat' (first | exact Ent.refl | apply Ent.skip))) (SLl.nil ?_)
            refine DR.fork [19] (by kernel_rfl) (by kernel_rfl) (by kernel_rfl) (by (repeat' (first | exact Ent.refl | apply Ent.skip))) ⟨?_, trivial⟩
            · refine SLl.eff rfl rfl (Rd.slo (Rd.build rfl (by (repeat (first | exact CellsW.nil | (apply CellsW.cons; (· (exact Cel.one (by (first | exact One.lit rfl | exact One.len (by ((apply Len.row; (· (repeat (first | apply Sel.here | apply Sel.there)))))))))))))) (by rfl)) ?_)
              refine And.intro (fun _ => by (repeat' (first | exact Ent.refl | apply Ent.skip))) (SLl.nil ?_)
              refine DR.fork [21] (by kernel_rfl) (by kernel_rfl) (by kernel_rfl) (by (repeat' (first | exact Ent.refl | apply Ent.skip))) ⟨?_, trivial⟩
              · refine SLl.eff0 rfl (SLo.storeN rfl rfl rfl (by (repeat' (first | exact trivial | (apply And.intro; (· (first | exact One.lit rfl | exact One.len (by ((apply Len.row; (· (repeat (first | apply Sel.here | apply Sel.there)))))))))))) (Nat.le_of_ble_eq_true rfl) (by (repeat (apply Upd.here))) ?_)
                refine And.intro (fun _ => by (repeat' (first | exact Ent.refl | apply Ent.skip))) (SLl.nil ?_)
                refine DR.done (by kernel_rfl) ?_
                exact ⟨rfl, ov, b9, hov, by (repeat' (first | exact trivial | apply And.intro | rfl)), by (repeat' (exact Ent.refl))⟩
    · refine SLl.eff rfl rfl (SLo.alloc ?_); intro b9
      refine And.intro (fun _ => by (repeat' (first | exact Ent.refl | apply Ent.skip))) (SLl.nil ?_)
      refine DR.fork [10, 18] (by kernel_rfl) (by kernel_rfl) (by kernel_rfl) (by (repeat' (first | exact Ent.refl | apply Ent.skip))) ⟨?_, ?_, trivial⟩
      · refine SLl.eff rfl rfl (SLo.call plain91 rfl (SLf.mono (Edges_ok W _ sl G (hgF.mono (by (repeat' (first | exact Ent.refl | apply Ent.skip)))) he) ?_)); rintro v σ ⟨rfl, rfl⟩
        refine And.intro (fun _ => by (repeat' (first | exact Ent.refl | apply Ent.skip))) (SLl.nil ?_)
        refine DR.fork [17, 18] (by kernel_rfl) (by kernel_rfl) (by kernel_rfl) (by (repeat' (first | exact Ent.refl | apply Ent.skip))) ⟨?_, ?_, trivial⟩
        · refine SLl.eff rfl rfl (SLo.call plain92 rfl (SLf.mono (Depth_ok W _ sl rv G R root (hgF.mono (by (repeat' (first | exact Ent.refl | apply Ent.skip)))) (hrF.mono (by (repeat' (first | exact Ent.refl | apply Ent.skip)))) hfl (by omega) hin hb) ?_)); rintro v σ ⟨rfl, rfl⟩
          refine And.intro (fun _ => by (repeat' (first | exact Ent.refl | apply Ent.skip))) (SLl.nil ?_)
          refine DR.fork [18] (by kernel_rfl) (by kernel_rfl) (by kernel_rfl) (by (repeat' (first | exact Ent.refl | apply Ent.skip))) ⟨?_, trivial⟩
          · refine SLl.eff rfl rfl (SLo.makeSlice (m := 17) (by rfl) (by omega) rfl rfl (by omega) (by omega) ?_); intro ov hov
            refine And.intro (fun _ => by (repeat' (first | exact Ent.refl | apply Ent.skip))) (SLl.nil ?_)
            refine DR.fork [19] (by kernel_rfl) (by kernel_rfl) (by kernel_rfl) (by (repeat' (first | exact Ent.refl | apply Ent.skip))) ⟨?_, trivial⟩
            · refine SLl.eff rfl rfl (Rd.slo (Rd.build rfl (by (repeat (first | exact CellsW.nil | (apply CellsW.cons; (· (exact Cel.one (by (first | exact One.lit rfl | exact One.len (by ((apply Len.row; (· (repeat (apply Sel.here)))))))))))))) (by rfl)) ?_)
              refine And.intro (fun _ => by (repeat' (first | exact Ent.refl | apply Ent.skip))) (SLl.nil ?_)
              refine DR.fork [21] (by kernel_rfl) (by kernel_rfl) (by kernel_rfl) (by (repeat' (first | exact Ent.refl | apply Ent.skip))) ⟨?_, trivial⟩
              · refine SLl.eff0 rfl (SLo.storeN rfl rfl rfl (by (repeat' (first | exact trivial | (apply And.intro; (· (first | exact One.lit rfl | exact One.len (by ((apply Len.row; (· (repeat (apply Sel.here)))))))))))) (Nat.le_of_ble_eq_true rfl) (by (repeat (first | apply Upd.here | apply Upd.there))) ?_)
                refine And.intro (fun _ => by (repeat' (first | exact Ent.refl | apply Ent.skip))) (SLl.nil ?_)
                refine DR.done (by kernel_rfl) ?_
                exact ⟨rfl, ov, b9, hov, by (repeat' (first | exact trivial | apply And.intro | rfl)), by (repeat' (first | exact Ent.refl | (refine Ent.cons (by (repeat (first | apply Sel.here | apply Sel.there))) ?_)))⟩
        · refine SLl.eff rfl rfl (SLo.makeSlice (m := 17) (by rfl) (by omega) rfl rfl (by omega) (by omega) ?_); intro ov hov
          refine And.intro (fun _ => by (repeat' (first | exact Ent.refl | apply Ent.skip))) (SLl.nil ?_)
          refine DR.fork [17] (by kernel_rfl) (by kernel_rfl) (by kernel_rfl) (by (repeat' (first | exact Ent.refl | apply Ent.skip))) ⟨?_, trivial⟩
          · refine SLl.eff rfl rfl (SLo.call plain92 rfl (SLf.mono (Depth_ok W _ sl rv G R root (hgF.mono (by (repeat' (first | exact Ent.refl | apply Ent.skip)))) (hrF.mono (by (repeat' (first | exact Ent.refl | apply Ent.skip)))) hfl (by omega) hin hb) ?_)); rintro v σ ⟨rfl, rfl⟩
            refine And.intro (fun _ => by (repeat' (first | exact Ent.refl | apply Ent.skip))) (SLl.nil ?_)
            refine DR.fork [19] (by kernel_rfl) (by kernel_rfl) (by kernel_rfl) (by (repeat' (first | exact Ent.refl | apply Ent.skip))) ⟨?_, trivial⟩
            · refine SLl.eff rfl rfl (Rd.slo (Rd.build rfl (by (repeat (first | exact CellsW.nil | (apply CellsW.cons; (· (exact Cel.one (by (first | exact One.lit rfl | exact One.len (by ((apply Len.row; (· (repeat (apply Sel.here)))))))))))))) (by rfl)) ?_)
              refine And.intro (fun _ => by (repeat' (first | exact Ent.refl | apply Ent.skip))) (SLl.nil ?_)
              refine DR.fork [21] (by kernel_rfl) (by kernel_rfl) (by kernel_rfl) (by (repeat' (first | exact Ent.refl | apply Ent.skip))) ⟨?_, trivial⟩
              · refine SLl.eff0 rfl (SLo.storeN rfl rfl rfl (by (repeat' (first | exact trivial | (apply And.intro; (· (first | exact One.lit rfl | exact One.len (by ((apply Len.row; (· (repeat (apply Sel.here)))))))))))) (Nat.le_of_ble_eq_true rfl) (by (repeat (first | apply Upd.here | apply Upd.there))) ?_)
                refine And.intro (fun _ => by (repeat' (first | exact Ent.refl | apply Ent.skip))) (SLl.nil ?_)
                refine DR.done (by kernel_rfl) ?_
                exact ⟨rfl, ov, b9, hov, by (repeat' (first | exact trivial | apply And.intro | rfl)), by (repeat' (first | exact Ent.refl | (refine Ent.cons (by (repeat (first | apply Sel.here | apply Sel.there))) ?_)))⟩
      · refine SLl.eff rfl rfl (SLo.makeSlice (m := 17) (by rfl) (by omega) rfl rfl (by omega) (by omega) ?_); intro ov hov
        refine And.intro (fun _ => by (repeat' (first | exact Ent.refl | apply Ent.skip))) (SLl.nil ?_)
        refine DR.fork [10] (by kernel_rfl) (by kernel_rfl) (by kernel_rfl) (by (repeat' (first | exact Ent.refl | apply Ent.skip))) ⟨?_, trivial⟩
        · refine SLl.eff rfl rfl (SLo.call plain91 rfl (SLf.mono (Edges_ok W _ sl G (hgF.mono (by (repeat' (first | exact Ent.refl | apply Ent.skip)))) he) ?_)); rintro v σ ⟨rfl, rfl⟩
          refine And.intro (fun _ => by (repeat' (first | exact Ent.refl | apply Ent.skip))) (SLl.nil ?_)
          refine DR.fork [17] (by kernel_rfl) (by kernel_rfl) (by kernel_rfl) (by (repeat' (first | exact Ent.refl | apply Ent.skip))) ⟨?_, trivial⟩
          · refine SLl.eff rfl rfl (SLo.call plain92 rfl (SLf.mono (Depth_ok W _ sl rv G R root (hgF.mono (by (repeat' (first | exact Ent.refl | apply Ent.skip)))) (hrF.mono (by (repeat' (first | exact Ent.refl | apply Ent.skip)))) hfl (by omega) hin hb) ?_)); rintro v σ ⟨rfl, rfl⟩
            refine And.intro (fun _ => by (repeat' (first | exact Ent.refl | apply Ent.skip))) (SLl.nil ?_)
            refine DR.fork [19] (by kernel_rfl) (by kernel_rfl) (by kernel_rfl) (by (repeat' (first | exact Ent.refl | apply Ent.skip))) ⟨?_, trivial⟩
            · refine SLl.eff rfl rfl (Rd.slo (Rd.build rfl (by (repeat (first | exact CellsW.nil | (apply CellsW.cons; (· (exact Cel.one (by (first | exact One.lit rfl | exact One.len (by ((apply Len.row; (· (repeat (apply Sel.here)))))))))))))) (by rfl)) ?_)
              refine And.intro (fun _ => by (repeat' (first | exact Ent.refl | apply Ent.skip))) (SLl.nil ?_)
              refine DR.fork [21] (by kernel_rfl) (by kernel_rfl) (by kernel_rfl) (by (repeat' (first | exact Ent.refl | apply Ent.skip))) ⟨?_, trivial⟩
              · refine SLl.eff0 rfl (SLo.storeN rfl rfl rfl (by (repeat' (first | exact trivial | (apply And.intro; (· (first | exact One.lit rfl | exact One.len (by ((apply Len.row; (· (repeat (apply Sel.here)))))))))))) (Nat.le_of_ble_eq_true rfl) (by (repeat (first | apply Upd.here | apply Upd.there))) ?_)
                refine And.intro (fun _ => by (repeat' (first | exact Ent.refl | apply Ent.skip))) (SLl.nil ?_)
                refine DR.done (by kernel_rfl) ?_
                exact ⟨rfl, ov, b9, hov, by (repeat' (first | exact trivial | apply And.intro | rfl)), by (repeat' (first | exact Ent.refl | (refine Ent.cons (by (repeat (first | apply Sel.here | apply Sel.there))) ?_)))⟩
  · rintro e ds σ ⟨rfl, ov, b9, hov, hsub, hent⟩
    rw [hlen, ints_rep] at hent
    refine SLc.weaken hsub hent ?_
    (repeat' (first | (((show SLl _ _ _ _ _ (⟨⟨_, _, _, _, _, _⟩, _, _⟩ :: _) _ _ _); first | refine SLl.ev rfl rfl rfl rfl ?_ | ((show SLl _ _ _ _ _ (⟨⟨_, .load _ _, _, _, _, _⟩, _, _⟩ :: _) _ _ _); (refine SLl.rdSeq rfl rfl (Rd.loadN rfl rfl (by ((apply ReadsN.rs0; (· exact Rs.mono (by assumption) (by (repeat' (first | exact Ent.refl | apply Ent.skip)))); (· (assumption))))) (by rfl)) ?_)) | ((show SLl _ _ _ _ _ (⟨⟨_, .indexAddr _ _ _, _, _, _, _⟩, _, _⟩ :: _) _ _ _); (refine SLl.rdSeq rfl rfl (Rd.indexAddr rfl rfl (by ((apply Len.rs; exact Rs.mono (by assumption) (by (repeat' (first | exact Ent.refl | apply Ent.skip)))))) (by (rfl)) (by omega)) ?_)))) | (first | refine SLc.seq ?_ | refine SLc.region rfl ?_)))
    refine SLl.seq rfl rfl (SLo.call plain93 rfl (SLf.mono (Each_ok W (.row rv 4 1 (bools R) :: .blk b 86 zeroM :: F) sl rv ov b9 _ _ _ G R hgF hrF hfl hb) ?_))
    rintro v σ rfl
    (repeat' (first | (first | refine SLl.nil ?_ | ((show SLl _ _ _ _ _ (⟨⟨_, _, _, _, _, _⟩, _, _⟩ :: _) _ _ _); first | refine SLl.ev rfl rfl rfl rfl ?_ | ((show SLl _ _ _ _ _ (⟨⟨_, .load _ _, _, _, _, _⟩, _, _⟩ :: _) _ _ _); (refine SLl.rdSeq rfl rfl (Rd.loadN rfl rfl (by ((apply ReadsN.blk0; (· (repeat (apply Sel.here)))))) (by rfl)) ?_)) | ((show SLl _ _ _ _ _ (⟨⟨_, .store _ _ _, _, _, _, _⟩, _, _⟩ :: _) _ _ _); ((refine SLl.seq0 rfl (SLo.storeN rfl rfl rfl (by (repeat' (first | exact trivial | (apply And.intro; (· (first | exact One.lit rfl | exact One.len (by ((apply Len.row; (· (repeat (first | apply Sel.here | apply Sel.there)))))))))))) (Nat.le_of_ble_eq_true rfl) (by (repeat (first | apply Upd.here | apply Upd.there))) ?_)))))) | (first | refine SLc.seq ?_ | refine SLc.region rfl ?_ | refine SLc.ret ?_)))
    refine And.intro rfl (Exists.intro _ (Exists.intro _ (And.intro (ResW.cell ty86 rfl rfl (ReadsN.blk0 (by (repeat (first | apply Sel.here | apply Sel.there)))) rfl (ResW.tmp rfl ResW.nil)) (And.intro ?_ (Exists.intro ov (And.intro hov (And.intro rfl rfl)))))))
    (repeat' (first | exact Ent.refl | (refine Ent.cons (by (repeat (first | apply Sel.here | apply Sel.there))) ?_) | apply Ent.skip))
end Go.Sl
