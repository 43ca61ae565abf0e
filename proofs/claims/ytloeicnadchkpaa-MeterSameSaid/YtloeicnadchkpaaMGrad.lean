/- Gradients, compared; Back. -/
import Derived.Test.YtloeicnadchkpaaMTen
namespace Go.Sl
open Go.Proofs
attribute [local irreducible] SLc SLl SLo SLf Pu Rd

structure Grad where
  lv : Value
  leaf : List Ten
  par : Ten
  node : Int
  err : Int
def Grad.cells (g : Grad) : List Value := [g.lv, g.par.sv, g.par.dv, .int .i64 g.node, .int .i64 g.err]
def gkey (g : Grad) : Int × Int × (List Int × List Int) × List (List Int × List Int) := (g.err, g.node, tkey g.par, g.leaf.map tkey)
structure GradX (W : World) (g : Grad) : Prop where
  l : ∀ σ, Rs W σ g.lv 2 (tcs g.leaf)
  t : ∀ x ∈ g.leaf, TenX W x
  p : TenX W g.par
  ll : g.leaf.length ≤ 140737488355328
  lo : g.lv.oneCell' = true
theorem gk_err {p q : Grad} (h : ¬ p.err = q.err) : ¬ gkey p = gkey q := fun e => h (congrArg Prod.fst e)
theorem gk_node {p q : Grad} (h : ¬ p.node = q.node) : ¬ gkey p = gkey q := fun e => h (congrArg (fun x => x.2.1) e)
theorem gk_par {p q : Grad} (h : ¬ tkey p.par = tkey q.par) : ¬ gkey p = gkey q := fun e => h (congrArg (fun x => x.2.2.1) e)
theorem gk_leaf {p q : Grad} (h : ¬ p.leaf.map tkey = q.leaf.map tkey) : ¬ gkey p = gkey q := fun e => h (congrArg (fun x => x.2.2.2) e)
theorem gk_eq {p q : Grad} (h1 : p.err = q.err) (h2 : p.node = q.node) (h3 : tkey p.par = tkey q.par) (h4 : p.leaf.map tkey = q.leaf.map tkey) : gkey p = gkey q := by
  unfold gkey; rw [h1, h2, h3, h4]
set_option maxHeartbeats 1000000 in
theorem Same63_ok (W : World) (F : List Chunk) (p q : Grad) (hX : GradX W p) (hY : GradX W q) :
    SLf Try.prog W 63 [.agg p.cells.toArray, .agg q.cells.toArray] F (fun v σ => v = .bool (decide (gkey p = gkey q)) ∧ σ = F) := by
  unfold Grad.cells
  refine SLf.enter Try.func63 rfl (Nat.le_of_ble_eq_true rfl) ?_
  (repeat' (first | (first | refine SLl.nil ?_ | ((show SLl _ _ _ _ _ (⟨⟨_, _, _, _, _, _⟩, _, _⟩ :: _) _ _ _); first | refine SLl.ev rfl rfl rfl rfl ?_ | ((show SLl _ _ _ _ _ (⟨⟨_, .load _ _, _, _, _, _⟩, _, _⟩ :: _) _ _ _); (refine SLl.rdSeq rfl rfl (Rd.load rfl rfl (by ((apply Reads.blk; (· (repeat (first | apply Sel.here | apply Sel.there))); (· rfl))))) ?_)) | ((show SLl _ _ _ _ _ (⟨⟨_, .fieldAddr _ _ _, _, _, _, _⟩, _, _⟩ :: _) _ _ _); (refine SLl.pu rfl rfl rfl (Pu.fieldAddr rfl) ?_)) | ((show SLl _ _ _ _ _ (⟨⟨_, .binOp _ _ _ _ _, _, _, _, _⟩, _, _⟩ :: _) _ _ _); ((refine SLl.cmp rfl rfl rfl rfl rfl rfl ?_ ?_ <;> intro hq <;> simp only [cmpP] at hq <;> try (fail)))) | ((show SLl _ _ _ _ _ (⟨⟨_, .box _ _, _, _, _, _⟩, _, _⟩ :: _) _ _ _); refine SLl.seq rfl rfl (SLo.boxC rfl (by (exact Cel.agg)) ?_); intro b) | refine SLl.skip rfl rfl ?_)) | (first | refine SLc.seq ?_ | refine SLc.region rfl ?_ | refine SLc.ret ?_)))
  · refine SLl.rdSeq rfl rfl (Rd.loadN (vs := [p.par.sv, p.par.dv]) rfl rfl (ReadsN.blkP 2 (.there .here) rfl) (by rfl)) ?_
    (repeat' ((((show SLl _ _ _ _ _ (⟨⟨_, _, _, _, _, _⟩, _, _⟩ :: _) _ _ _); ((show SLl _ _ _ _ _ (⟨⟨_, .fieldAddr _ _ _, _, _, _, _⟩, _, _⟩ :: _) _ _ _); (refine SLl.pu rfl rfl rfl (Pu.fieldAddr rfl) ?_))))))
    refine SLl.rdSeq rfl rfl (Rd.loadN (vs := [q.par.sv, q.par.dv]) rfl rfl (ReadsN.blkP 2 .here rfl) (by rfl)) ?_
    refine SLl.seq rfl rfl (SLo.call plain95 rfl (SLf.mono (TSame_ok W _ p.par q.par hX.p hY.p) ?_))
    rintro v σ ⟨rfl, rfl⟩
    by_cases hk : tkey p.par = tkey q.par
    · rw [decide_eq_true hk]
      (repeat' ((((show SLl _ _ _ _ _ (⟨⟨_, _, _, _, _, _⟩, _, _⟩ :: _) _ _ _); first | refine SLl.ev rfl rfl rfl rfl ?_ | ((show SLl _ _ _ _ _ (⟨⟨_, .load _ _, _, _, _, _⟩, _, _⟩ :: _) _ _ _); (refine SLl.rdSeq rfl rfl (Rd.load rfl rfl (by ((apply Reads.blk; (· (repeat (first | apply Sel.here | apply Sel.there))); (· rfl))))) ?_)) | ((show SLl _ _ _ _ _ (⟨⟨_, .fieldAddr _ _ _, _, _, _, _⟩, _, _⟩ :: _) _ _ _); (refine SLl.pu rfl rfl rfl (Pu.fieldAddr rfl) ?_))))))
      refine SLl.seq rfl rfl (SLo.call plain96 rfl (SLf.mono (EqF96_ok W _ _ _ p.leaf q.leaf (hX.l _) (hY.l _) hX.t hY.t hY.ll) ?_))
      rintro v σ ⟨rfl, rfl⟩
      (repeat' (first | (first | refine SLl.nil ?_ | ((show SLl _ _ _ _ _ (⟨⟨_, _, _, _, _, _⟩, _, _⟩ :: _) _ _ _); refine SLl.ev rfl rfl rfl rfl ?_)) | (refine SLc.ret ?_)))
      refine And.intro rfl (Exists.intro _ (Exists.intro F (And.intro rfl (And.intro (by (repeat' (first | exact Ent.refl | apply Ent.skip))) (And.intro ?_ rfl)))))
      by_cases hl : p.leaf.map tkey = q.leaf.map tkey
      · rw [decide_eq_true hl]; exact fin_t (gk_eq (by omega) (by omega) hk hl)
      · rw [decide_eq_false hl]; exact fin_f (gk_leaf hl)
    · rw [decide_eq_false hk]
      (repeat' (first | (first | refine SLl.nil ?_ | ((show SLl _ _ _ _ _ (⟨⟨_, _, _, _, _, _⟩, _, _⟩ :: _) _ _ _); first | refine SLl.ev rfl rfl rfl rfl ?_ | refine SLl.skip rfl rfl ?_)) | (refine SLc.ret ?_)))
      refine And.intro rfl (Exists.intro _ (Exists.intro F (And.intro rfl (And.intro (by (repeat' (first | exact Ent.refl | apply Ent.skip))) (And.intro (fin_f (gk_par hk)) rfl)))))
  · refine And.intro rfl (Exists.intro _ (Exists.intro F (And.intro rfl (And.intro (by (repeat' (first | exact Ent.refl | apply Ent.skip))) (And.intro (fin_f (gk_node (by omega))) rfl)))))
  · refine And.intro rfl (Exists.intro _ (Exists.intro F (And.intro rfl (And.intro (by (repeat' (first | exact Ent.refl | apply Ent.skip))) (And.intro (fin_f (gk_err (by omega))) rfl)))))
set_option maxHeartbeats 1000000 in
theorem SGrad64_ok (W : World) (F : List Chunk) (p q : Grad) (hX : GradX W p) (hY : GradX W q) :
    SLf Try.prog W 64 [.agg p.cells.toArray, .agg q.cells.toArray] F (fun v σ => v = .bool (decide (gkey p = gkey q)) ∧ σ = F) := by
  have hpl := hX.l F
  have hql := hY.l F
  have hal := @tcs_len p.leaf
  have hbl := @tcs_len q.leaf
  have hll := hY.ll
  unfold Grad.cells
  refine SLf.enter Try.func64 rfl (Nat.le_of_ble_eq_true rfl) ?_
  (repeat' (first | (first | refine SLl.nil ?_ | ((show SLl _ _ _ _ _ (⟨⟨_, _, _, _, _, _⟩, _, _⟩ :: _) _ _ _); first | refine SLl.ev rfl rfl rfl rfl ?_ | ((show SLl _ _ _ _ _ (⟨⟨_, .load _ _, _, _, _, _⟩, _, _⟩ :: _) _ _ _); (refine SLl.rdSeq rfl rfl (Rd.load rfl rfl (by ((apply Reads.blk; (· (repeat (first | apply Sel.here | apply Sel.there))); (· rfl))))) ?_)) | ((show SLl _ _ _ _ _ (⟨⟨_, .fieldAddr _ _ _, _, _, _, _⟩, _, _⟩ :: _) _ _ _); (refine SLl.pu rfl rfl rfl (Pu.fieldAddr rfl) ?_)) | ((show SLl _ _ _ _ _ (⟨⟨_, .binOp _ _ _ _ _, _, _, _, _⟩, _, _⟩ :: _) _ _ _); ((refine SLl.cmp rfl rfl rfl rfl rfl rfl ?_ ?_ <;> intro hq <;> simp only [cmpP] at hq <;> try (fail)))) | ((show SLl _ _ _ _ _ (⟨⟨_, .box _ _, _, _, _, _⟩, _, _⟩ :: _) _ _ _); refine SLl.seq rfl rfl (SLo.boxC rfl (by (exact Cel.agg)) ?_); intro b) | refine SLl.skip rfl rfl ?_)) | (first | refine SLc.seq ?_ | refine SLc.region rfl ?_ | refine SLc.condT rfl ?_ | refine SLc.ret ?_)))
  · refine And.intro rfl (Exists.intro _ (Exists.intro F (And.intro rfl (And.intro (by (repeat' (first | exact Ent.refl | apply Ent.skip))) (And.intro (fin_f (gk_node (by omega))) rfl)))))
  · refine And.intro rfl (Exists.intro _ (Exists.intro F (And.intro rfl (And.intro (by (repeat' (first | exact Ent.refl | apply Ent.skip))) (And.intro (fin_f (gk_err (by omega))) rfl)))))
  · refine SLl.rdSeq rfl rfl (Rd.loadN (vs := [p.par.sv, p.par.dv]) rfl rfl (ReadsN.blkP 2 (.there .here) rfl) (by rfl)) ?_
    (repeat' ((((show SLl _ _ _ _ _ (⟨⟨_, _, _, _, _, _⟩, _, _⟩ :: _) _ _ _); ((show SLl _ _ _ _ _ (⟨⟨_, .fieldAddr _ _ _, _, _, _, _⟩, _, _⟩ :: _) _ _ _); (refine SLl.pu rfl rfl rfl (Pu.fieldAddr rfl) ?_))))))
    refine SLl.rdSeq rfl rfl (Rd.loadN (vs := [q.par.sv, q.par.dv]) rfl rfl (ReadsN.blkP 2 .here rfl) (by rfl)) ?_
    refine SLl.seq rfl rfl (SLo.call plain97 rfl (SLf.mono (STen97_ok W _ p.par q.par hX.p hY.p) ?_))
    rintro v σ ⟨rfl, rfl⟩
    by_cases hk : tkey p.par = tkey q.par
    · rw [decide_eq_true hk]
      obtain ⟨b3, hb3⟩ : ∃ x, x = b := ⟨_, rfl⟩
      subst hb3
      (repeat' (first | (first | refine SLl.nil ?_ | ((show SLl _ _ _ _ _ (⟨⟨_, _, _, _, _, _⟩, _, _⟩ :: _) _ _ _); first | refine SLl.ev rfl rfl rfl rfl ?_ | ((show SLl _ _ _ _ _ (⟨⟨_, .load _ _, _, _, _, _⟩, _, _⟩ :: _) _ _ _); (refine SLl.rdSeq rfl rfl (Rd.load rfl rfl (by ((apply Reads.blk; (· (repeat (first | apply Sel.here | apply Sel.there))); (· rfl))))) ?_)) | ((show SLl _ _ _ _ _ (⟨⟨_, .fieldAddr _ _ _, _, _, _, _⟩, _, _⟩ :: _) _ _ _); (refine SLl.pu rfl rfl rfl (Pu.fieldAddr rfl) ?_)) | ((show SLl _ _ _ _ _ (⟨⟨_, .call ⟨.builtin .len, _, _⟩, _, _, _, _⟩, _, _⟩ :: _) _ _ _); refine SLl.rdSeq rfl rfl (Rd.len rfl (by ((apply Len.rs; exact Rs.mono (by assumption) (by (repeat' (first | exact Ent.refl | apply Ent.skip))))))) ?_) | ((show SLl _ _ _ _ _ (⟨⟨_, .binOp _ _ _ _ _, _, _, _, _⟩, _, _⟩ :: _) _ _ _); ((refine SLl.cmp rfl rfl rfl rfl rfl rfl ?_ ?_ <;> intro hq <;> simp only [cmpP] at hq <;> try (fail)))))) | (first | refine SLc.seq ?_ | refine SLc.region rfl ?_ | refine SLc.condT rfl ?_ | refine SLc.condF rfl ?_ | refine SLc.block ?_ | refine SLc.skip ?_ | refine SLc.ret ?_)))
      · refine And.intro rfl (Exists.intro _ (Exists.intro F (And.intro rfl (And.intro (by (repeat' (first | exact Ent.refl | apply Ent.skip))) (And.intro (fin_f (gk_leaf (map_len_ne (by omega)))) rfl)))))
      · refine SLc.abst fun σ1 hσ1 => ?_
        have he : Ent σ1 F := .trans hσ1 (by (repeat' (first | exact Ent.refl | apply Ent.skip)))
        have hp0 : Reads W σ1 ⟨_, 0, none⟩ p.lv := (Reads.blk (.there .here) rfl).mono hσ1
        have hq0 : Reads W σ1 ⟨b3, 0, none⟩ q.lv := (Reads.blk .here rfl).mono hσ1
        have hpl1 : Rs W σ1 p.lv 2 (tcs p.leaf) := hX.l _
        have hql1 : Rs W σ1 q.lv 2 (tcs q.leaf) := hY.l _
        refine SLc.loop (ι := Nat) (fun k => [(5, .int .i64 k), (3, .pointer (some ⟨b3, 0, none⟩)), (2, .pointer (some ⟨_, 0, none⟩))]) (fun _ => σ1) (fun k => k ≤ p.leaf.length ∧ ∀ i, i < k → (p.leaf.map tkey)[i]? = (q.leaf.map tkey)[i]?) (fun k => p.leaf.length - k) 0 ⟨Nat.zero_le _, by omega⟩ ⟨rfl, rfl, rfl, trivial⟩ .refl ?_
        rintro k ⟨hk2, heq⟩
        by_cases hlt : k < p.leaf.length
        · have hx : p.leaf[k]? = some p.leaf[k] := List.getElem?_eq_getElem hlt
          have hy : q.leaf[k]? = some (q.leaf[k]'(by omega)) := List.getElem?_eq_getElem (by omega)
          have hxx := hX.t _ (List.mem_of_getElem? hx)
          have hyx := hY.t _ (List.mem_of_getElem? hy)
          generalize p.leaf[k] = x at hx hxx
          generalize q.leaf[k]'(by omega) = y at hy hyx
          have hxc := tcs_at hx
          have hyc := tcs_at hy
          (repeat' (first | (first | refine SLl.nil ?_ | ((show SLl _ _ _ _ _ (⟨⟨_, _, _, _, _, _⟩, _, _⟩ :: _) _ _ _); first | refine SLl.ev rfl rfl rfl rfl ?_ | ((show SLl _ _ _ _ _ (⟨⟨_, .load _ _, _, _, _, _⟩, _, _⟩ :: _) _ _ _); (refine SLl.rdSeq rfl rfl (Rd.load rfl rfl (by (exact Reads.mono (by assumption) (by (repeat' (exact Ent.refl)))))) ?_)) | ((show SLl _ _ _ _ _ (⟨⟨_, .fieldAddr _ _ _, _, _, _, _⟩, _, _⟩ :: _) _ _ _); (refine SLl.pu rfl rfl rfl (Pu.fieldAddr rfl) ?_)) | ((show SLl _ _ _ _ _ (⟨⟨_, .call ⟨.builtin .len, _, _⟩, _, _, _, _⟩, _, _⟩ :: _) _ _ _); refine SLl.rdSeq rfl rfl (Rd.len rfl (by ((apply Len.rs; exact Rs.mono (by assumption) (by (repeat' (exact Ent.refl))))))) ?_) | ((show SLl _ _ _ _ _ (⟨⟨_, .binOp _ _ _ _ _, _, _, _, _⟩, _, _⟩ :: _) _ _ _); ((refine SLl.cmp rfl rfl rfl rfl rfl rfl ?_ ?_ <;> intro hq <;> simp only [cmpP] at hq <;> try ((exfalso; omega))))))) | (first | refine SLc.seq ?_ | refine SLc.region rfl ?_ | refine SLc.condT rfl ?_ | refine SLc.block ?_ | refine SLc.skip ?_)))
          refine SLc.draws σ1 [(0, .take), (1, .take), (2, .take), (3, .take), (4, .take), (5, .take), (6, .take), (7, .take), (8, .take), (9, .take), (10, .eff true), (11, .take)] mixed (by kernel_rfl) .refl ?_
          (repeat' ((((show SLl _ _ _ _ _ (⟨⟨_, _, _, _, _, _⟩, _, _⟩ :: _) _ _ _); first | refine SLl.ev rfl rfl rfl rfl ?_ | ((show SLl _ _ _ _ _ (⟨⟨_, .load _ _, _, _, _, _⟩, _, _⟩ :: _) _ _ _); (first | refine SLl.rdTake rfl rfl (Rd.load rfl rfl (by (first | (apply Reads.rs; (· exact Rs.mono (by assumption) (by (repeat' (exact Ent.refl)))); (· (assumption)); (· rfl)) | exact Reads.mono (by assumption) (by (repeat' (exact Ent.refl)))))) ?_ | refine SLl.rdTake rfl rfl (Rd.loadN rfl rfl (by ((apply ReadsN.rs0; (· exact Rs.mono (by assumption) (by (repeat' (exact Ent.refl)))); (· (assumption))))) (by rfl)) ?_)) | ((show SLl _ _ _ _ _ (⟨⟨_, .fieldAddr _ _ _, _, _, _, _⟩, _, _⟩ :: _) _ _ _); (refine SLl.pu rfl rfl rfl (Pu.fieldAddr rfl) ?_)) | ((show SLl _ _ _ _ _ (⟨⟨_, .indexAddr _ _ _, _, _, _, _⟩, _, _⟩ :: _) _ _ _); (refine SLl.rdTake rfl rfl (Rd.indexAddr rfl rfl (by ((apply Len.rs; exact Rs.mono (by assumption) (by (repeat' (exact Ent.refl)))))) (by (rfl)) (by omega)) ?_))))))
          refine SLl.eff rfl rfl (SLo.call plain97 rfl (SLf.mono (STen97_ok W _ x y hxx hyx) ?_))
          rintro v σ ⟨rfl, rfl⟩
          refine And.intro (fun _ => .refl) ?_
          by_cases hxy : tkey x = tkey y
          · rw [decide_eq_true hxy]
            (repeat' (first | (first | refine SLl.nil ?_ | ((show SLl _ _ _ _ _ (⟨⟨_, _, _, _, _, _⟩, _, _⟩ :: _) _ _ _); first | refine SLl.ev rfl rfl rfl rfl ?_ | ((show SLl _ _ _ _ _ (⟨⟨_, .binOp _ _ _ _ _, _, _, _, _⟩, _, _⟩ :: _) _ _ _); (refine SLl.pu rfl rfl rfl (Pu.add rfl rfl (IntWalk.i64_in _ (by omega))) ?_)))) | (first | refine SLc.region rfl ?_ | refine SLc.condF rfl ?_ | refine SLc.skip ?_)))
            (repeat' (fail))
            refine And.intro rfl (Exists.intro (k + 1) (And.intro ⟨by omega, map_step hx hy hxy heq⟩ (And.intro (by omega) (And.intro (by (repeat' (first | exact trivial | apply And.intro | rfl))) .refl))))
          · rw [decide_eq_false hxy]
            (repeat' (first | (first | refine SLl.nil ?_ | ((show SLl _ _ _ _ _ (⟨⟨_, _, _, _, _, _⟩, _, _⟩ :: _) _ _ _); refine SLl.ev rfl rfl rfl rfl ?_)) | (first | refine SLc.seq ?_ | refine SLc.region rfl ?_ | refine SLc.condT rfl ?_ | refine SLc.ret ?_)))
            (repeat' (fail))
            refine And.intro rfl (Exists.intro _ (Exists.intro F (And.intro rfl (And.intro he (And.intro (fin_f (gk_leaf (map_ne_of hx hy hxy))) rfl)))))
        · (repeat' (first | (first | refine SLl.nil ?_ | ((show SLl _ _ _ _ _ (⟨⟨_, _, _, _, _, _⟩, _, _⟩ :: _) _ _ _); first | refine SLl.ev rfl rfl rfl rfl ?_ | ((show SLl _ _ _ _ _ (⟨⟨_, .load _ _, _, _, _, _⟩, _, _⟩ :: _) _ _ _); (refine SLl.rdSeq rfl rfl (Rd.load rfl rfl (by (exact Reads.mono (by assumption) (by (repeat' (exact Ent.refl)))))) ?_)) | ((show SLl _ _ _ _ _ (⟨⟨_, .fieldAddr _ _ _, _, _, _, _⟩, _, _⟩ :: _) _ _ _); (refine SLl.pu rfl rfl rfl (Pu.fieldAddr rfl) ?_)) | ((show SLl _ _ _ _ _ (⟨⟨_, .call ⟨.builtin .len, _, _⟩, _, _, _, _⟩, _, _⟩ :: _) _ _ _); refine SLl.rdSeq rfl rfl (Rd.len rfl (by ((apply Len.rs; exact Rs.mono (by assumption) (by (repeat' (exact Ent.refl))))))) ?_) | ((show SLl _ _ _ _ _ (⟨⟨_, .binOp _ _ _ _ _, _, _, _, _⟩, _, _⟩ :: _) _ _ _); ((refine SLl.cmp rfl rfl rfl rfl rfl rfl ?_ ?_ <;> intro hq <;> simp only [cmpP] at hq <;> try ((exfalso; omega))))))) | (first | refine SLc.seq ?_ | refine SLc.region rfl ?_ | refine SLc.condF rfl ?_ | refine SLc.exit ?_ | refine SLc.ret ?_)))
          refine And.intro rfl (Exists.intro _ (Exists.intro F (And.intro rfl (And.intro he (And.intro (fin_t (gk_eq (by omega) (by omega) hk (map_eq_of hlt (by omega) heq))) rfl)))))
    · rw [decide_eq_false hk]
      (repeat' (first | (first | refine SLl.nil ?_ | ((show SLl _ _ _ _ _ (⟨⟨_, _, _, _, _, _⟩, _, _⟩ :: _) _ _ _); first | refine SLl.ev rfl rfl rfl rfl ?_ | refine SLl.skip rfl rfl ?_)) | (first | refine SLc.seq ?_ | refine SLc.region rfl ?_ | refine SLc.condT rfl ?_ | refine SLc.ret ?_)))
      refine And.intro rfl (Exists.intro _ (Exists.intro F (And.intro rfl (And.intro (by (repeat' (first | exact Ent.refl | apply Ent.skip))) (And.intro (fin_f (gk_par hk)) rfl)))))
theorem Back65_ok (W : World) (F : List Chunk) (p : Grad) (hX : GradX W p) : SLf Try.prog W 65 [.agg p.cells.toArray] F (fun v σ => v = .agg p.cells.toArray ∧ σ = F) := by
  have o1 : One W F p.lv := One.lit hX.lo
  have o2 : One W F p.par.sv := One.lit hX.p.so
  have o3 : One W F p.par.dv := One.lit hX.p.dO
  unfold Grad.cells
  refine SLf.enterC Try.func65 rfl (Nat.le_of_ble_eq_true rfl) ?_
  (repeat' (first | (first | refine SLl.nil ?_ | ((show SLl _ _ _ _ _ (⟨⟨_, _, _, _, _, _⟩, _, _⟩ :: _) _ _ _); first | ((show SLl _ _ _ _ _ (⟨⟨_, .load _ _, _, _, _, _⟩, _, _⟩ :: _) _ _ _); (refine SLl.rdSeq rfl rfl (Rd.load rfl rfl (by ((apply Reads.blk; (· (repeat (first | apply Sel.here | apply Sel.there))); (· rfl))))) ?_)) | ((show SLl _ _ _ _ _ (⟨⟨_, .fieldAddr _ _ _, _, _, _, _⟩, _, _⟩ :: _) _ _ _); (refine SLl.pu rfl rfl rfl (Pu.fieldAddr rfl) ?_)) | ((show SLl _ _ _ _ _ (⟨⟨_, .box _ _, _, _, _, _⟩, _, _⟩ :: _) _ _ _); refine SLl.seq rfl rfl (SLo.boxC rfl (by (exact Cel.agg)) ?_); intro b) | ((show SLl _ _ _ _ _ (⟨⟨_, .alloc _, _, _, _, _⟩, _, _⟩ :: _) _ _ _); refine SLl.seq rfl rfl (SLo.alloc ?_); intro b))) | (first | refine SLc.seq ?_ | refine SLc.region rfl ?_)))
  refine SLl.rdSeq rfl rfl (Rd.loadN (vs := [p.par.sv, p.par.dv]) rfl rfl (ReadsN.blkP 2 (.there .here) rfl) (by rfl)) ?_
  (repeat' (first | (first | refine SLl.nil ?_ | ((show SLl _ _ _ _ _ (⟨⟨_, _, _, _, _, _⟩, _, _⟩ :: _) _ _ _); first | ((show SLl _ _ _ _ _ (⟨⟨_, .load _ _, _, _, _, _⟩, _, _⟩ :: _) _ _ _); (refine SLl.rdSeq rfl rfl (Rd.load rfl rfl (by ((apply Reads.blk; (· (repeat (first | apply Sel.here | apply Sel.there))); (· rfl))))) ?_)) | ((show SLl _ _ _ _ _ (⟨⟨_, .fieldAddr _ _ _, _, _, _, _⟩, _, _⟩ :: _) _ _ _); (refine SLl.pu rfl rfl rfl (Pu.fieldAddr rfl) ?_)) | ((show SLl _ _ _ _ _ (⟨⟨_, .store _ _ _, _, _, _, _⟩, _, _⟩ :: _) _ _ _); ((refine SLl.seq0 rfl (SLo.storeN rfl rfl rfl (by (repeat' (first | exact trivial | (apply And.intro; (· (first | exact One.lit rfl | exact One.mono (by assumption) (by (repeat' (first | exact Ent.refl | apply Ent.skip))))))))) (Nat.le_of_ble_eq_true rfl) (by (repeat (apply Upd.here))) ?_)))) | ((show SLl _ _ _ _ _ (⟨⟨_, .build _ _, _, _, _, _⟩, _, _⟩ :: _) _ _ _); refine SLl.rdSeq rfl rfl (Rd.build rfl (by (repeat (first | exact CellsW.nil | (apply CellsW.cons; (· (first | exact Cel.one (by (first | exact One.lit rfl | exact One.mono (by assumption) (by (repeat' (first | exact Ent.refl | apply Ent.skip))))) | exact Cel.agg)))))) (by rfl)) ?_))) | (refine SLc.ret ?_)))
  refine And.intro rfl (Exists.intro _ (Exists.intro F (And.intro (ResW.cell ty92 rfl rfl (ReadsN.blk0 .here) rfl ResW.nil) (And.intro (by (repeat' (first | exact Ent.refl | apply Ent.skip))) (And.intro rfl rfl)))))
end Go.Sl
