/- Tensors and gradients, compared. -/
import Derived.Test.YtloeicnadchkpaaMBits
namespace Go.Sl
open Go.Proofs
attribute [local irreducible] SLc SLl SLo SLf Pu Rd

theorem fin_t {p : Prop} [Decidable p] (h : p) : Value.bool true = .bool (decide p) := by rw [decide_eq_true h]
theorem fin_f {p : Prop} [Decidable p] (h : ¬ p) : Value.bool false = .bool (decide p) := by rw [decide_eq_false h]
def flt (l : List Nat) : List (List Value) := l.map fun b => [.float .f64 b]
theorem flt_at {l : List Nat} {k x : Nat} (h : l[k]? = some x) : (flt l)[k]? = some [.float .f64 x] := by simp [flt, h]
theorem flt_len {l : List Nat} : (flt l).length = l.length := by simp [flt]
structure Ten where
  sv : Value
  shp : List Int
  dv : Value
  dat : List Nat
def Ten.cells (t : Ten) : List Value := [t.sv, t.dv]
def tkey (t : Ten) : List Int × List Int := (t.shp, t.dat.map fbits)
structure TenX (W : World) (t : Ten) : Prop where
  s : ∀ σ, Rs W σ t.sv 1 (ints t.shp)
  d : ∀ σ, Rs W σ t.dv 1 (flt t.dat)
  sl : t.shp.length ≤ 140737488355328
  dl : t.dat.length ≤ 140737488355328
  so : t.sv.oneCell' = true
  dO : t.dv.oneCell' = true
def tcs (l : List Ten) : List (List Value) := l.map Ten.cells
theorem tcs_at {l : List Ten} {k : Nat} {x : Ten} (h : l[k]? = some x) : (tcs l)[k]? = some [x.sv, x.dv] := by simp [tcs, Ten.cells, h]
theorem tcs_len {l : List Ten} : (tcs l).length = l.length := by simp [tcs]
theorem map_eq_of {α β : Type} {f : α → β} {a b : List α} {k : Nat} (hk : ¬ k < a.length) (hl : a.length = b.length) (h : ∀ i, i < k → (a.map f)[i]? = (b.map f)[i]?) : a.map f = b.map f := List.ext_getElem? fun i => by
  rcases Nat.lt_or_ge i k with h' | h'
  · exact h i h'
  · rw [List.getElem?_eq_none (by simp; omega), List.getElem?_eq_none (by simp; omega)]
theorem map_ne_of {α β : Type} {f : α → β} {a b : List α} {k : Nat} {x y : α} (hx : a[k]? = some x) (hy : b[k]? = some y) (h : f x ≠ f y) : a.map f ≠ b.map f := fun e => by
  have := congrArg (fun l : List β => l[k]?) e
  simp [hx, hy] at this
  exact h this
theorem map_step {α β : Type} {f : α → β} {a b : List α} {k : Nat} {x y : α} (hx : a[k]? = some x) (hy : b[k]? = some y) (h : f x = f y) (hp : ∀ i, i < k → (a.map f)[i]? = (b.map f)[i]?) : ∀ i, i < k + 1 → (a.map f)[i]? = (b.map f)[i]? := fun i hi => by
  by_cases e : i = k
  · subst e; simp [hx, hy, h]
  · exact hp i (by omega)
theorem map_len_ne {α β : Type} {f : α → β} {a b : List α} (h : a.length ≠ b.length) : a.map f ≠ b.map f := fun e => h (by simpa using congrArg List.length e)
theorem EqF101_ok (W : World) (F : List Chunk) (av bv : Value) (a b : List Nat) (ha : Rs W F av 1 (flt a)) (hb : Rs W F bv 1 (flt b)) (hlb : b.length ≤ 140737488355328) :
    SLf Try.prog W 101 [av, bv, .func (.func 102) #[] #[]] F (fun v σ => v = .bool (decide (a.map fbits = b.map fbits)) ∧ σ = F) := by
  have hal := @flt_len a
  have hbl := @flt_len b
  refine SLf.enter Try.func101 rfl (Nat.le_of_ble_eq_true rfl) ?_
  (repeat' (first | (first | refine SLl.nil ?_ | ((show SLl _ _ _ _ _ (⟨⟨_, _, _, _, _, _⟩, _, _⟩ :: _) _ _ _); first | refine SLl.ev rfl rfl rfl rfl ?_ | ((show SLl _ _ _ _ _ (⟨⟨_, .call ⟨.builtin .len, _, _⟩, _, _, _, _⟩, _, _⟩ :: _) _ _ _); refine SLl.rdSeq rfl rfl (Rd.len rfl (by ((apply Len.rs; exact Rs.mono (by assumption) (by (repeat' (exact Ent.refl))))))) ?_) | ((show SLl _ _ _ _ _ (⟨⟨_, .binOp _ _ _ _ _, _, _, _, _⟩, _, _⟩ :: _) _ _ _); ((refine SLl.cmp rfl rfl rfl rfl rfl rfl ?_ ?_ <;> intro hq <;> simp only [cmpP] at hq <;> try (fail)))))) | (first | refine SLc.seq ?_ | refine SLc.region rfl ?_ | refine SLc.condT rfl ?_ | refine SLc.condF rfl ?_ | refine SLc.block ?_ | refine SLc.skip ?_ | refine SLc.ret ?_)))
  · have hne : a.map fbits ≠ b.map fbits := map_len_ne (by omega)
    refine And.intro rfl (Exists.intro _ (Exists.intro _ (And.intro rfl (And.intro .refl (And.intro (fin_f hne) rfl)))))
  · refine SLc.loop (ι := Nat) (fun k => [(17, .int .i64 k), (16, .int .i64 (flt a).length), (15, av), (2, .func (.func 102) #[] #[]), (1, bv), (0, av)]) (fun _ => F) (fun k => k ≤ a.length ∧ ∀ i, i < k → (a.map fbits)[i]? = (b.map fbits)[i]?) (fun k => a.length - k) 0 ⟨Nat.zero_le _, by omega⟩ (by (repeat' (first | exact trivial | apply And.intro | rfl))) .refl ?_
    rintro k ⟨hk, heq⟩
    by_cases hlt : k < a.length
    · have hx : a[k]? = some a[k] := List.getElem?_eq_getElem hlt
      have hy : b[k]? = some (b[k]'(by omega)) := List.getElem?_eq_getElem (by omega)
      generalize a[k] = x at hx
      generalize b[k]'(by omega) = y at hy
      have hxc := flt_at hx
      have hyc := flt_at hy
      (repeat' (first | (first | refine SLl.nil ?_ | ((show SLl _ _ _ _ _ (⟨⟨_, _, _, _, _, _⟩, _, _⟩ :: _) _ _ _); first | refine SLl.ev rfl rfl rfl rfl ?_ | ((show SLl _ _ _ _ _ (⟨⟨_, .load _ _, _, _, _, _⟩, _, _⟩ :: _) _ _ _); (refine SLl.rdSeq rfl rfl (Rd.load rfl rfl (by ((apply Reads.rs; (· exact Rs.mono (by assumption) (by (repeat' (exact Ent.refl)))); (· (assumption)); (· rfl))))) ?_)) | ((show SLl _ _ _ _ _ (⟨⟨_, .indexAddr _ _ _, _, _, _, _⟩, _, _⟩ :: _) _ _ _); (refine SLl.rdSeq rfl rfl (Rd.indexAddr rfl rfl (by ((apply Len.rs; exact Rs.mono (by assumption) (by (repeat' (exact Ent.refl)))))) (by (rfl)) (by omega)) ?_)) | ((show SLl _ _ _ _ _ (⟨⟨_, .binOp _ _ _ _ _, _, _, _, _⟩, _, _⟩ :: _) _ _ _); ((refine SLl.cmp rfl rfl rfl rfl rfl rfl ?_ ?_ <;> intro hq <;> simp only [cmpP] at hq <;> try ((exfalso; omega))))))) | (first | refine SLc.seq ?_ | refine SLc.region rfl ?_ | refine SLc.condT rfl ?_ | refine SLc.block ?_ | refine SLc.skip ?_)))
      refine SLl.seq rfl rfl (SLo.callV (a1 := []) plain102 rfl rfl (SLf.mono (FSame102_ok W _ x y) ?_))
      rintro v σ ⟨rfl, rfl⟩
      by_cases hxy : fbits x = fbits y
      · rw [decide_eq_true hxy]
        (repeat' (first | (first | refine SLl.nil ?_ | ((show SLl _ _ _ _ _ (⟨⟨_, _, _, _, _, _⟩, _, _⟩ :: _) _ _ _); first | refine SLl.ev rfl rfl rfl rfl ?_ | ((show SLl _ _ _ _ _ (⟨⟨_, .binOp _ _ _ _ _, _, _, _, _⟩, _, _⟩ :: _) _ _ _); (refine SLl.pu rfl rfl rfl (Pu.add rfl rfl (IntWalk.i64_in _ (by omega))) ?_)))) | (first | refine SLc.region rfl ?_ | refine SLc.condF rfl ?_ | refine SLc.skip ?_)))
        refine And.intro rfl (Exists.intro (k + 1) (And.intro ⟨by omega, map_step hx hy hxy heq⟩ (And.intro (by omega) (And.intro (by (repeat' (first | exact trivial | apply And.intro | rfl))) .refl))))
      · rw [decide_eq_false hxy]
        (repeat' (first | (first | refine SLl.nil ?_ | ((show SLl _ _ _ _ _ (⟨⟨_, _, _, _, _, _⟩, _, _⟩ :: _) _ _ _); refine SLl.ev rfl rfl rfl rfl ?_)) | (first | refine SLc.seq ?_ | refine SLc.region rfl ?_ | refine SLc.condT rfl ?_ | refine SLc.ret ?_)))
        refine And.intro rfl (Exists.intro _ (Exists.intro _ (And.intro rfl (And.intro .refl (And.intro (fin_f (map_ne_of hx hy hxy)) rfl)))))
    · (repeat' (first | (first | refine SLl.nil ?_ | ((show SLl _ _ _ _ _ (⟨⟨_, _, _, _, _, _⟩, _, _⟩ :: _) _ _ _); first | refine SLl.ev rfl rfl rfl rfl ?_ | ((show SLl _ _ _ _ _ (⟨⟨_, .binOp _ _ _ _ _, _, _, _, _⟩, _, _⟩ :: _) _ _ _); ((refine SLl.cmp rfl rfl rfl rfl rfl rfl ?_ ?_ <;> intro hq <;> simp only [cmpP] at hq <;> try ((exfalso; omega))))))) | (first | refine SLc.seq ?_ | refine SLc.region rfl ?_ | refine SLc.condF rfl ?_ | refine SLc.exit ?_ | refine SLc.ret ?_)))
      refine And.intro rfl (Exists.intro _ (Exists.intro _ (And.intro rfl (And.intro .refl (And.intro (fin_t (map_eq_of hlt (by omega) heq)) rfl)))))
theorem TSame_ok (W : World) (F : List Chunk) (p q : Ten) (hp : TenX W p) (hq : TenX W q) :
    SLf Try.prog W 95 [.agg #[p.sv, p.dv], .agg #[q.sv, q.dv]] F (fun v σ => v = .bool (decide (tkey p = tkey q)) ∧ σ = F) := by
  refine SLf.enter Try.func95 rfl (Nat.le_of_ble_eq_true rfl) ?_
  (repeat' (first | (first | refine SLl.nil ?_ | ((show SLl _ _ _ _ _ (⟨⟨_, _, _, _, _, _⟩, _, _⟩ :: _) _ _ _); first | refine SLl.ev rfl rfl rfl rfl ?_ | ((show SLl _ _ _ _ _ (⟨⟨_, .load _ _, _, _, _, _⟩, _, _⟩ :: _) _ _ _); (refine SLl.rdSeq rfl rfl (Rd.load rfl rfl (by ((apply Reads.blk; (· (repeat (first | apply Sel.here | apply Sel.there))); (· rfl))))) ?_)) | ((show SLl _ _ _ _ _ (⟨⟨_, .fieldAddr _ _ _, _, _, _, _⟩, _, _⟩ :: _) _ _ _); (refine SLl.pu rfl rfl rfl (Pu.fieldAddr rfl) ?_)) | ((show SLl _ _ _ _ _ (⟨⟨_, .box _ _, _, _, _, _⟩, _, _⟩ :: _) _ _ _); refine SLl.seq rfl rfl (SLo.boxC rfl (by (exact Cel.agg)) ?_); intro b))) | (first | refine SLc.seq ?_ | refine SLc.region rfl ?_)))
  refine SLl.seq rfl rfl (SLo.call plain100 rfl (SLf.mono (ShapeSame_ok W _ _ _ p.shp q.shp (hp.s _) (hq.s _) hq.sl) ?_))
  rintro v σ ⟨rfl, rfl⟩
  by_cases hs : p.shp = q.shp
  · rw [decide_eq_true hs]
    (repeat' ((((show SLl _ _ _ _ _ (⟨⟨_, _, _, _, _, _⟩, _, _⟩ :: _) _ _ _); first | refine SLl.ev rfl rfl rfl rfl ?_ | ((show SLl _ _ _ _ _ (⟨⟨_, .load _ _, _, _, _, _⟩, _, _⟩ :: _) _ _ _); (refine SLl.rdSeq rfl rfl (Rd.load rfl rfl (by ((apply Reads.blk; (· (repeat (first | apply Sel.here | apply Sel.there))); (· rfl))))) ?_)) | ((show SLl _ _ _ _ _ (⟨⟨_, .fieldAddr _ _ _, _, _, _, _⟩, _, _⟩ :: _) _ _ _); (refine SLl.pu rfl rfl rfl (Pu.fieldAddr rfl) ?_))))))
    refine SLl.seq rfl rfl (SLo.call plain101 rfl (SLf.mono (EqF101_ok W _ _ _ p.dat q.dat (hp.d _) (hq.d _) hq.dl) ?_))
    rintro v σ ⟨rfl, rfl⟩
    (repeat' (first | (first | refine SLl.nil ?_ | ((show SLl _ _ _ _ _ (⟨⟨_, _, _, _, _, _⟩, _, _⟩ :: _) _ _ _); refine SLl.ev rfl rfl rfl rfl ?_)) | (refine SLc.ret ?_)))
    refine And.intro rfl (Exists.intro _ (Exists.intro F (And.intro rfl (And.intro (by (repeat' (first | exact Ent.refl | apply Ent.skip))) (And.intro ?_ rfl)))))
    by_cases hd : p.dat.map fbits = q.dat.map fbits
    · rw [decide_eq_true hd]; exact fin_t (Prod.ext hs hd)
    · rw [decide_eq_false hd]; exact fin_f fun e => hd (congrArg Prod.snd e)
  · rw [decide_eq_false hs]
    (repeat' (first | (first | refine SLl.nil ?_ | ((show SLl _ _ _ _ _ (⟨⟨_, _, _, _, _, _⟩, _, _⟩ :: _) _ _ _); first | refine SLl.ev rfl rfl rfl rfl ?_ | refine SLl.skip rfl rfl ?_)) | (refine SLc.ret ?_)))
    refine And.intro rfl (Exists.intro _ (Exists.intro F (And.intro rfl (And.intro (by (repeat' (first | exact Ent.refl | apply Ent.skip))) (And.intro (fin_f fun e => hs (congrArg Prod.fst e)) rfl)))))
theorem EqF96_ok (W : World) (F : List Chunk) (av bv : Value) (a b : List Ten) (ha : Rs W F av 2 (tcs a)) (hb : Rs W F bv 2 (tcs b)) (hax : ∀ t ∈ a, TenX W t) (hbx : ∀ t ∈ b, TenX W t) (hlb : b.length ≤ 140737488355328) :
    SLf Try.prog W 96 [av, bv, .func (.func 95) #[] #[]] F (fun v σ => v = .bool (decide (a.map tkey = b.map tkey)) ∧ σ = F) := by
  have hal := @tcs_len a
  have hbl := @tcs_len b
  refine SLf.enter Try.func96 rfl (Nat.le_of_ble_eq_true rfl) ?_
  (repeat' (first | (first | refine SLl.nil ?_ | ((show SLl _ _ _ _ _ (⟨⟨_, _, _, _, _, _⟩, _, _⟩ :: _) _ _ _); first | refine SLl.ev rfl rfl rfl rfl ?_ | ((show SLl _ _ _ _ _ (⟨⟨_, .call ⟨.builtin .len, _, _⟩, _, _, _, _⟩, _, _⟩ :: _) _ _ _); refine SLl.rdSeq rfl rfl (Rd.len rfl (by ((apply Len.rs; exact Rs.mono (by assumption) (by (repeat' (exact Ent.refl))))))) ?_) | ((show SLl _ _ _ _ _ (⟨⟨_, .binOp _ _ _ _ _, _, _, _, _⟩, _, _⟩ :: _) _ _ _); ((refine SLl.cmp rfl rfl rfl rfl rfl rfl ?_ ?_ <;> intro hq <;> simp only [cmpP] at hq <;> try (fail)))))) | (first | refine SLc.seq ?_ | refine SLc.region rfl ?_ | refine SLc.condT rfl ?_ | refine SLc.condF rfl ?_ | refine SLc.block ?_ | refine SLc.skip ?_ | refine SLc.ret ?_)))
  · have hne : a.map tkey ≠ b.map tkey := map_len_ne (by omega)
    refine And.intro rfl (Exists.intro _ (Exists.intro _ (And.intro rfl (And.intro .refl (And.intro (fin_f hne) rfl)))))
  · refine SLc.loop (ι := Nat) (fun k => [(17, .int .i64 k), (16, .int .i64 (tcs a).length), (15, av), (2, .func (.func 95) #[] #[]), (1, bv), (0, av)]) (fun _ => F) (fun k => k ≤ a.length ∧ ∀ i, i < k → (a.map tkey)[i]? = (b.map tkey)[i]?) (fun k => a.length - k) 0 ⟨Nat.zero_le _, by omega⟩ (by (repeat' (first | exact trivial | apply And.intro | rfl))) .refl ?_
    rintro k ⟨hk, heq⟩
    by_cases hlt : k < a.length
    · have hx : a[k]? = some a[k] := List.getElem?_eq_getElem hlt
      have hy : b[k]? = some (b[k]'(by omega)) := List.getElem?_eq_getElem (by omega)
      have hxx := hax _ (List.mem_of_getElem? hx)
      have hyx := hbx _ (List.mem_of_getElem? hy)
      generalize a[k] = x at hx hxx
      generalize b[k]'(by omega) = y at hy hyx
      have hxc := tcs_at hx
      have hyc := tcs_at hy
      have o1 : One W F x.sv := One.lit hxx.so
      have o2 : One W F x.dv := One.lit hxx.dO
      have o3 : One W F y.sv := One.lit hyx.so
      have o4 : One W F y.dv := One.lit hyx.dO
      (repeat' (first | (first | refine SLl.nil ?_ | ((show SLl _ _ _ _ _ (⟨⟨_, _, _, _, _, _⟩, _, _⟩ :: _) _ _ _); first | refine SLl.ev rfl rfl rfl rfl ?_ | ((show SLl _ _ _ _ _ (⟨⟨_, .load _ _, _, _, _, _⟩, _, _⟩ :: _) _ _ _); (refine SLl.rdSeq rfl rfl (Rd.loadN rfl rfl (by (first | (apply ReadsN.blk0; (· (repeat (first | apply Sel.here | apply Sel.there)))) | (apply ReadsN.rs0; (· exact Rs.mono (by assumption) (by (repeat' (first | exact Ent.refl | apply Ent.skip)))); (· (assumption))))) (by rfl)) ?_)) | ((show SLl _ _ _ _ _ (⟨⟨_, .indexAddr _ _ _, _, _, _, _⟩, _, _⟩ :: _) _ _ _); (refine SLl.rdSeq rfl rfl (Rd.indexAddr rfl rfl (by ((apply Len.rs; exact Rs.mono (by assumption) (by (repeat' (first | exact Ent.refl | apply Ent.skip)))))) (by (rfl)) (by omega)) ?_)) | ((show SLl _ _ _ _ _ (⟨⟨_, .binOp _ _ _ _ _, _, _, _, _⟩, _, _⟩ :: _) _ _ _); ((refine SLl.cmp rfl rfl rfl rfl rfl rfl ?_ ?_ <;> intro hq <;> simp only [cmpP] at hq <;> try ((exfalso; omega))))) | ((show SLl _ _ _ _ _ (⟨⟨_, .store _ _ _, _, _, _, _⟩, _, _⟩ :: _) _ _ _); ((refine SLl.seq0 rfl (SLo.storeN rfl rfl rfl (by (repeat' (first | exact trivial | (apply And.intro; (· (exact One.mono (by assumption) (by (repeat' (first | exact Ent.refl | apply Ent.skip))))))))) (Nat.le_of_ble_eq_true rfl) (by (repeat (apply Upd.here))) ?_)))) | ((show SLl _ _ _ _ _ (⟨⟨_, .alloc _, _, _, _, _⟩, _, _⟩ :: _) _ _ _); refine SLl.seq rfl rfl (SLo.alloc ?_); intro b))) | (first | refine SLc.seq ?_ | refine SLc.region rfl ?_ | refine SLc.condT rfl ?_ | refine SLc.block ?_ | refine SLc.skip ?_)))
      refine SLl.seq rfl rfl (SLo.callV (a1 := []) plain95 rfl rfl (SLf.mono (TSame_ok W _ x y hxx hyx) ?_))
      rintro v σ ⟨rfl, rfl⟩
      by_cases hxy : tkey x = tkey y
      · rw [decide_eq_true hxy]
        (repeat' (first | (first | refine SLl.nil ?_ | ((show SLl _ _ _ _ _ (⟨⟨_, _, _, _, _, _⟩, _, _⟩ :: _) _ _ _); first | refine SLl.ev rfl rfl rfl rfl ?_ | ((show SLl _ _ _ _ _ (⟨⟨_, .binOp _ _ _ _ _, _, _, _, _⟩, _, _⟩ :: _) _ _ _); (refine SLl.pu rfl rfl rfl (Pu.add rfl rfl (IntWalk.i64_in _ (by omega))) ?_)))) | (first | refine SLc.region rfl ?_ | refine SLc.condF rfl ?_ | refine SLc.skip ?_)))
        refine And.intro rfl (Exists.intro (k + 1) (And.intro ⟨by omega, map_step hx hy hxy heq⟩ (And.intro (by omega) (And.intro (by (repeat' (first | exact trivial | apply And.intro | rfl))) (by (repeat' (first | exact Ent.refl | apply Ent.skip)))))))
      · rw [decide_eq_false hxy]
        (repeat' (first | (first | refine SLl.nil ?_ | ((show SLl _ _ _ _ _ (⟨⟨_, _, _, _, _, _⟩, _, _⟩ :: _) _ _ _); refine SLl.ev rfl rfl rfl rfl ?_)) | (first | refine SLc.seq ?_ | refine SLc.region rfl ?_ | refine SLc.condT rfl ?_ | refine SLc.ret ?_)))
        refine And.intro rfl (Exists.intro _ (Exists.intro F (And.intro rfl (And.intro (by (repeat' (first | exact Ent.refl | apply Ent.skip))) (And.intro (fin_f (map_ne_of hx hy hxy)) rfl)))))
    · (repeat' (first | (first | refine SLl.nil ?_ | ((show SLl _ _ _ _ _ (⟨⟨_, _, _, _, _, _⟩, _, _⟩ :: _) _ _ _); first | refine SLl.ev rfl rfl rfl rfl ?_ | ((show SLl _ _ _ _ _ (⟨⟨_, .binOp _ _ _ _ _, _, _, _, _⟩, _, _⟩ :: _) _ _ _); ((refine SLl.cmp rfl rfl rfl rfl rfl rfl ?_ ?_ <;> intro hq <;> simp only [cmpP] at hq <;> try ((exfalso; omega))))))) | (first | refine SLc.seq ?_ | refine SLc.region rfl ?_ | refine SLc.condF rfl ?_ | refine SLc.exit ?_ | refine SLc.ret ?_)))
      refine And.intro rfl (Exists.intro _ (Exists.intro _ (And.intro rfl (And.intro .refl (And.intro (fin_t (map_eq_of hlt (by omega) heq)) rfl)))))
theorem STen97_ok (W : World) (F : List Chunk) (p q : Ten) (hp : TenX W p) (hq : TenX W q) :
    SLf Try.prog W 97 [.agg #[p.sv, p.dv], .agg #[q.sv, q.dv]] F (fun v σ => v = .bool (decide (tkey p = tkey q)) ∧ σ = F) := by
  have hpd := hp.d F
  have hqd := hq.d F
  have hal := @flt_len p.dat
  have hbl := @flt_len q.dat
  have hdl := hq.dl
  refine SLf.enter Try.func97 rfl (Nat.le_of_ble_eq_true rfl) ?_
  (repeat' (first | (first | refine SLl.nil ?_ | ((show SLl _ _ _ _ _ (⟨⟨_, _, _, _, _, _⟩, _, _⟩ :: _) _ _ _); first | refine SLl.ev rfl rfl rfl rfl ?_ | ((show SLl _ _ _ _ _ (⟨⟨_, .load _ _, _, _, _, _⟩, _, _⟩ :: _) _ _ _); (refine SLl.rdSeq rfl rfl (Rd.load rfl rfl (by ((apply Reads.blk; (· (repeat (first | apply Sel.here | apply Sel.there))); (· rfl))))) ?_)) | ((show SLl _ _ _ _ _ (⟨⟨_, .fieldAddr _ _ _, _, _, _, _⟩, _, _⟩ :: _) _ _ _); (refine SLl.pu rfl rfl rfl (Pu.fieldAddr rfl) ?_)) | ((show SLl _ _ _ _ _ (⟨⟨_, .box _ _, _, _, _, _⟩, _, _⟩ :: _) _ _ _); refine SLl.seq rfl rfl (SLo.boxC rfl (by (exact Cel.agg)) ?_); intro b))) | (first | refine SLc.seq ?_ | refine SLc.region rfl ?_)))
  rename_i b2
  refine SLl.seq rfl rfl (SLo.call plain103 rfl (SLf.mono (SameInts_ok W _ _ _ p.shp q.shp (hp.s _) (hq.s _) hq.sl) ?_))
  rintro v σ ⟨rfl, rfl⟩
  by_cases hs : p.shp = q.shp
  · rw [decide_eq_true hs]
    (repeat' (first | (first | refine SLl.nil ?_ | ((show SLl _ _ _ _ _ (⟨⟨_, _, _, _, _, _⟩, _, _⟩ :: _) _ _ _); first | refine SLl.ev rfl rfl rfl rfl ?_ | ((show SLl _ _ _ _ _ (⟨⟨_, .load _ _, _, _, _, _⟩, _, _⟩ :: _) _ _ _); (refine SLl.rdSeq rfl rfl (Rd.load rfl rfl (by ((apply Reads.blk; (· (repeat (first | apply Sel.here | apply Sel.there))); (· rfl))))) ?_)) | ((show SLl _ _ _ _ _ (⟨⟨_, .fieldAddr _ _ _, _, _, _, _⟩, _, _⟩ :: _) _ _ _); (refine SLl.pu rfl rfl rfl (Pu.fieldAddr rfl) ?_)) | ((show SLl _ _ _ _ _ (⟨⟨_, .call ⟨.builtin .len, _, _⟩, _, _, _, _⟩, _, _⟩ :: _) _ _ _); refine SLl.rdSeq rfl rfl (Rd.len rfl (by ((apply Len.rs; exact Rs.mono (by assumption) (by (repeat' (first | exact Ent.refl | apply Ent.skip))))))) ?_) | ((show SLl _ _ _ _ _ (⟨⟨_, .binOp _ _ _ _ _, _, _, _, _⟩, _, _⟩ :: _) _ _ _); ((refine SLl.cmp rfl rfl rfl rfl rfl rfl ?_ ?_ <;> intro hq <;> simp only [cmpP] at hq <;> try (fail)))))) | (first | refine SLc.seq ?_ | refine SLc.region rfl ?_ | refine SLc.condT rfl ?_ | refine SLc.condF rfl ?_ | refine SLc.block ?_ | refine SLc.skip ?_ | refine SLc.ret ?_)))
    · refine And.intro rfl (Exists.intro _ (Exists.intro F (And.intro rfl (And.intro (by (repeat' (first | exact Ent.refl | apply Ent.skip))) (And.intro (fin_f fun e => map_len_ne (a := p.dat) (b := q.dat) (by omega) (congrArg Prod.snd e)) rfl)))))
    · refine SLc.loop (ι := Nat) (fun k => [(5, .int .i64 k), (3, .pointer (some ⟨b, 0, none⟩)), (2, .pointer (some ⟨b2, 0, none⟩))]) (fun _ => .blk b 44 [q.sv, q.dv] :: .blk b2 44 [p.sv, p.dv] :: F) (fun k => k ≤ p.dat.length ∧ ∀ i, i < k → (p.dat.map fbits)[i]? = (q.dat.map fbits)[i]?) (fun k => p.dat.length - k) 0 ⟨Nat.zero_le _, by omega⟩ (by (repeat' (first | exact trivial | apply And.intro | rfl))) .refl ?_
      rintro k ⟨hk, heq⟩
      by_cases hlt : k < p.dat.length
      · have hx : p.dat[k]? = some p.dat[k] := List.getElem?_eq_getElem hlt
        have hy : q.dat[k]? = some (q.dat[k]'(by omega)) := List.getElem?_eq_getElem (by omega)
        generalize p.dat[k] = x at hx
        generalize q.dat[k]'(by omega) = y at hy
        have hxc := flt_at hx
        have hyc := flt_at hy
        (repeat' (first | (first | refine SLl.nil ?_ | ((show SLl _ _ _ _ _ (⟨⟨_, _, _, _, _, _⟩, _, _⟩ :: _) _ _ _); first | refine SLl.ev rfl rfl rfl rfl ?_ | ((show SLl _ _ _ _ _ (⟨⟨_, .load _ _, _, _, _, _⟩, _, _⟩ :: _) _ _ _); (refine SLl.rdSeq rfl rfl (Rd.load rfl rfl (by ((apply Reads.blk; (· (repeat (first | apply Sel.here | apply Sel.there))); (· rfl))))) ?_)) | ((show SLl _ _ _ _ _ (⟨⟨_, .fieldAddr _ _ _, _, _, _, _⟩, _, _⟩ :: _) _ _ _); (refine SLl.pu rfl rfl rfl (Pu.fieldAddr rfl) ?_)) | ((show SLl _ _ _ _ _ (⟨⟨_, .call ⟨.builtin .len, _, _⟩, _, _, _, _⟩, _, _⟩ :: _) _ _ _); refine SLl.rdSeq rfl rfl (Rd.len rfl (by ((apply Len.rs; exact Rs.mono (by assumption) (by (repeat' (first | exact Ent.refl | apply Ent.skip))))))) ?_) | ((show SLl _ _ _ _ _ (⟨⟨_, .binOp _ _ _ _ _, _, _, _, _⟩, _, _⟩ :: _) _ _ _); ((refine SLl.cmp rfl rfl rfl rfl rfl rfl ?_ ?_ <;> intro hq <;> simp only [cmpP] at hq <;> try ((exfalso; omega))))))) | (first | refine SLc.seq ?_ | refine SLc.region rfl ?_ | refine SLc.condT rfl ?_ | refine SLc.block ?_ | refine SLc.skip ?_)))
        refine SLc.draws (.blk b 44 [q.sv, q.dv] :: .blk b2 44 [p.sv, p.dv] :: F) [(0, .take), (1, .take), (2, .take), (3, .take), (4, .take), (5, .take), (6, .take), (7, .take), (8, .take), (9, .take), (10, .eff true), (11, .take)] mixed (by kernel_rfl) .refl ?_
        (repeat' ((((show SLl _ _ _ _ _ (⟨⟨_, _, _, _, _, _⟩, _, _⟩ :: _) _ _ _); first | refine SLl.ev rfl rfl rfl rfl ?_ | ((show SLl _ _ _ _ _ (⟨⟨_, .load _ _, _, _, _, _⟩, _, _⟩ :: _) _ _ _); (refine SLl.rdTake rfl rfl (Rd.load rfl rfl (by (first | (apply Reads.blk; (· (repeat (first | apply Sel.here | apply Sel.there))); (· rfl)) | (apply Reads.rs; (· exact Rs.mono (by assumption) (by (repeat' (first | exact Ent.refl | apply Ent.skip)))); (· (assumption)); (· rfl))))) ?_)) | ((show SLl _ _ _ _ _ (⟨⟨_, .fieldAddr _ _ _, _, _, _, _⟩, _, _⟩ :: _) _ _ _); (refine SLl.pu rfl rfl rfl (Pu.fieldAddr rfl) ?_)) | ((show SLl _ _ _ _ _ (⟨⟨_, .indexAddr _ _ _, _, _, _, _⟩, _, _⟩ :: _) _ _ _); (refine SLl.rdTake rfl rfl (Rd.indexAddr rfl rfl (by ((apply Len.rs; exact Rs.mono (by assumption) (by (repeat' (first | exact Ent.refl | apply Ent.skip)))))) (by (rfl)) (by omega)) ?_))))))
        refine SLl.eff rfl rfl (SLo.call plain104 rfl (SLf.mono (FSame104_ok W _ x y) ?_))
        rintro v σ ⟨rfl, rfl⟩
        refine And.intro (fun _ => .refl) ?_
        by_cases hxy : fbits x = fbits y
        · rw [decide_eq_true hxy]
          (repeat' (first | (first | refine SLl.nil ?_ | ((show SLl _ _ _ _ _ (⟨⟨_, _, _, _, _, _⟩, _, _⟩ :: _) _ _ _); first | refine SLl.ev rfl rfl rfl rfl ?_ | ((show SLl _ _ _ _ _ (⟨⟨_, .binOp _ _ _ _ _, _, _, _, _⟩, _, _⟩ :: _) _ _ _); (refine SLl.pu rfl rfl rfl (Pu.add rfl rfl (IntWalk.i64_in _ (by omega))) ?_)))) | (first | refine SLc.region rfl ?_ | refine SLc.condF rfl ?_ | refine SLc.skip ?_)))
          (repeat' (fail))
          refine And.intro rfl (Exists.intro (k + 1) (And.intro ⟨by omega, map_step hx hy hxy heq⟩ (And.intro (by omega) (And.intro (by (repeat' (first | exact trivial | apply And.intro | rfl))) .refl))))
        · rw [decide_eq_false hxy]
          (repeat' (first | (first | refine SLl.nil ?_ | ((show SLl _ _ _ _ _ (⟨⟨_, _, _, _, _, _⟩, _, _⟩ :: _) _ _ _); refine SLl.ev rfl rfl rfl rfl ?_)) | (first | refine SLc.seq ?_ | refine SLc.region rfl ?_ | refine SLc.condT rfl ?_ | refine SLc.ret ?_)))
          (repeat' (fail))
          refine And.intro rfl (Exists.intro _ (Exists.intro F (And.intro rfl (And.intro (by (repeat' (first | exact Ent.refl | apply Ent.skip))) (And.intro (fin_f fun e => map_ne_of hx hy hxy (congrArg Prod.snd e)) rfl)))))
      · (repeat' (first | (first | refine SLl.nil ?_ | ((show SLl _ _ _ _ _ (⟨⟨_, _, _, _, _, _⟩, _, _⟩ :: _) _ _ _); first | refine SLl.ev rfl rfl rfl rfl ?_ | ((show SLl _ _ _ _ _ (⟨⟨_, .load _ _, _, _, _, _⟩, _, _⟩ :: _) _ _ _); (refine SLl.rdSeq rfl rfl (Rd.load rfl rfl (by ((apply Reads.blk; (· (repeat (first | apply Sel.here | apply Sel.there))); (· rfl))))) ?_)) | ((show SLl _ _ _ _ _ (⟨⟨_, .fieldAddr _ _ _, _, _, _, _⟩, _, _⟩ :: _) _ _ _); (refine SLl.pu rfl rfl rfl (Pu.fieldAddr rfl) ?_)) | ((show SLl _ _ _ _ _ (⟨⟨_, .call ⟨.builtin .len, _, _⟩, _, _, _, _⟩, _, _⟩ :: _) _ _ _); refine SLl.rdSeq rfl rfl (Rd.len rfl (by ((apply Len.rs; exact Rs.mono (by assumption) (by (repeat' (first | exact Ent.refl | apply Ent.skip))))))) ?_) | ((show SLl _ _ _ _ _ (⟨⟨_, .binOp _ _ _ _ _, _, _, _, _⟩, _, _⟩ :: _) _ _ _); ((refine SLl.cmp rfl rfl rfl rfl rfl rfl ?_ ?_ <;> intro hq <;> simp only [cmpP] at hq <;> try ((exfalso; omega))))))) | (first | refine SLc.seq ?_ | refine SLc.region rfl ?_ | refine SLc.condF rfl ?_ | refine SLc.exit ?_ | refine SLc.ret ?_)))
        refine And.intro rfl (Exists.intro _ (Exists.intro F (And.intro rfl (And.intro (by (repeat' (first | exact Ent.refl | apply Ent.skip))) (And.intro (fin_t (Prod.ext hs (map_eq_of hlt (by omega) heq))) rfl)))))
  · rw [decide_eq_false hs]
    (repeat' (first | (first | refine SLl.nil ?_ | ((show SLl _ _ _ _ _ (⟨⟨_, _, _, _, _, _⟩, _, _⟩ :: _) _ _ _); first | refine SLl.ev rfl rfl rfl rfl ?_ | refine SLl.skip rfl rfl ?_)) | (first | refine SLc.seq ?_ | refine SLc.region rfl ?_ | refine SLc.condT rfl ?_ | refine SLc.ret ?_)))
    refine And.intro rfl (Exists.intro _ (Exists.intro F (And.intro rfl (And.intro (by (repeat' (first | exact Ent.refl | apply Ent.skip))) (And.intro (fin_f fun e => hs (congrArg Prod.fst e)) rfl)))))
end Go.Sl
