/- The arguments of MeterSame: gradients. -/
import Derived.Test.YtloeicnadchkpaaArgs3
import Derived.Test.YtloeicnadchkpaaMGrad
namespace Go.Sl
open Go.Proofs Go.RowKit
section
variable {H : Type} {enc : TypeId × Value → H} {W : World}
theorem arg_float {P : Program} {t fuel : Nat} {cs : List Value} {x : DataW H × List MemPlace} {s b : Nat} {z : List Value} [h : Ty P t (.float .f64) s b z]
    (ht : DataW.trod enc P W 0 (fun _ => true) true fuel t cs = some x) : ∃ i, cs = [.float .f64 i] := by
  cases fuel with
  | zero => simp [DataW.trod] at ht
  | succ n =>
    unfold DataW.trod at ht
    rw [h.u] at ht
    split at ht <;> simp_all [Lit.wf]
    refine Classical.byContradiction fun hne => ?_
    simp [hne] at ht
set_option maxRecDepth 100000 in
theorem floats_arg {es : List (List Value)} (h : ∀ c ∈ es, ∃ n y, DataW.trod enc Try.prog W 0 (fun _ => true) true n 154 c = some y ∧ Fits Try.prog 154 y.1) : ∃ l, flt l = es := by
  obtain ⟨l, hl, _⟩ := exists_map (f := fun b : Nat => [Value.float .f64 b]) (p := fun _ => True) (es := es) (fun c hc => by
    obtain ⟨n, y, hy, _⟩ := h c hc
    obtain ⟨i, rfl⟩ := arg_float (t := 154) hy
    exact ⟨i, rfl, trivial⟩)
  exact ⟨l, hl⟩
set_option maxRecDepth 100000 in
theorem ten_arg {fuel : Nat} {c : List Value} {y : DataW H × List MemPlace} (ht : DataW.trod enc Try.prog W 0 (fun _ => true) true fuel 44 c = some y) (hf : Fits Try.prog 44 y.1) : ∃ t : Ten, t.cells = c ∧ TenX W t := by
  obtain ⟨hl, n0, y0, h0, f0⟩ := arg_field fld44_0 ty32 ht hf
  obtain ⟨_, n1, y1, h1, f1⟩ := arg_field fld44_1 ty42 ht hf
  rw [ty44.cellsOf.1] at hl
  match c, hl with
  | [c0, c1], _ =>
    simp only [List.drop_zero, List.drop_succ_cons, List.take_succ_cons, List.take_zero] at h0 h1
    obtain ⟨v0, l0, e0, o0, r0, b0, i0⟩ := arg_slice (t := 32) (by decide) h0 f0
    obtain ⟨v1, l1, e1, o1, r1, b1, i1⟩ := arg_slice (t := 42) (by decide) h1 f1
    simp only [List.cons.injEq, and_true] at e0 e1
    subst e0 e1
    obtain ⟨li, rfl, _⟩ := ints_arg i0
    obtain ⟨lf, rfl⟩ := floats_arg i1
    exact ⟨⟨c0, li, c1, lf⟩, rfl, ⟨r0, r1, by have := reach_le b0 (by decide); rwa [ints_len] at this, by have := reach_le b1 (by decide); rwa [flt_len] at this, o0, o1⟩⟩
set_option maxRecDepth 100000 in
theorem grad_arg {v : Value} {d : DataW H} {w : World} {r : Reach} {base : Nat} (ht : TrodAt enc W 92 v d) (hf : Fits Try.prog 92 d) (hok : Value.okWide Try.prog w r base 92 v) : ∃ g : Grad, v = .agg g.cells.toArray ∧ GradX W g := by
  obtain ⟨cs, rfl, hcs⟩ := agg_of_okWide ty92 rfl hok
  obtain ⟨p, fuel, ht⟩ := ht
  rw [hcs] at ht
  obtain ⟨hl, n0, y0, h0, f0⟩ := arg_field fld92_0 ty90 ht hf
  obtain ⟨_, n1, y1, h1, f1⟩ := arg_field fld92_1 ty44 ht hf
  obtain ⟨_, n2, y2, h2, f2⟩ := arg_field fld92_2 ty3 ht hf
  obtain ⟨_, n3, y3, h3, f3⟩ := arg_field fld92_3 ty3 ht hf
  rw [ty92.cellsOf.1] at hl
  match cs, hl with
  | [c0, c1, c2, c3, c4], _ =>
    simp only [List.drop_zero, List.drop_succ_cons, List.take_succ_cons, List.take_zero] at h0 h1 h2 h3
    obtain ⟨v0, l0, e0, o0, r0, b0, i0⟩ := arg_slice (t := 90) (by decide) h0 f0
    obtain ⟨t, ht1, ht2⟩ := ten_arg h1 f1
    obtain ⟨a, e2, _⟩ := arg_int h2
    obtain ⟨b, e3, _⟩ := arg_int h3
    simp only [List.cons.injEq, and_true] at e0 e2 e3
    subst e0 e2 e3
    simp only [Ten.cells, List.cons.injEq, and_true] at ht1
    obtain ⟨rfl, rfl⟩ := ht1
    obtain ⟨L, rfl, hL⟩ := exists_map (f := Ten.cells) (p := TenX W) (fun c hc => by
      obtain ⟨n, y, hy, fy⟩ := i0 c hc
      exact ten_arg hy fy)
    exact ⟨⟨c0, L, t, a, b⟩, rfl, ⟨r0, hL, ht2, by have := reach_le b0 (by decide); rwa [List.length_map] at this, o0⟩⟩
end
end Go.Sl
