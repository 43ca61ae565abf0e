/- The arguments of law 25: slices of pairs; pairs of numbers; slices of graphs. -/
import Derived.Test.YtloeicnadchkpaaArgs3
import Derived.Test.YtloeicnadchkpaaLaw25s
import Derived.OpenShut
namespace Go.Sl
open Go.Proofs Go.RowKit
section
variable {H : Type} {enc : TypeId × Value → H} {W : World}
set_option maxRecDepth 100000 in
theorem arr2_arg {t el fuel : Nat} {k : IntKind} {cs : List Value} {x : DataW H × List MemPlace} {b b' : Nat} {z z' : List Value} [h : Ty Try.prog t (.array 2 el) 2 b z] [h' : Ty Try.prog el (.int k) 1 b' z']
    (ht : DataW.trod enc Try.prog W 0 (fun _ => true) true fuel t cs = some x) : ∃ i j, cs = [.int k i, .int k j] ∧ (k.min ≤ i ∧ i ≤ k.max) ∧ (k.min ≤ j ∧ j ≤ k.max) := by
  obtain ⟨xs, m, rfl, rfl, hl, hxl, hg⟩ := DataW.trod_array h.u ht
  rw [h.cellsOf.1] at hl
  match cs, hl with
  | [c0, c1], _ =>
    have h0 := hg 0 (by omega)
    have h1 := hg 1 (by omega)
    rw [h'.cellsOf.1, List.getElem?_eq_getElem (by omega)] at h0 h1
    simp only [Nat.zero_mul, Nat.one_mul, List.drop_zero, List.drop_succ_cons, List.take_succ_cons, List.take_zero] at h0 h1
    obtain ⟨i, e0, i1, i2⟩ := arg_int h0
    obtain ⟨j, e1, j1, j2⟩ := arg_int h1
    simp only [List.cons.injEq, and_true] at e0 e1
    subst e0 e1
    exact ⟨i, j, rfl, ⟨i1, i2⟩, j1, j2⟩
set_option maxRecDepth 100000 in
theorem pairs_arg {es : List (List Value)} (h : ∀ c ∈ es, ∃ n y, DataW.trod enc Try.prog W 0 (fun _ => true) true n 101 c = some y ∧ Fits Try.prog 101 y.1) : ∃ l, pairsL l = es ∧ ∀ p ∈ l, (-32768 ≤ p.1 ∧ p.1 ≤ 32767) ∧ (-32768 ≤ p.2 ∧ p.2 ≤ 32767) := by
  refine exists_map (f := pairC) (p := fun p => (-32768 ≤ p.1 ∧ p.1 ≤ 32767) ∧ (-32768 ≤ p.2 ∧ p.2 ≤ 32767)) fun c hc => ?_
  obtain ⟨n, y, hy, _⟩ := h c hc
  obtain ⟨i, j, rfl, hi, hj⟩ := arr2_arg (t := 101) hy
  exact ⟨(i, j), rfl, hi, hj⟩
set_option maxRecDepth 100000 in
theorem pair_arg {v : Value} {d : DataW H} {w : World} {r : Reach} {base : Nat} (ht : TrodAt enc W 84 v d) (hok : Value.okWide Try.prog w r base 84 v) :
    ∃ i j, v = .agg #[.int .i64 i, .int .i64 j] ∧ (-9223372036854775808 ≤ i ∧ i ≤ 9223372036854775807) ∧ (-9223372036854775808 ≤ j ∧ j ≤ 9223372036854775807) := by
  obtain ⟨cs, rfl, hcs⟩ := agg_of_okWide ty84 rfl hok
  obtain ⟨p, fuel, ht⟩ := ht
  rw [hcs] at ht
  obtain ⟨i, j, rfl, hi, hj⟩ := arr2_arg (t := 84) ht
  exact ⟨i, j, rfl, hi, hj⟩
set_option maxRecDepth 100000 in
theorem graphs_arg {es : List (List Value)} (h : ∀ c ∈ es, ∃ n y, DataW.trod enc Try.prog W 0 (fun _ => true) true n 24 c = some y ∧ Fits Try.prog 24 y.1) : ∃ Gs : List Gph, gcells Gs = es ∧ ∀ p ∈ Gs, GraphX W p.1 p.2 := by
  refine exists_map (f := fun p : Gph => [p.1]) (p := fun p => GraphX W p.1 p.2) fun c hc => ?_
  obtain ⟨n, y, hy, fy⟩ := h c hc
  obtain ⟨sl, G, rfl, hx⟩ := graph_cells hy fy
  exact ⟨(sl, G), rfl, hx⟩
end
end Go.Sl
