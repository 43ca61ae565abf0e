/- A graph that is handed in: what can be read of it. -/
import Derived.Test.YtloeicnadchkpaaArgs
import Derived.Test.YtloeicnadchkpaaReach2
namespace Go.Sl
open Go.Proofs Go.RowKit

theorem exists_map {α β : Type} {f : α → β} {p : α → Prop} : ∀ {es : List β}, (∀ c ∈ es, ∃ x, f x = c ∧ p x) → ∃ l : List α, l.map f = es ∧ ∀ x ∈ l, p x
  | [], _ => ⟨[], rfl, by simp⟩
  | c :: es, h => by
    obtain ⟨x, hx, hp⟩ := h c (.head _)
    obtain ⟨l, hl, hq⟩ := exists_map (es := es) (fun c hc => h c (.tail _ hc))
    exact ⟨x :: l, by simp [hx, hl], fun y hy => by rcases List.mem_cons.1 hy with rfl | hy; exact hp; exact hq y hy⟩
/-- A slice of which nothing but its length counts. -/
def Held (W : World) (v : Value) (size : Nat) : Prop := ∃ l, (∀ σ, Rs W σ v size l) ∧ l.length ≤ 140737488355328
structure NodeOk (W : World) (x : Node) : Prop where
  ins : ∀ σ, Rs W σ x.inv 1 (ints x.ins)
  insl : x.ins.length ≤ 140737488355328
  tov : Held W x.tov 1
  shp : Held W x.shp 1
  dat : Held W x.dat 1
  hks : Held W x.hks 2
  ones : x.inv.oneCell' = true ∧ x.tov.oneCell' = true ∧ x.shp.oneCell' = true ∧ x.dat.oneCell' = true ∧ x.hks.oneCell' = true
section
variable {H : Type} {enc : TypeId × Value → H} {W : World}
theorem reach_le {n b : Nat} (h : n * b ≤ reachBytes) (hb : 0 < b) : n ≤ 140737488355328 := by
  have h1 : n ≤ n * b := Nat.le_mul_of_pos_right n hb
  have h2 : reachBytes ≤ 140737488355328 := by decide
  omega
theorem ints_arg {es : List (List Value)} (h : ∀ c ∈ es, ∃ n y, DataW.trod enc Try.prog W 0 (fun _ => true) true n 3 c = some y ∧ Fits Try.prog 3 y.1) : ∃ l, ints l = es ∧ ∀ i ∈ l, -9223372036854775808 ≤ i ∧ i ≤ 9223372036854775807 := by
  refine exists_map fun c hc => ?_
  obtain ⟨n, y, hy, _⟩ := h c hc
  obtain ⟨i, rfl, h1, h2⟩ := arg_int hy
  exact ⟨i, rfl, h1, h2⟩
theorem node_arg {fuel : Nat} {c : List Value} {y : DataW H × List MemPlace} (ht : DataW.trod enc Try.prog W 0 (fun _ => true) true fuel 47 c = some y) (hf : Fits Try.prog 47 y.1) : ∃ x : Node, x.cells = c ∧ NodeOk W x := by
  obtain ⟨hl, n0, y0, h0, f0⟩ := arg_field fld47_0 ty3 ht hf
  obtain ⟨_, n1, y1, h1, f1⟩ := arg_field fld47_1 ty32 ht hf
  obtain ⟨_, n2, y2, h2, f2⟩ := arg_field fld47_2 ty32 ht hf
  obtain ⟨_, n3, y3, h3, f3⟩ := arg_field fld47_3 ty3 ht hf
  obtain ⟨_, n4, y4, h4, f4⟩ := arg_field fld47_4 ty44 ht hf
  obtain ⟨_, n5, y5, h5, f5⟩ := arg_field fld47_5 ty45 ht hf
  rw [ty47.cellsOf.1] at hl
  match c, hl with
  | [c0, c1, c2, c3, c4, c5, c6], _ =>
    simp only [List.drop_zero, List.drop_succ_cons, List.take_succ_cons, List.take_zero] at h0 h1 h2 h3 h4 h5
    obtain ⟨op, e0, _⟩ := arg_int h0
    obtain ⟨no, e3, _⟩ := arg_int h3
    obtain ⟨_, m1, z1, g1, k1⟩ := arg_field fld44_0 ty32 h4 f4
    obtain ⟨_, m2, z2, g2, k2⟩ := arg_field fld44_1 ty42 h4 f4
    simp only [List.drop_zero, List.drop_succ_cons, List.take_succ_cons, List.take_zero] at g1 g2
    obtain ⟨v1, l1, e1, o1, r1, b1, i1⟩ := arg_slice (t := 32) (by decide) h1 f1
    obtain ⟨v2, l2, e2, o2, r2, b2, _⟩ := arg_slice (t := 32) (by decide) h2 f2
    obtain ⟨v4, l4, e4, o4, r4, b4, _⟩ := arg_slice (t := 32) (by decide) g1 k1
    obtain ⟨v5, l5, e5, o5, r5, b5, _⟩ := arg_slice (t := 42) (by decide) g2 k2
    obtain ⟨v6, l6, e6, o6, r6, b6, _⟩ := arg_slice (t := 45) (by decide) h5 f5
    simp only [List.cons.injEq, and_true] at e0 e1 e2 e3 e4 e5 e6
    subst e0 e1 e2 e3 e4 e5 e6
    obtain ⟨il, rfl, _⟩ := ints_arg i1
    exact ⟨⟨op, c1, il, c2, no, c4, c5, c6⟩, rfl, ⟨r1, by have := reach_le b1 (by decide); rwa [ints_len] at this, ⟨l2, r2, reach_le b2 (by decide)⟩, ⟨l4, r4, reach_le b4 (by decide)⟩, ⟨l5, r5, reach_le b5 (by decide)⟩, ⟨l6, r6, reach_le b6 (by decide)⟩, o1, o2, o4, o5, o6⟩⟩
/-- A graph's slice of nodes. -/
structure GraphX (W : World) (sl : Value) (G : List Node) : Prop where
  rs : ∀ σ, Rs W σ sl 7 (G.map Node.cells)
  len : G.length ≤ 140737488355328
  nodes : ∀ x ∈ G, NodeOk W x
  one : sl.oneCell' = true
theorem GraphX.graphR {sl : Value} {G : List Node} (h : GraphX W sl G) (σ : List Chunk) : GraphR W σ sl G :=
  ⟨h.rs σ, fun x hx => (h.nodes x hx).ins σ, by have := h.len; omega, fun x hx => by have := (h.nodes x hx).insl; omega, fun x hx => by
    obtain ⟨a, b, c, d, f⟩ := (h.nodes x hx).ones
    exact ⟨One.lit a, One.lit b, One.lit c, One.lit d, One.lit f⟩⟩
theorem graph_cells {fuel : Nat} {cs : List Value} {x : DataW H × List MemPlace} (ht : DataW.trod enc Try.prog W 0 (fun _ => true) true fuel 24 cs = some x) (hf : Fits Try.prog 24 x.1) : ∃ sl G, cs = [sl] ∧ GraphX W sl G := by
  obtain ⟨hl, n, y, hy, fy⟩ := arg_field fld24_0 ty22 ht hf
  rw [ty24.cellsOf.1] at hl
  match cs, hl with
  | [c], _ =>
    simp only [List.drop_zero, List.take_succ_cons, List.take_zero] at hy
    obtain ⟨sl, es, e1, o1, r1, b1, i1⟩ := arg_slice (t := 22) (by decide) hy fy
    obtain ⟨G, rfl, hG⟩ := exists_map (f := Node.cells) (p := NodeOk W) (fun c hc => by
      obtain ⟨n, y, hy, fy⟩ := i1 c hc
      exact node_arg hy fy)
    exact ⟨sl, G, e1, r1, by have := reach_le b1 (by decide); rwa [List.length_map] at this, hG, o1⟩
set_option maxRecDepth 100000 in
theorem graph_arg {v : Value} {d : DataW H} {p : List MemPlace} {w : World} {r : Reach} {base : Nat} (ht : DataW.Trod enc Try.prog W 0 (fun _ => true) true 24 v d p) (hf : Fits Try.prog 24 d) (hok : Value.okWide Try.prog w r base 24 v) :
    ∃ sl G, v = .agg #[sl] ∧ GraphX W sl G := by
  obtain ⟨cs, rfl, hcs⟩ := agg_of_okWide ty24 rfl hok
  obtain ⟨fuel, ht⟩ := ht
  rw [hcs] at ht
  obtain ⟨sl, G, rfl, h⟩ := graph_cells ht hf
  exact ⟨sl, G, rfl, h⟩
set_option maxRecDepth 100000 in
theorem int_arg {v : Value} {d : DataW H} {p : List MemPlace} {w : World} {r : Reach} {base : Nat} (ht : DataW.Trod enc Try.prog W 0 (fun _ => true) true 3 v d p) (hok : Value.okWide Try.prog w r base 3 v) :
    ∃ i, v = .int .i64 i ∧ -9223372036854775808 ≤ i ∧ i ≤ 9223372036854775807 := by
  obtain ⟨fuel, ht⟩ := ht
  obtain ⟨i, hi, h1, h2⟩ := arg_int ht
  exact ⟨i, one_of_okWide ty3 rfl hok hi, h1, h2⟩
end
end Go.Sl
