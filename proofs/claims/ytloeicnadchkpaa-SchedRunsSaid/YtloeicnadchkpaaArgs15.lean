/- The arguments of law 15: tasks as rows of deeds. -/
import Derived.Test.YtloeicnadchkpaaArgs3
import Derived.Test.YtloeicnadchkpaaSmall15
namespace Go.Sl
open Go.Proofs Go.RowKit
section
variable {H : Type} {enc : TypeId × Value → H} {W : World}
theorem deed_arg {fuel : Nat} {c : List Value} {y : DataW H × List MemPlace} (ht : DataW.trod enc Try.prog W 0 (fun _ => true) true fuel 140 c = some y) (hf : Fits Try.prog 140 y.1) : ∃ d : Deed, d.cells = c ∧ DeedX W d := by
  obtain ⟨hl, n0, y0, h0, f0⟩ := arg_field fld140_0 ty59 ht hf
  obtain ⟨_, n1, y1, h1, f1⟩ := arg_field fld140_1 ty5 ht hf
  rw [ty140.cellsOf.1] at hl
  match c, hl with
  | [c0, c1], _ =>
    simp only [List.drop_zero, List.drop_succ_cons, List.take_succ_cons, List.take_zero] at h0 h1
    obtain ⟨v0, l0, e0, o0, r0, b0, i0⟩ := arg_slice (t := 59) (by decide) h0 f0
    obtain ⟨a, e1, a0, a1⟩ := arg_int h1
    simp only [List.cons.injEq, and_true] at e0 e1
    subst e0 e1
    obtain ⟨l, rfl, hl8⟩ := bytes_arg i0
    have a0' : 0 ≤ a := a0
    have a1' : a ≤ 255 := a1
    obtain ⟨n, rfl⟩ := Int.eq_ofNat_of_zero_le a0'
    exact ⟨⟨c0, l, n⟩, rfl, ⟨r0 [], by have := reach_le b0 (by decide); rwa [bytesL_len] at this, hl8, by dsimp only; omega, o0⟩⟩
theorem prgs_arg {es : List (List Value)} (h : ∀ c ∈ es, ∃ n y, DataW.trod enc Try.prog W 0 (fun _ => true) true n 66 c = some y ∧ Fits Try.prog 66 y.1) : ∃ D : List Prg, pcells D = es ∧ ∀ p ∈ D, PrgX W p := by
  refine exists_map (f := fun p : Prg => [p.1]) (p := PrgX W) fun c hc => ?_
  obtain ⟨n, y, hy, fy⟩ := h c hc
  obtain ⟨v, l, e, o, r, b, i⟩ := arg_slice (t := 66) (by decide) hy fy
  obtain ⟨ds, rfl, hds⟩ := exists_map (f := Deed.cells) (p := DeedX W) (fun c hc => by
    obtain ⟨n, y, hy, fy⟩ := i c hc
    exact deed_arg hy fy)
  exact ⟨(v, ds), e.symm, ⟨r [], by have := reach_le b (by decide); rwa [List.length_map] at this, hds, o⟩⟩
end
end Go.Sl
