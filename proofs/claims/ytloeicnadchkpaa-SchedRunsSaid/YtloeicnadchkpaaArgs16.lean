/- Slices of 16-bit numbers as arguments. -/
import Derived.Test.YtloeicnadchkpaaArgs15
import Derived.Test.YtloeicnadchkpaaRuns15
namespace Go.Sl
open Go.Proofs Go.RowKit
section
variable {H : Type} {enc : TypeId × Value → H} {W : World}
theorem u16s_arg {es : List (List Value)} (h : ∀ c ∈ es, ∃ n y, DataW.trod enc Try.prog W 0 (fun _ => true) true n 78 c = some y ∧ Fits Try.prog 78 y.1) : ∃ l, u16L l = es ∧ ∀ n ∈ l, n < 65536 := by
  refine exists_map (f := u16C) (p := fun n => n < 65536) fun c hc => ?_
  obtain ⟨n, y, hy, _⟩ := h c hc
  obtain ⟨i, rfl, h1, h2⟩ := arg_int hy
  have h1' : 0 ≤ i := h1
  have h2' : i ≤ 65535 := h2
  obtain ⟨n, rfl⟩ := Int.eq_ofNat_of_zero_le h1'
  exact ⟨n, rfl, by omega⟩
end
end Go.Sl
