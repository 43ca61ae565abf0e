/- More kinds of arguments: small numbers, slices of bools, of small numbers, of numbers. -/
import Derived.Test.YtloeicnadchkpaaRowLaw
namespace Go.Sl
open Go.Proofs Go.RowKit
section
variable {H : Type} {enc : TypeId × Value → H} {W : World}
theorem args_one {t1 : TypeId} {vs : List Value} {ds : List (DataW H)} {ps : List MemPlace} (h : DataW.TrodAll enc Try.prog W 0 (fun _ => true) true [t1] vs ds ps) :
    ∃ v1 d1, vs = [v1] ∧ ds = [d1] ∧ TrodAt enc W t1 v1 d1 := by
  obtain ⟨v1, vs1, d1, ds1, q1, rfl, rfl, h1, h⟩ := trodAll_cons' h
  obtain ⟨rfl, rfl⟩ := trodAll_end h
  exact ⟨v1, d1, rfl, rfl, h1⟩
theorem args_three {t1 t2 t3 : TypeId} {vs : List Value} {ds : List (DataW H)} {ps : List MemPlace} (h : DataW.TrodAll enc Try.prog W 0 (fun _ => true) true [t1, t2, t3] vs ds ps) :
    ∃ v1 v2 v3 d1 d2 d3, vs = [v1, v2, v3] ∧ ds = [d1, d2, d3] ∧ TrodAt enc W t1 v1 d1 ∧ TrodAt enc W t2 v2 d2 ∧ TrodAt enc W t3 v3 d3 := by
  obtain ⟨v1, vs1, d1, ds1, q1, rfl, rfl, h1, h⟩ := trodAll_cons' h
  obtain ⟨v2, vs2, d2, ds2, q2, rfl, rfl, h2, h⟩ := trodAll_cons' h
  obtain ⟨v3, vs3, d3, ds3, q3, rfl, rfl, h3, h⟩ := trodAll_cons' h
  obtain ⟨rfl, rfl⟩ := trodAll_end h
  exact ⟨v1, v2, v3, d1, d2, d3, rfl, rfl, h1, h2, h3⟩
set_option maxRecDepth 100000 in
theorem u8_arg {v : Value} {d : DataW H} {w : World} {r : Reach} {base : Nat} (ht : TrodAt enc W 5 v d) (hok : Value.okWide Try.prog w r base 5 v) : ∃ n : Nat, v = .int .u8 n ∧ n < 256 := by
  obtain ⟨p, fuel, ht⟩ := ht
  obtain ⟨i, hi, h1, h2⟩ := arg_int ht
  have h1' : 0 ≤ i := h1
  have h2' : i ≤ 255 := h2
  obtain ⟨n, rfl⟩ := Int.eq_ofNat_of_zero_le h1'
  exact ⟨n, one_of_okWide ty5 rfl hok hi, by omega⟩
set_option maxRecDepth 100000 in
/-- A slice argument of one cell an element. -/
theorem slice_arg {t el : Nat} {s' b' sb bb : Nat} {z z' : List Value} {de : TypeDesc} (h : Ty Try.prog t (.slice el) sb bb z) (h' : Ty Try.prog el de s' b' z') (hs : 0 < s') (hb : 0 < b') {v : Value} {d : DataW H} {w : World} {r : Reach} {base : Nat} (ht : TrodAt enc W t v d) (hf : Fits Try.prog t d) (hok : Value.okWide Try.prog w r base t v) :
    ∃ es, (∀ σ, Rs W σ v s' es) ∧ v.oneCell' = true ∧ es.length ≤ 140737488355328 ∧ ∀ c ∈ es, ∃ n y, DataW.trod enc Try.prog W 0 (fun _ => true) true n el c = some y ∧ Fits Try.prog el y.1 := by
  obtain ⟨p, fuel, ht⟩ := ht
  obtain ⟨u, es, hu, ho, hr, hl, he⟩ := arg_slice (h := h) (h' := h') hs ht hf
  have hv := one_of_okWide h rfl hok hu
  subst hv
  exact ⟨es, hr, ho, reach_le hl hb, he⟩
theorem bools_arg {es : List (List Value)} (h : ∀ c ∈ es, ∃ n y, DataW.trod enc Try.prog W 0 (fun _ => true) true n 4 c = some y ∧ Fits Try.prog 4 y.1) : ∃ l, bools l = es := by
  obtain ⟨l, hl, _⟩ := exists_map (f := fun b : Bool => [Value.bool b]) (p := fun _ => True) (es := es) (fun c hc => by
    obtain ⟨n, y, hy, _⟩ := h c hc
    obtain ⟨i, rfl⟩ := arg_bool hy
    exact ⟨i, rfl, trivial⟩)
  exact ⟨l, hl⟩
/-- Small numbers. -/
def byteC (n : Nat) : List Value := [.int .u8 (n : Int)]
def bytesL (l : List Nat) : List (List Value) := l.map byteC
theorem bytesL_len {l : List Nat} : (bytesL l).length = l.length := by simp [bytesL]
theorem bytesL_at {l : List Nat} {k n : Nat} (h : l[k]? = some n) : (bytesL l)[k]? = some [.int .u8 (n : Int)] := by simp [bytesL, byteC, h]
theorem bytesL_one {l : List Nat} : ∀ c ∈ bytesL l, c.length = 1 := fun c hc => by obtain ⟨x, _, rfl⟩ := List.mem_map.1 hc; rfl
theorem bytes_arg {es : List (List Value)} (h : ∀ c ∈ es, ∃ n y, DataW.trod enc Try.prog W 0 (fun _ => true) true n 5 c = some y ∧ Fits Try.prog 5 y.1) : ∃ l, bytesL l = es ∧ ∀ n ∈ l, n < 256 := by
  refine exists_map (f := byteC) (p := fun n => n < 256) fun c hc => ?_
  obtain ⟨n, y, hy, _⟩ := h c hc
  obtain ⟨i, rfl, h1, h2⟩ := arg_int hy
  have h1' : 0 ≤ i := h1
  have h2' : i ≤ 255 := h2
  obtain ⟨n, rfl⟩ := Int.eq_ofNat_of_zero_le h1'
  exact ⟨n, rfl, by omega⟩
end
end Go.Sl
