/- What the arguments of a law hold, read off the first world. -/
import Derived.Test.YtloeicnadchkpaaSL8
import Derived.ChangeArms
import Derived.SizedLaws
namespace Go.Sl
open Go.RowKit

section
variable {H : Type} {enc : TypeId × Value → H} {P : Program} {W : World}
/-- All slices within reach are of a size that an address reaches. -/
def Fits (P : Program) (t : TypeId) (d : DataW H) : Prop := ∀ m ∈ d.weights P t, m ≤ reachBytes
theorem Ty.cellsOf {t : TypeId} {d : TypeDesc} {s b : Nat} {z : List Value} (h : Ty P t d s b z) : P.cellsOf t = s ∧ P.bytesOf t = b := by
  obtain ⟨i, v, hi, hs, hb, _⟩ := h.info
  simp [Program.cellsOf, Program.bytesOf, hi, hs, hb]
theorem mem_weightsAll {e : TypeId} : ∀ {ds : List (DataW H)} {d : DataW H}, d ∈ ds → ∀ m ∈ d.weights P e, m ∈ DataW.weightsAll P e ds
  | d0 :: ds, d, h, m, hm => by
    simp only [DataW.weightsAll, List.mem_append]
    rcases List.mem_cons.1 h with rfl | h
    · exact .inl hm
    · exact .inr (mem_weightsAll h m hm)
  | [], _, h, _, _ => by cases h
theorem arg_slice {t el fuel : Nat} {cs : List Value} {x : DataW H × List MemPlace} {s b s' b' : Nat} {z z' : List Value} {d : TypeDesc} [h : Ty P t (.slice el) s b z] [h' : Ty P el d s' b' z'] (hs0 : 0 < s')
    (ht : DataW.trod enc P W 0 (fun _ => true) true fuel t cs = some x) (hf : Fits P t x.1) :
    ∃ v es, cs = [v] ∧ v.oneCell' = true ∧ (∀ σ, Rs W σ v s' es) ∧ es.length * b' ≤ reachBytes ∧ ∀ c ∈ es, ∃ n y, DataW.trod enc P W 0 (fun _ => true) true n el c = some y ∧ Fits P el y.1 := by
  obtain ⟨hce, hbe⟩ := h'.cellsOf
  rcases DataW.trod_slice h.u ht with ⟨rfl, rfl⟩ | ⟨a, len, cap, elems, rest, n, rfl, rfl, rfl, _, hl, hm, hlen, hel, _, _⟩
  · exact ⟨_, [], rfl, rfl, fun _ => Rs.nil, by simp, by simp⟩
  · rw [hce] at hel
    have hget : ∀ i, i < len → ∃ c y, W.cells? 0 (a.add (i * s')) s' = some c ∧ DataW.trod enc P W 0 (fun _ => true) true n el c = some y ∧ elems[i]? = some y := by
      intro i hi
      have h1 := hel i hi
      have h2 : elems[i]? = some (elems[i]'(by omega)) := List.getElem?_eq_getElem (by omega)
      rw [h2, Option.bind_eq_some_iff] at h1
      obtain ⟨c, hc, hy⟩ := h1
      exact ⟨c, _, hc, hy, h2⟩
    have hcell : ∀ i c, W.cells? 0 (a.add (i * s')) s' = some c → c.length = s' ∧ ∀ k, k < s' → W.cell? ((a.add (i * s')).add k) = c[k]? := by
      intro i c hc
      unfold World.cells? at hc
      rw [if_pos (Nat.zero_le _)] at hc
      exact ⟨by simpa using mapM_some_length hc, fun k hk => mapM_some_get hc k k (List.getElem?_range hk)⟩
    obtain ⟨bk, off, sp⟩ := a
    have hsp : len ≠ 0 → sp = none := by
      intro h0
      obtain ⟨c, y, h1, _, _⟩ := hget 0 (by omega)
      obtain ⟨h2, h3⟩ := hcell 0 c h1
      have := h3 0 hs0
      rw [List.getElem?_eq_getElem (by omega)] at this
      have := World.cell?_spot this
      simpa [Addr.add] using this
    have hpl : ∀ i c, i < len → W.cells? 0 ((⟨bk, off, sp⟩ : Addr).add (i * s')) s' = some c → ∀ k u, c[k]? = some u → W.cell? ⟨bk, off + (i * s' + k), none⟩ = some u := by
      intro i c hi h1 k u hu
      have := hsp (by omega)
      subst this
      obtain ⟨h2, h3⟩ := hcell i c h1
      have hk : k < s' := by rw [← h2]; exact (List.getElem?_eq_some_iff.1 hu).1
      have := h3 k hk
      rw [add_plain, add_plain] at this
      rw [show off + (i * s' + k) = off + i * s' + k by omega, this, hu]
    let es : List (List Value) := (List.range len).map fun i => (W.cells? 0 ((⟨bk, off, sp⟩ : Addr).add (i * s')) s').getD []
    have hes : ∀ i c, es[i]? = some c → i < len ∧ W.cells? 0 ((⟨bk, off, sp⟩ : Addr).add (i * s')) s' = some c := by
      intro i c hi
      have hi' : i < len := by have := (List.getElem?_eq_some_iff.1 hi).1; simpa [es] using this
      obtain ⟨c', y, h1, _, _⟩ := hget i hi'
      simp only [es, List.getElem?_map, List.getElem?_range hi', Option.map_some, h1, Option.getD_some, Option.some.injEq] at hi
      subst hi
      exact ⟨hi', h1⟩
    have hel' : es.length = len := by simp [es]
    have hlens : ∀ c ∈ es, c.length = s' := fun c hc => by
      obtain ⟨i, hi⟩ := List.mem_iff_getElem?.1 hc
      exact (hcell i c (hes i c hi).2).1
    refine ⟨_, es, rfl, rfl, fun σ => ⟨hlens, fun w hs => .inr ⟨bk, off, sp, cap, by rw [hel'], fun h0 => hsp (fun h1 => h0 (List.length_eq_zero_iff.1 (by omega))), by omega, hm, ?_⟩⟩, ?_, ?_⟩
    · intro i c k u hi hk
      obtain ⟨hi', h1⟩ := hes i c hi
      have hW := hpl i c hi' h1 k u hk
      have hbl : bk < W.heap.size := by
        unfold World.cell? at hW
        split at hW
        · rename_i hh; exact (Array.getElem?_eq_some_iff.1 hh).1
        · cases hW
      rw [hs.below.cell hbl]
      exact hW
    · have := hf ((elems.length + rest.length) * P.bytesOf el) (by simp [DataW.weights, h.u])
      rw [hbe, hlen] at this
      rw [hel']
      exact Nat.le_trans (Nat.mul_le_mul_right _ (Nat.le_add_right _ _)) this
    · intro c hc
      obtain ⟨i, hi⟩ := List.mem_iff_getElem?.1 hc
      obtain ⟨hi', h1⟩ := hes i c hi
      obtain ⟨c', y, h2, h3, h4⟩ := hget i hi'
      rw [h1] at h2
      cases h2
      refine ⟨n, y, h3, fun m hm => hf m ?_⟩
      simp only [DataW.weights, h.u, List.mem_cons, List.mem_append]
      exact .inr (.inl (mem_weightsAll (List.mem_map_of_mem (List.mem_of_getElem? h4)) m hm))
theorem arg_field {t i off fuel : Nat} {ft : TypeId} {cs : List Value} {x : DataW H × List MemPlace} {s b : Nat} {z : List Value} {d : TypeDesc} (h : Fld P t i off ft) (h' : Ty P ft d s b z)
    (ht : DataW.trod enc P W 0 (fun _ => true) true fuel t cs = some x) (hf : Fits P t x.1) : cs.length = P.cellsOf t ∧ ∃ n y, DataW.trod enc P W 0 (fun _ => true) true n ft ((cs.drop off).take s) = some y ∧ Fits P ft y.1 := by
  obtain ⟨fs, f, hu, hfi, ho, hty, _⟩ := h.f
  obtain ⟨xs, n, rfl, rfl, hl, hxl, hg⟩ := DataW.trod_struct hu ht
  have h1 := hg i f hfi
  have hlt : i < xs.length := by rw [hxl]; exact (Array.getElem?_eq_some_iff.1 hfi).1
  rw [List.getElem?_eq_getElem hlt, ho, hty, h'.cellsOf.1] at h1
  refine ⟨hl, n, _, h1, fun m hm => hf m ?_⟩
  simp only [DataW.weights, hu]
  refine DataW.weights_mem_each (j := i) (t := ft) (d := xs[i].1) ?_ ?_ m hm
  · rw [List.getElem?_map, Array.getElem?_toList, hfi]; simp [hty]
  · rw [List.getElem?_map, List.getElem?_eq_getElem hlt]; rfl
theorem arg_int {t fuel : Nat} {k : IntKind} {cs : List Value} {x : DataW H × List MemPlace} {s b : Nat} {z : List Value} [h : Ty P t (.int k) s b z]
    (ht : DataW.trod enc P W 0 (fun _ => true) true fuel t cs = some x) : ∃ i, cs = [.int k i] ∧ k.min ≤ i ∧ i ≤ k.max := by
  cases fuel with
  | zero => simp [DataW.trod] at ht
  | succ n =>
    unfold DataW.trod at ht
    rw [h.u] at ht
    split at ht <;> simp_all [Lit.wf]
theorem arg_bool {t fuel : Nat} {cs : List Value} {x : DataW H × List MemPlace} {s b : Nat} {z : List Value} [h : Ty P t .bool s b z]
    (ht : DataW.trod enc P W 0 (fun _ => true) true fuel t cs = some x) : ∃ i, cs = [.bool i] := by
  cases fuel with
  | zero => simp [DataW.trod] at ht
  | succ n =>
    unfold DataW.trod at ht
    rw [h.u] at ht
    split at ht <;> simp_all
/-- A value whose cells are one cell. -/
theorem one_of_okWide {t : TypeId} {d : TypeDesc} {s b : Nat} {z : List Value} (h : Ty P t d s b z) {w : World} {r : Reach} {base : Nat} {v u : Value} (hd : isAggD d = false) (hok : Value.okWide P w r base t v) (hc : v.cells.toList = [u]) : v = u := by
  cases v with
  | agg cs =>
    unfold Value.okWide at hok
    rw [h.u] at hok
    cases d <;> simp [isAggD] at hd <;> simp [Cell.okWide, Cell.ok, h.u] at hok
  | _ => simpa [Value.cells] using hc
theorem agg_of_okWide {t : TypeId} {d : TypeDesc} {s b : Nat} {z : List Value} (h : Ty P t d s b z) {w : World} {r : Reach} {base : Nat} {v : Value} (hd : isAggD d = true) (hok : Value.okWide P w r base t v) : ∃ cs : List Value, v = .agg cs.toArray ∧ v.cells.toList = cs := by
  unfold Value.okWide at hok
  rw [h.u] at hok
  cases d <;> simp [isAggD] at hd
  all_goals
    obtain ⟨cs, rfl, _⟩ := hok
    exact ⟨cs.toList, by simp, rfl⟩
end
end Go.Sl
