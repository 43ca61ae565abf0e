/- From a contract of a law's function with arguments to its row: the statement's wrap, once for all rows of this seat. No condition beyond the row's own. -/
import Derived.Test.YtloeicnadchkpaaFacts
import Derived.Test.YtloeicnadchkpaaArgs2
namespace Go.Sl
open Go.Proofs Go.ChangeShapes Go.WideShapes Go.ChangeAt Go.RowKit

section
variable {H : Type} {enc : TypeId × Value → H}
abbrev TrodAt (enc : TypeId × Value → H) (W : World) (t : TypeId) (v : Value) (d : DataW H) : Prop := ∃ p, DataW.Trod enc Try.prog W 0 (fun _ => true) true t v d p
theorem trodAll_cons' {W : World} {t : TypeId} {ts : List TypeId} {vs : List Value} {ds : List (DataW H)} {ps : List MemPlace} (h : DataW.TrodAll enc Try.prog W 0 (fun _ => true) true (t :: ts) vs ds ps) :
    ∃ v vs' d ds' q, vs = v :: vs' ∧ ds = d :: ds' ∧ TrodAt enc W t v d ∧ DataW.TrodAll enc Try.prog W 0 (fun _ => true) true ts vs' ds' q := by
  match vs, ds, h with
  | v :: vs', d :: ds', ⟨p, q, h1, h2, _⟩ => exact ⟨v, vs', d, ds', q, rfl, rfl, ⟨p, h1⟩, h2⟩
theorem trodAll_end {W : World} {vs : List Value} {ds : List (DataW H)} {ps : List MemPlace} (h : DataW.TrodAll enc Try.prog W 0 (fun _ => true) true [] vs ds ps) : vs = [] ∧ ds = [] := by
  match vs, ds, h with
  | [], [], _ => exact ⟨rfl, rfl⟩
theorem args_two {W : World} {t1 t2 : TypeId} {vs : List Value} {ds : List (DataW H)} {ps : List MemPlace} (h : DataW.TrodAll enc Try.prog W 0 (fun _ => true) true [t1, t2] vs ds ps) :
    ∃ v1 v2 d1 d2, vs = [v1, v2] ∧ ds = [d1, d2] ∧ TrodAt enc W t1 v1 d1 ∧ TrodAt enc W t2 v2 d2 := by
  obtain ⟨v1, vs1, d1, ds1, q1, rfl, rfl, h1, h⟩ := trodAll_cons' h
  obtain ⟨v2, vs2, d2, ds2, q2, rfl, rfl, h2, h⟩ := trodAll_cons' h
  obtain ⟨rfl, rfl⟩ := trodAll_end h
  exact ⟨v1, v2, d1, d2, rfl, rfl, h1, h2⟩
theorem fits_at {ts : List TypeId} {ds : List (DataW H)} (h : (DataW.weightsEach Try.prog ts ds).all (· ≤ reachBytes) = true) {j : Nat} {t : TypeId} {d : DataW H} (ht : ts[j]? = some t) (hd : ds[j]? = some d) : Fits Try.prog t d := fun m hm => by
  have := List.all_eq_true.1 h m (DataW.weights_mem_each ht hd m hm)
  simpa using this
set_option maxRecDepth 100000 in
theorem lift_law {os : Os} (started : os.Started) {f : FuncId} {fn : Func} {s : ChangeSpec} {conds : List PathCond} (noInit : Try.checked.prog.inits.idxOf? f = none) (hfn : Try.checked.prog.funcs[f]? = some fn)
    (witness : ∃ (w : World) (tape : Tape) (i : Input), w.os = os ∧ (w.forCall tape i).Shaped Try.checked.prog ∧ i.vars = [] ∧ Input.okWide Try.checked.prog (w.forCall tape i) .any w.heap.size f i ∧
      s.pre6 enc Try.checked.prog fn conds false (w.forCall tape i).memory i.args ∧ ({} : Assume).holds Try.checked.prog (lone (Frame.enter Try.checked.prog f i.args .normal) [] (w.forCall tape i)))
    (hv : s.vars = []) (hvt : s.plain.varTypes Try.prog = []) (hrt : fn.resultTypes = #[4]) (hpar : fn.params.toList.all (fun t => Try.prog.readableRec t && Nat.blt t Try.prog.types.size) = true)
    (contract : ∀ (W : World) (base : Nat) (args : List Value) (ds : List (DataW H)) (ps : List MemPlace),
      (∀ (j : Nat) t v, fn.params[j]? = some t → args[j]? = some v → Value.okWide Try.prog W .any base t v) →
      DataW.TrodAll enc Try.prog W 0 (fun _ => true) true fn.params.toList args ds ps →
      (DataW.weightsEach Try.prog fn.params.toList ds).all (· ≤ reachBytes) = true →
      SLf Try.prog W f args [] (fun v _ => v = .bool true) ∧ s.fn H ds = { results := [.lit (.bool true)], args := ds }) :
    ReturnsInHanded {} Try.checked os f .any (s.pre6 enc Try.prog fn conds false) (s.post enc Try.prog fn false true false false) := by
  refine returnsInHanded_of_change_sized (C := Try.checked) own_knob started noInit hfn witness ?_
  intro W base args ds gs before hval hW _ hz _
  have hW' := hW
  obtain ⟨p, q, hA, hV, _⟩ := hW
  rw [hv] at hV
  obtain ⟨rfl, _⟩ := trodVars_none hV
  have hz' : (DataW.weightsEach Try.prog fn.params.toList ds).all (· ≤ reachBytes) = true := by
    have hvt' : s.plain.varTypes Try.checked.prog = [] := hvt
    rw [hvt', List.append_nil, List.append_nil] at hz
    exact hz
  obtain ⟨h1, h2⟩ := contract W base args.toList ds p (fun j t v ht hj => hval j t v ht (by rw [← Array.getElem?_toList]; exact hj)) hA hz'
  have h3 := calls_of_SLf h1
  rw [Array.toArray_toList] at h3
  exact h3.mono fun e W' ⟨he, hb⟩ => ⟨_, he, law_post hv hrt hpar hW' h2 hb⟩
end
end Go.Sl
