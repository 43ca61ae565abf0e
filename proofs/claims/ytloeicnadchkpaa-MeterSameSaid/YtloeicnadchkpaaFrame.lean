/- From a contract of a law's function to the given row: what is owed by the row's form. -/
import Derived.Test.YtloeicnadchkpaaSL6
import Derived.Test.YtloeicnadchkpaaRows
import Derived.WalkKit
import Derived.ProofKit
import Derived.OpenShut
import Derived.Carry
import Derived.SizedLaws
namespace Go.Sl
open Go.Proofs Go.ChangeShapes Go.WideShapes Go.ChangeAt Go.RowKit

theorem own_knob : ownKnob Try.prog.godebug = none := by kernel_rfl
theorem laid_out : laidOutB Try.prog = true := by kernel_rfl
section
variable {H : Type} {enc : TypeId × Value → H}
theorem trodAll_below {W W' : World} (hb : Below W.heap.size W W') : ∀ (ts : List TypeId) (vs : List Value) (ds : List (DataW H)) (ps : List MemPlace),
    (∀ t ∈ ts, Try.prog.readableRec t = true ∧ t < Try.prog.types.size) → DataW.TrodAll enc Try.prog W 0 (fun _ => true) true ts vs ds ps → (∀ x ∈ ps, x.block < W.heap.size) →
    DataW.TrodAll enc Try.prog W' 0 (fun b => decide (b < W.heap.size)) true ts vs ds ps
  | [], [], [], ps, _, h, _ => h
  | t :: ts, v :: vs, d :: ds, ps, hr, h, hlt => by
    obtain ⟨p, q, h1, h2, rfl⟩ := h
    exact ⟨p, q, Below.trod laid_out (hr t (.head _)).1 (hr t (.head _)).2 h1 hb (fun x hx => hlt x (List.mem_append_left _ hx)),
      trodAll_below hb ts vs ds q (fun t ht => hr t (.tail _ ht)) h2 (fun x hx => hlt x (List.mem_append_right _ hx)), rfl⟩
  | [], _ :: _, _, _, _, h, _ => h.elim
  | [], [], _ :: _, _, _, h, _ => h.elim
  | _ :: _, [], _, _, _, h, _ => h.elim
  | _ :: _, _ :: _, [], _, _, h, _ => h.elim
theorem law_post {f : Func} {s : ChangeSpec} {W W' : World} {args : Array Value} {ds gs : List (DataW H)} {before : List MemPlace} (hv : s.vars = []) (hfr : f.resultTypes = #[4])
    (hpar : f.params.toList.all (fun t => Try.prog.readableRec t && Nat.blt t Try.prog.types.size) = true) (hW : DataW.Whole enc Try.prog f.params.toList s.vars false W args.toList ds gs before)
    (hfn : s.fn H ds = { results := [.lit (.bool true)], args := ds }) (hb : Below W.heap.size W W') : s.post enc Try.prog f false true false false W args (.bool true) W' := by
  have hlt : ∀ x ∈ before, x.block < W.heap.size := fun x hx => hW.lt x hx
  have hpar' : ∀ t ∈ f.params.toList, Try.prog.readableRec t = true ∧ t < Try.prog.types.size := fun t ht => by
    have := List.all_eq_true.1 hpar t ht
    simp only [Bool.and_eq_true] at this
    exact ⟨this.1, by simpa [Nat.blt_eq] using this.2⟩
  have hW' := hW
  obtain ⟨p, q, hA, hV, rfl, _, _⟩ := hW
  rw [hv] at hV
  obtain ⟨rfl, rfl⟩ := trodVars_none hV
  simp only [List.append_nil] at hW' hlt
  refine ⟨ds, [], p, [], p, [], hW', ?_, ?_, ?_, ?_, fun h => by cases h⟩
  · rw [List.append_nil, hfn, hfr]
    exact trodAll_cons_mk (shut_bool Try.underlying4 _) trodAll_mk0
  · rw [List.append_nil, hfn]
    exact trodAll_below hb _ _ _ _ hpar' hA hlt
  · rw [List.append_nil, hfn, hv]
    rfl
  · exact World.keptBut_mono (fun x hx => ⟨hx, .inr (.inl hx)⟩) (hb.frame (· ∈ p))
theorem calls_of_SLf {W : World} {f : FuncId} {args : List Value} (h : SLf Try.prog W f args [] (fun v _ => v = .bool true)) :
    Calls Try.prog f args.toArray W (fun e W' => e = .returned (.bool true) ∧ Below W.heap.size W W') := by
  refine (h W ⟨Below.refl _ _, Own.nil⟩).mono ?_
  rintro e W' ⟨v, σ, rfl, rfl, hs⟩
  exact ⟨rfl, hs.below⟩
end
end Go.Sl
