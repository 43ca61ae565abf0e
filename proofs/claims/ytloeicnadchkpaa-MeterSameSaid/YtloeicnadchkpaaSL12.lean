/- Functions that defer one closure. -/
import Derived.Test.YtloeicnadchkpaaSL11
namespace Go.Sl
open Go.RowKit
section
variable {P : Program} {W : World} {n : Nat} {e : Tm} {ds : List Deferred} {σ σ' Fr F : List Chunk}
variable {K : Tm → List Deferred → List Chunk → Prop}
def closureD (f : FuncId) (caps : List Value) : Deferred := { target := .fn (.func f) caps.toArray, args := #[] }
theorem SLl.deferV {x : Operand} {ts : Array TypeId} {ty : TypeId} {pos : String} {aft : Array Edge} {g' g : Option (Nat × Bool)} {r : List Item} {f : FuncId} {caps : List Value}
    (hw : wantedBy e g = some true) (hf : Tm.ev e x = some (.func (.func f) #[] caps.toArray)) (k : SLl P W n Fr K r e (closureD f caps :: ds) σ) :
    SLl P W n Fr K (⟨⟨none, .defer ⟨.value x, #[], ts⟩, ty, pos, aft, g'⟩, g, .seq⟩ :: r) e ds σ :=
  SLl.defer hw (fun ds a ha w => by
    simp [resolve, ha.ev hf, Deferred.ofValue, closureD]) k
/-- At a function's end one closure is still owed. -/
def endDQ (P : Program) (W : World) (rs : List ResultVar) (R : Value → List Chunk → Prop) : Post
  | .normal, e, ds, σ | .ret, e, ds, σ => ∃ f fn c caps vs, ds = [closureD f caps] ∧ Plain P f ∧ P.funcs[f]? = some fn ∧ fn.body = some c ∧ caps.length ≤ fn.ntmps ∧ resV e rs = some vs ∧
      SLc P W fn.ntmps c (argsT 0 caps) [] σ (endQ fn.results.toList fun _ σ' => R (oneV vs) σ')
  | _, _, _, _ => False
theorem leaves_closure {fn : Func} {a : Act} {w : World} {e : Tm} {R : Value → List Chunk → Prop} {f : FuncId} {fnc : Func} {c : Code} {caps vs : List Value} (ha : Agree n e ds a) (hs : St W σ w)
    (hp : Plain P f) (hf : P.funcs[f]? = some fnc) (hb : fnc.body = some c) (hn : caps.length ≤ fnc.ntmps) (hv : resV e fn.results.toList = some vs)
    (h : SLc P W fnc.ntmps c (argsT 0 caps) [] σ (endQ fnc.results.toList fun _ σ' => R (oneV vs) σ')) :
    Leaves P fn a.tmps (fun x w' => ∃ v σ', x = .returned v ∧ R v σ' ∧ St W σ' w') [closureD f caps] .returning w := by
  unfold closureD
  refine leaves_cons (f := f) (args := caps.toArray) (by simp) ?_ ?_
  · simp only [invoke]
    rw [Array.empty_append]
    exact run_callFunc hp w
  · refine CallsD.mono (callsD_of_wp (R := fun x w' => ∃ v σ', x = .returned v ∧ R (oneV vs) σ' ∧ St W σ' w') hf hb (wp_mono (h _ w (agree_args hn) hs) ?_)) ?_
    · rintro x a' w' ⟨e', ds', σ1, hq, ha', hw'⟩
      cases x with
      | normal => obtain ⟨rfl, us, σ2, h1, h3, h2⟩ := hq; exact ⟨ha'.defers, _, run_results ha' h1 w', _, σ2, rfl, h2, hw'.ent h3⟩
      | ret => obtain ⟨rfl, us, σ2, h1, h3, h2⟩ := hq; exact ⟨ha'.defers, _, run_results ha' h1 w', _, σ2, rfl, h2, hw'.ent h3⟩
      | _ => exact hq.elim
    · rintro x u' w' ⟨rfl, v, σ', rfl, hR, hw'⟩
      exact ⟨_, run_results ha hv w', _, σ', rfl, hR, hw'⟩
theorem SLf.enterD {f : FuncId} {fn : Func} {c : Code} {args : List Value} {R : Value → List Chunk → Prop} (hf : P.funcs[f]? = some fn) (hb : fn.body = some c) (hn : args.length ≤ fn.ntmps)
    (h : SLc P W fn.ntmps c (argsT 0 args) [] σ (endDQ P W fn.results.toList R)) : SLf P W f args σ R := by
  intro w hw
  refine calls_of_wp_defers hf hb (wp_mono (h _ w (agree_args hn) hw) ?_)
  rintro x a' w' ⟨e', ds', σ', hq, ha', hw'⟩
  cases x with
  | normal =>
    obtain ⟨f', fn', c', caps, vs, rfl, hp, h1, h2, h3, h4, h5⟩ := hq
    show Leaves P fn a'.tmps _ a'.defers .returning w'
    rw [ha'.defers]
    exact leaves_closure ha' hw' hp h1 h2 h3 h4 h5
  | ret =>
    obtain ⟨f', fn', c', caps, vs, rfl, hp, h1, h2, h3, h4, h5⟩ := hq
    show Leaves P fn a'.tmps _ a'.defers .returning w'
    rw [ha'.defers]
    exact leaves_closure ha' hw' hp h1 h2 h3 h4 h5
  | _ => exact hq.elim
theorem SLo.callW {dst : Option Tmp} {ty : TypeId} {pos : String} {aft : Array Edge} {g : Option (Nat × Bool)} {K' : Value → List Chunk → Prop} {f : FuncId} {x : Operand} {xs : Array Operand} {ts : Array TypeId} {args pre caps : List Value} (hp : Plain P f) (hf : Tm.ev e x = some (.func (.func f) pre.toArray caps.toArray)) (hx : Tm.evs e xs.toList = some args)
    (h : SLf P W f (pre ++ (args ++ caps)) σ K') : SLo P W n ⟨dst, .call ⟨.value x, xs, ts⟩, ty, pos, aft, g⟩ e σ K' := by
  intro ds a w ha hs
  have e1 : xs.map a.eval = args.toArray := Array.toList_inj.1 (by rw [Array.toList_map]; exact ha.evs hx)
  have hrun : (execOp a.eval ⟨dst, .call ⟨.value x, xs, ts⟩, ty, pos, aft, g⟩).run P w = .ok (.enter f (pre ++ (args ++ caps)).toArray) w := by
    simp only [execOp, resolve, e1, ha.ev hf, Deferred.ofValue, Sem.run_bind, Sem.run_pure, Result.andThen_ok, invoke]
    simp [run_callFunc hp]
  unfold Oper.wp
  rw [hrun]
  refine (h w hs).mono ?_
  rintro x w' ⟨v, σ', rfl, hk, hw'⟩
  exact ⟨v, σ', hk, rfl, hw'⟩
/-- A region (or any code) and what follows it are joined ahead of the rest. -/
theorem SLc.join2 {a b c : Code} {Q : Post} (R : Tm → List Deferred → List Chunk → Prop)
    (h : SLc P W n a e ds σ (thenQ (fun e ds σ => SLc P W n b e ds σ (thenQ R Q)) Q)) (hr : ∀ e ds σ, R e ds σ → SLc P W n c e ds σ Q) : SLc P W n (.seq a (.seq b c)) e ds σ Q := by
  refine SLc.seq (SLc.post h ?_)
  intro x e' ds' σ' hq
  cases x with
  | normal =>
    refine SLc.seq (SLc.post hq ?_)
    intro y e2 ds2 σ2 hq2
    cases y with
    | normal => exact hr _ _ _ hq2
    | _ => exact hq2
  | _ => exact hq
theorem SLc.join3 {a b c : Code} {Q : Post} (R : Tm → List Deferred → List Chunk → Prop)
    (h : SLc P W n a e ds σ (thenQ (fun e ds σ => SLc P W n b e ds σ (thenQ R Q)) Q)) (hr : ∀ e ds σ, R e ds σ → SLc P W n c e ds σ Q) : SLc P W n a e ds σ (thenQ (fun e ds σ => SLc P W n (.seq b c) e ds σ Q) Q) := by
  refine SLc.post h ?_
  intro x e' ds' σ' hq
  cases x with
  | normal =>
    refine SLc.seq (SLc.post hq ?_)
    intro y e2 ds2 σ2 hq2
    cases y with
    | normal => exact hr _ _ _ hq2
    | _ => exact hq2
  | _ => exact hq
theorem SLc.join4 {a b : Code} {R' : Tm → List Deferred → List Chunk → Prop} {Q : Post} (R : Tm → List Deferred → List Chunk → Prop)
    (h : SLc P W n a e ds σ (thenQ (fun e ds σ => SLc P W n b e ds σ (thenQ R Q)) (thenQ R Q))) (hr : ∀ e ds σ, R e ds σ → R' e ds σ) : SLc P W n a e ds σ (thenQ (fun e ds σ => SLc P W n b e ds σ (thenQ R' Q)) (thenQ R' Q)) := by
  refine SLc.post h ?_
  intro x e' ds' σ' hq
  cases x with
  | normal =>
    refine SLc.post hq ?_
    intro y e2 ds2 σ2 hq2
    cases y with
    | normal => exact hr _ _ _ hq2
    | _ => exact hq2
  | _ => exact hq
end
end Go.Sl
