/- Results that are cells of the call; elements of arrays. -/
import Derived.Test.YtloeicnadchkpaaSL12
namespace Go.Sl
open Go.RowKit
section
variable {P : Program} {W : World} {n : Nat} {e : Tm} {ds : List Deferred} {σ σ' Fr F : List Chunk}
inductive ResW (P : Program) (W : World) (e : Tm) (σ : List Chunk) : List ResultVar → List Value → Prop
  | nil : ResW P W e σ [] []
  | tmp {t : Nat} {v : Value} {r : List ResultVar} {vs : List Value} : Tm.get e t = some v → ResW P W e σ r vs → ResW P W e σ (.tmp t :: r) (v :: vs)
  | cell {c t : Nat} {ad : Addr} {us : List Value} {d : TypeDesc} {s b : Nat} {z : List Value} {r : List ResultVar} {vs : List Value} (h : Ty P t d s b z) (hd : isAggD d = true) :
      Tm.get e c = some (.pointer (some ad)) → ReadsN W σ ad us → us.length = s → ResW P W e σ r vs → ResW P W e σ (.cell c t :: r) (.agg us.toArray :: vs)
def endC (P : Program) (W : World) (rs : List ResultVar) (R : Value → List Chunk → Prop) : Post
  | .normal, e, ds, σ => ds = [] ∧ ∃ vs σ', ResW P W e σ rs vs ∧ Ent σ σ' ∧ R (oneV vs) σ'
  | .ret, e, ds, σ => ds = [] ∧ ∃ vs σ', ResW P W e σ rs vs ∧ Ent σ σ' ∧ R (oneV vs) σ'
  | _, _, _, _ => False
theorem run_resultsC {fn : Func} {a : Act} (ha : Agree n e ds a) {vs : List Value} {w : World} (hs : St W σ w) (h : ResW P W e σ fn.results.toList vs) : (results fn a.tmps).run P w = .ok (oneV vs) w := by
  have key : ∀ (rs : List ResultVar) (vs : List Value), ResW P W e σ rs vs → (rs.mapM fun (x : ResultVar) => (match x with
      | .tmp t => pure (a.tmps.getD t undef)
      | .cell c t => do loadVar t (← asAddr (a.tmps.getD c undef)) : Sem Value)).run P w = .ok vs w := by
    intro rs vs h
    induction h with
    | nil => rfl
    | tmp h1 _ ih =>
      have := ha.get _ _ h1
      simp only [List.mapM_cons, Sem.run_bind, Sem.run_pure, Result.andThen_ok, ih]
      simp [this]
    | @cell c t ad us d s b z r vs h hd h1 h2 h3 _ ih =>
      have hg := ha.get _ _ h1
      have hv : a.tmps.getD c undef = .pointer (some ad) := by simp [hg]
      have hl := run_loadCells_list (P := P) (w := w) ad us (fun j v hj => h2 w hs j v hj)
      have hr : (do loadVar t (← asAddr (a.tmps.getD c undef)) : Sem Value).run P w = .ok (.agg us.toArray) w := by
        rw [hv]
        simp [asAddr, loadVar, run_isAgg (h := h), hd, h.sizeOf, ← h3, hl]
      simp only [Sem.run_bind] at hr
      simp only [List.mapM_cons, Sem.run_bind, Sem.run_pure]
      refine (congrArg (fun x : Result Value => x.andThen _) hr).trans ?_
      simp only [Result.andThen_ok]
      refine (congrArg (fun x : Result (List Value) => x.andThen _) ih).trans ?_
      rfl
  unfold results
  rw [Array.mapM_eq_mapM_toList]
  have hk := key _ _ h
  simp only [Sem.run_bind, Sem.run_map]
  refine (congrArg (fun r : Result (List Value) => (r.andThen fun a w' => Result.ok a.toArray w').andThen fun a w' => (Pure.pure (if h : a.size = 1 then a[0] else Value.tuple a) : Sem Value).run P w') hk).trans ?_
  cases vs with
  | nil => rfl
  | cons v r => cases r with
    | nil => rfl
    | cons u r => simp [oneV]
theorem SLf.enterC {f : FuncId} {fn : Func} {c : Code} {args : List Value} {R : Value → List Chunk → Prop} (hf : P.funcs[f]? = some fn) (hb : fn.body = some c) (hn : args.length ≤ fn.ntmps)
    (h : SLc P W fn.ntmps c (argsT 0 args) [] σ (endC P W fn.results.toList R)) : SLf P W f args σ R := by
  intro w hw
  refine calls_of_wp hf hb (wp_mono (h _ w (agree_args hn) hw) ?_)
  rintro x a' w' ⟨e', ds', σ', hq, ha', hw'⟩
  cases x with
  | normal => obtain ⟨rfl, vs, σ2, h1, h3, h2⟩ := hq; exact ⟨ha'.defers, _, run_resultsC ha' hw' h1, _, σ2, rfl, h2, hw'.ent h3⟩
  | ret => obtain ⟨rfl, vs, σ2, h1, h3, h2⟩ := hq; exact ⟨ha'.defers, _, run_resultsC ha' hw' h1, _, σ2, rfl, h2, hw'.ent h3⟩
  | _ => exact hq.elim
section ops
variable {dst : Option Tmp} {ty : TypeId} {pos : String} {aft : Array Edge} {g : Option (Nat × Bool)}
/-- Of an element, itself an array, of a slice. -/
theorem Rd.indexArrEl {x y : Operand} {t el : TypeId} {v : Value} {s0 j k m q i' : Nat} {kk : IntKind} {i : Int} {s b s' b' : Nat} {z z' : List Value} {d : TypeDesc} [h : Ty P t (.array m el) s b z] [h' : Ty P el d s' b' z']
    (hx : Tm.ev e x = some (.pointer (some (v.el s0 j k)))) (hy : Tm.ev e y = some (.int kk i)) (hi : i = (i' : Int)) (hlt : i' < m) (hl : Len W σ v q) (hj : j < q) :
    Rd P W n ⟨dst, .indexAddr t x y, ty, pos, aft, g⟩ e σ (.pointer (some (v.el s0 j (k + i' * s')))) := by
  intro ds a ha w hs
  obtain ⟨ad, c, rfl, h3, h4⟩ := hl w hs
  subst hi
  cases ad with
  | none => have := h4 rfl; omega
  | some ad =>
    have hin : (0 : Int) ≤ (i' : Int) ∧ (i' : Int) < (m : Int) := by omega
    simp only [execOp, ha.ev hx, ha.ev hy, Instr.indexAt, asIntOf, Sem.run_bind, h.underlying, Result.andThen_ok, Sem.run_pure, Instr.sureAddr]
    simp [hin, h'.sizeOf, Value.el, add_plain, Nat.add_assoc]
end ops
end
end Go.Sl
