/- Rules for code, loops, calls. -/
import Derived.Test.YtloeicnadchkpaaSL5
namespace Go.Sl
open Go.RowKit

abbrev Post := Exit → Tm → List Deferred → List Chunk → Prop
def SLc (P : Program) (W : World) (n : Nat) (c : Code) (e : Tm) (ds : List Deferred) (σ : List Chunk) (Q : Post) : Prop :=
  ∀ a w, Agree n e ds a → St W σ w → c.wp P (fun x a' w' => ∃ e' ds' σ', Q x e' ds' σ' ∧ Agree n e' ds' a' ∧ St W σ' w') a w
def thenQ (next : Tm → List Deferred → List Chunk → Prop) (Q : Post) : Post
  | .normal, e, ds, σ => next e ds σ
  | x, e, ds, σ => Q x e ds σ
def blkQ (id : Nat) (Q : Post) : Post
  | .exit id', e, ds, σ => if id' = id then Q .normal e ds σ else Q (.exit id') e ds σ
  | x, e, ds, σ => Q x e ds σ

section
variable {P : Program} {W : World} {n : Nat} {e : Tm} {ds : List Deferred} {σ σ' Fr F : List Chunk} {Q : Post}
theorem SLc.weaken {c : Code} {e' : Tm} (hs : Sub e' e) (he : Ent σ σ') (h : SLc P W n c e' ds σ' Q) : SLc P W n c e ds σ Q :=
  fun a w ha hw => h a w (ha.sub hs) (hw.ent he)
theorem SLc.imp {c : Code} (hσ : ∀ w, St W σ w → St W σ' w) (h : SLc P W n c e ds σ' Q) : SLc P W n c e ds σ Q :=
  fun a w ha hw => h a w ha (hσ w hw)
theorem SLc.post {c : Code} {Q' : Post} (h : SLc P W n c e ds σ Q') (hq : ∀ x e ds σ, Q' x e ds σ → Q x e ds σ) : SLc P W n c e ds σ Q :=
  fun a w ha hw => wp_mono (h a w ha hw) fun _ _ _ ⟨e', ds', σ', h1, h2⟩ => ⟨e', ds', σ', hq _ _ _ _ h1, h2⟩
theorem SLc.skip (h : Q .normal e ds σ) : SLc P W n .skip e ds σ Q := fun _ _ ha hw => wp_skip ⟨e, ds, σ, h, ha, hw⟩
theorem SLc.ret (h : Q .ret e ds σ) : SLc P W n .ret e ds σ Q := fun _ _ ha hw => wp_ret ⟨e, ds, σ, h, ha, hw⟩
theorem SLc.exit {id : Nat} (h : Q (.exit id) e ds σ) : SLc P W n (.exit id) e ds σ Q := fun _ _ ha hw => wp_exit ⟨e, ds, σ, h, ha, hw⟩
theorem SLc.seq {x y : Code} (h : SLc P W n x e ds σ (thenQ (fun e ds σ => SLc P W n y e ds σ Q) Q)) : SLc P W n (.seq x y) e ds σ Q := by
  intro a w ha hw
  refine wp_seq (wp_mono (h a w ha hw) ?_)
  rintro x a' w' ⟨e', ds', σ', hq, ha', hw'⟩
  cases x with
  | normal => exact hq a' w' ha' hw'
  | _ => exact ⟨e', ds', σ', hq, ha', hw'⟩
theorem SLc.condT {c : Operand} {x y : Code} (hc : Tm.ev e c = some (.bool true)) (h : SLc P W n x e ds σ Q) : SLc P W n (.cond c x y) e ds σ Q :=
  fun a w ha hw => wp_cond_true (ha.ev hc) (h a w ha hw)
theorem SLc.condF {c : Operand} {x y : Code} (hc : Tm.ev e c = some (.bool false)) (h : SLc P W n y e ds σ Q) : SLc P W n (.cond c x y) e ds σ Q :=
  fun a w ha hw => wp_cond_false (ha.ev hc) (h a w ha hw)
theorem SLc.cond {c : Operand} {x y : Code} {b : Bool} (hc : Tm.ev e c = some (.bool b)) (ht : b = true → SLc P W n x e ds σ Q) (hf : b = false → SLc P W n y e ds σ Q) : SLc P W n (.cond c x y) e ds σ Q := by
  cases b with
  | true => exact .condT hc (ht rfl)
  | false => exact .condF hc (hf rfl)
theorem SLc.block {id : Nat} {c : Code} (h : SLc P W n c e ds σ (blkQ id Q)) : SLc P W n (.block id c) e ds σ Q := by
  intro a w ha hw
  refine wp_block (wp_mono (h a w ha hw) ?_)
  rintro x a' w' ⟨e', ds', σ', hq, ha', hw'⟩
  cases x with
  | exit id' =>
    simp only [blkQ] at hq
    simp only [Exit.inBlock]
    split
    · rename_i h; rw [if_pos h] at hq; exact ⟨e', ds', σ', hq, ha', hw'⟩
    · rename_i h; rw [if_neg h] at hq; exact ⟨e', ds', σ', hq, ha', hw'⟩
  | _ => exact ⟨e', ds', σ', hq, ha', hw'⟩
theorem SLc.region {id : Nat} {ops : Array Oper} (hg : guardsOk ops = true) (h : SLl P W n [] (fun e ds σ => Q .normal e ds σ) (itemsOf ops) e ds σ) : SLc P W n (.region id ops false) e ds σ Q := by
  intro a w ha hw
  refine wp_region ?_
  refine wpOps_monoQ ?_ _ _ _ (SLc_region_aux hg h ha hw)
  rintro x a' w' ⟨rfl, h⟩
  exact h
where
  wpOps_monoQ {P : Program} {ops : Array Oper} {Q Q' : Exit → Act → World → Prop} (hq : ∀ e a w, Q e a w → Q' e a w) : ∀ (l : List Nat) (a : Act) (w : World), wpOps P ops Q l a w → wpOps P ops Q' l a w
    | [], _, _, h => hq _ _ _ h
    | i :: l, a, w, h => by
      rw [wpOps_cons] at *
      unfold wpOp at *
      split
      · rename_i ho; simp only [ho] at h; exact wpOps_monoQ hq l _ _ h
      · rename_i o ho
        simp only [ho] at h
        split
        · rename_i hw
          simp only [hw, if_true] at h
          exact h.imp (fun h => Oper.wp_monoQ hq (Oper.wp_mono (fun a w => wpOps_monoQ hq l a w) h)) (fun ⟨h1, a', w', h2⟩ => ⟨h1, a', w', hq _ _ _ h2⟩)
        · rename_i hw; simp only [hw] at h; exact wpOps_monoQ hq l _ _ h
/-- A region that draws: c is an order for the walk, L the operations that are read ahead. -/
def needsOf (ops : Array Oper) (L : List Nat) (j : Nat) : Bool :=
  L.any fun i => i != j && !((ops[j]?).map fun o => o.after.any fun e => Region.binds .any e && e.on == i).getD false
def planOk (ops : Array Oper) (c : List (Nat × Flag)) : Bool :=
  Region.noSelect ops && guardsOk ops && canonB .any ops (needsOf ops (c.filterMap fun x => match x.2 with | .take => some x.1 | _ => none)) c (Array.replicate ops.size false) && decide (c.length ≤ ops.size)
theorem SLc.draws {id : Nat} {ops : Array Oper} (Fr : List Chunk) (c : List (Nat × Flag)) (hm : P.follows .mixedOrders = true) (hp : planOk ops c = true) (hF : Ent σ Fr)
    (h : SLl P W n Fr (fun e ds σ => Q .normal e ds σ) (itemsBy ops c) e ds σ) : SLc P W n (.region id ops true) e ds σ Q := by
  intro a w ha hw
  simp only [planOk, Bool.and_eq_true, decide_eq_true_eq] at hp
  obtain ⟨⟨⟨h1, h2⟩, h3⟩, h4⟩ := hp
  have hw' : St W σ { w with drawn := w.drawn + 1 } := hw.drew rfl rfl rfl rfl
  have h0 : (Code.region id ops true).wp P (fun x a' w' => x = .normal ∧ ∃ e' ds' σ', Q .normal e' ds' σ' ∧ Agree n e' ds' a' ∧ St W σ' w') a w :=
    wp_region_any hm (wpAny_of_needs _ _ _ _ (wpAnyN_of_SLl (Q := fun x a' w' => x = .normal ∧ ∃ e' ds' σ', Q .normal e' ds' σ' ∧ Agree n e' ds' a' ∧ St W σ' w') h1 h2 c _ e ds σ a _ _ h3 h4 h ha hw' (.inl hF) (fun _ _ h => ⟨rfl, h⟩) (fun c a w h => by cases h.1)))
  refine wp_mono h0 ?_
  rintro x a' w' ⟨rfl, h⟩
  exact h
/-- A loop: its states are told by ι. -/
theorem SLc.loop {c : Code} {ι : Type} (E : ι → Tm) (S : ι → List Chunk) (H : ι → Prop) (μ : ι → Nat) (i0 : ι) (h0 : H i0) (hs : Sub (E i0) e) (hσ : Ent σ (S i0))
    (round : ∀ i, H i → SLc P W n c (E i) ds (S i) (thenQ (fun e' ds' σ' => ds' = ds ∧ ∃ j, H j ∧ μ j < μ i ∧ Sub (E j) e' ∧ Ent σ' (S j)) Q)) : SLc P W n (.loop c) e ds σ Q := by
  have key : ∀ m i a w, μ i = m → H i → Agree n (E i) ds a → St W (S i) w → ∀ (b : Frame) (k : List Go.Item) (cs : List Frame),
      ∃ x a' w', (∃ e' ds' σ', Q x e' ds' σ' ∧ Agree n e' ds' a' ∧ St W σ' w') ∧ Arrives P (lone (b.at a (.code c :: .inLoop c :: k)) cs w) b k cs x a' w' := by
    intro m
    induction m using Nat.strongRecOn with
    | _ m ih =>
      intro i a w hm hi ha hw b k cs
      obtain ⟨x, a₁, w₁, ⟨e', ds', σ', hq, ha', hw'⟩, harr⟩ := round i hi a w ha hw b (.inLoop c :: k) cs
      cases x with
      | normal =>
        obtain ⟨rfl, j, hj, hlt, hsub, hent⟩ := hq
        obtain ⟨x₂, a₂, w₂, hq₂, harr₂⟩ := ih (μ j) (hm ▸ hlt) j a₁ w₁ rfl hj (ha'.sub hsub) (hw'.ent hent) b k cs
        exact ⟨x₂, a₂, w₂, hq₂, .of_steps (Steps.trans harr (.one step_inLoop)) harr₂⟩
      | exit id => exact ⟨_, a₁, w₁, ⟨e', ds', σ', hq, ha', hw'⟩, .pass (x := .inLoop c) rfl (fun _ _ => .inl (by simp)) harr⟩
      | goto l => exact ⟨_, a₁, w₁, ⟨e', ds', σ', hq, ha', hw'⟩, .pass (x := .inLoop c) rfl (fun _ _ => .inl (by simp)) harr⟩
      | ret => exact ⟨_, a₁, w₁, ⟨e', ds', σ', hq, ha', hw'⟩, .pass (x := .inLoop c) rfl (fun _ _ => .inl (by simp)) harr⟩
      | panic ch => exact ⟨_, a₁, w₁, ⟨e', ds', σ', hq, ha', hw'⟩, .pass (x := .inLoop c) rfl (fun _ _ => .inl (by simp)) harr⟩
      | outgrown => exact ⟨_, a₁, w₁, ⟨e', ds', σ', hq, ha', hw'⟩, .pass (x := .inLoop c) rfl (fun _ _ => .inl (by simp)) harr⟩
  intro a w ha hw b k cs
  obtain ⟨x, a', w', hq, harr⟩ := key _ i0 a w rfl h0 (ha.sub hs) (hw.ent hσ) b k cs
  exact ⟨x, a', w', hq, .of_steps (.one step_loop) harr⟩

/-! ### Calls -/
def SLf (P : Program) (W : World) (f : FuncId) (args : List Value) (σ : List Chunk) (R : Value → List Chunk → Prop) : Prop :=
  ∀ w, St W σ w → Calls P f args.toArray w (fun x w' => ∃ v σ', x = .returned v ∧ R v σ' ∧ St W σ' w')
def argsT (i : Nat) : List Value → Tm
  | [] => []
  | v :: r => (i, v) :: argsT (i + 1) r
def resV (e : Tm) : List ResultVar → Option (List Value)
  | [] => some []
  | .tmp t :: r => match Tm.get e t, resV e r with
    | some v, some vs => some (v :: vs)
    | _, _ => none
  | .cell _ _ :: _ => none
def oneV : List Value → Value
  | [v] => v
  | vs => .tuple vs.toArray
def endQ (rs : List ResultVar) (R : Value → List Chunk → Prop) : Post
  | .normal, e, ds, σ => ds = [] ∧ ∃ vs σ', resV e rs = some vs ∧ Ent σ σ' ∧ R (oneV vs) σ'
  | .ret, e, ds, σ => ds = [] ∧ ∃ vs σ', resV e rs = some vs ∧ Ent σ σ' ∧ R (oneV vs) σ'
  | _, _, _, _ => False
theorem run_results {fn : Func} {a : Act} (ha : Agree n e ds a) {vs : List Value} (h : resV e fn.results.toList = some vs) (w : World) : (results fn a.tmps).run P w = .ok (oneV vs) w := by
  have key : ∀ (rs : List ResultVar) (vs : List Value), resV e rs = some vs → (rs.mapM fun (x : ResultVar) => (match x with
      | .tmp t => pure (a.tmps.getD t undef)
      | .cell c t => do loadVar t (← asAddr (a.tmps.getD c undef)) : Sem Value)).run P w = .ok vs w := by
    intro rs
    induction rs with
    | nil => intro vs h; simp [resV] at h; subst h; rfl
    | cons r rs ih =>
      intro vs h
      cases r with
      | cell c t => simp [resV] at h
      | tmp t =>
        simp only [resV] at h
        split at h
        · rename_i v vs' h1 h2
          simp only [Option.some.injEq] at h
          subst h
          have := ha.get _ _ h1
          simp only [List.mapM_cons, Sem.run_bind, Sem.run_pure, Result.andThen_ok, ih vs' h2]
          simp [this]
        · cases h
  unfold results
  rw [Array.mapM_eq_mapM_toList]
  have hk := key _ _ h
  simp only [Sem.run_bind, Sem.run_map]
  refine (congrArg (fun r : Result (List Value) => (r.andThen fun a w' => Result.ok a.toArray w').andThen fun a w' => (Pure.pure (if h : a.size = 1 then a[0] else Value.tuple a) : Sem Value).run P w') hk).trans ?_
  cases vs with
  | nil => rfl
  | cons v r => cases r with
    | nil => rfl
    | cons u r => simp [oneV]
theorem agree_args {args : List Value} {nt : Nat} (hn : args.length ≤ nt) : Agree nt (argsT 0 args) [] { tmps := args.toArray ++ Array.replicate (nt - args.toArray.size) undef, defers := [] } := by
  refine ⟨by simp; omega, rfl, ?_⟩
  have key : ∀ (l : List Value) (i t : Nat) (v : Value), Tm.get (argsT i l) t = some v → i ≤ t ∧ l[t - i]? = some v := by
    intro l
    induction l with
    | nil => intro i t v h; simp [argsT, Tm.get] at h
    | cons x r ih =>
      intro i t v h
      simp only [argsT, Tm.get] at h
      cases hk : Nat.beq i t with
      | true =>
        have : i = t := Nat.eq_of_beq_eq_true hk
        subst this
        simp at h
        subst h
        exact ⟨Nat.le_refl _, by simp⟩
      | false =>
        simp [hk] at h
        obtain ⟨h1, h2⟩ := ih _ _ _ h
        refine ⟨by omega, ?_⟩
        rw [show t - i = (t - (i + 1)) + 1 by omega]
        simpa using h2
  intro t v h
  obtain ⟨_, h2⟩ := key _ _ _ _ h
  simp only [Nat.sub_zero] at h2
  have hlt := (List.getElem?_eq_some_iff.1 h2).1
  rw [Array.getElem?_append_left (by simpa using hlt)]
  simpa using h2
theorem SLf.enter {f : FuncId} {fn : Func} {c : Code} {args : List Value} {R : Value → List Chunk → Prop} (hf : P.funcs[f]? = some fn) (hb : fn.body = some c) (hn : args.length ≤ fn.ntmps)
    (h : SLc P W fn.ntmps c (argsT 0 args) [] σ (endQ fn.results.toList R)) : SLf P W f args σ R := by
  intro w hw
  refine calls_of_wp hf hb (wp_mono (h _ w (agree_args hn) hw) ?_)
  rintro x a' w' ⟨e', ds', σ', hq, ha', hw'⟩
  cases x with
  | normal => obtain ⟨rfl, vs, σ2, h1, h3, h2⟩ := hq; exact ⟨ha'.defers, _, run_results ha' h1 w', _, σ2, rfl, h2, hw'.ent h3⟩
  | ret => obtain ⟨rfl, vs, σ2, h1, h3, h2⟩ := hq; exact ⟨ha'.defers, _, run_results ha' h1 w', _, σ2, rfl, h2, hw'.ent h3⟩
  | _ => exact hq.elim
theorem SLf.mono {f : FuncId} {args : List Value} {R R' : Value → List Chunk → Prop} (h : SLf P W f args σ R) (hr : ∀ v σ, R v σ → R' v σ) : SLf P W f args σ R' :=
  fun w hw => (h w hw).mono fun _ _ ⟨v, σ', h1, h2, h3⟩ => ⟨v, σ', h1, hr _ _ h2, h3⟩
theorem SLf.ent {f : FuncId} {args : List Value} {R : Value → List Chunk → Prop} (he : Ent σ σ') (h : SLf P W f args σ' R) : SLf P W f args σ R := fun w hw => h w (hw.ent he)
theorem SLf.imp {f : FuncId} {args : List Value} {R : Value → List Chunk → Prop} (he : ∀ w, St W σ w → St W σ' w) (h : SLf P W f args σ' R) : SLf P W f args σ R := fun w hw => h w (he w hw)
section ops
variable {dst : Option Tmp} {ty : TypeId} {pos : String} {aft : Array Edge} {g : Option (Nat × Bool)} {K : Value → List Chunk → Prop}
/-- A function with a Go body that is entered as any other. -/
def Plain (P : Program) (f : FuncId) : Prop := ∃ fn, P.funcs[f]? = some fn ∧ fn.body.isNone = false ∧ (fn.name == "runtime.NumGoroutine") = false
theorem run_callFunc {f : FuncId} {args : Array Value} (h : Plain P f) (w : World) : (callFunc f args).run P w = .ok (.enter f args) w := by
  obtain ⟨fn, h1, h2, h3⟩ := h
  simp only [callFunc, Sem.run_bind, run_program, Result.andThen_ok, h1, h3, h2, Bool.false_eq_true, if_false, Sem.run_pure]
theorem SLo.callV {f : FuncId} {x : Operand} {xs : Array Operand} {ts : Array TypeId} {args : List Value} {a1 : List Value} (hp : Plain P f) (hf : Tm.ev e x = some (.func (.func f) #[] a1.toArray)) (hx : Tm.evs e xs.toList = some args)
    (h : SLf P W f (args ++ a1) σ K) : SLo P W n ⟨dst, .call ⟨.value x, xs, ts⟩, ty, pos, aft, g⟩ e σ K := by
  intro ds a w ha hs
  have e1 : xs.map a.eval = args.toArray := Array.toList_inj.1 (by rw [Array.toList_map]; exact ha.evs hx)
  have hrun : (execOp a.eval ⟨dst, .call ⟨.value x, xs, ts⟩, ty, pos, aft, g⟩).run P w = .ok (.enter f (args ++ a1).toArray) w := by
    simp only [execOp, resolve, e1, ha.ev hf, Deferred.ofValue, Sem.run_bind, Sem.run_pure, Result.andThen_ok, invoke]
    simp [run_callFunc hp]
  unfold Oper.wp
  rw [hrun]
  refine (h w hs).mono ?_
  rintro x w' ⟨v, σ', rfl, hk, hw'⟩
  exact ⟨v, σ', hk, rfl, hw'⟩
theorem SLo.call {f : FuncId} {xs : Array Operand} {ts : Array TypeId} {args : List Value} (hp : Plain P f) (hx : Tm.evs e xs.toList = some args)
    (h : SLf P W f args σ K) : SLo P W n ⟨dst, .call ⟨.value (.func f), xs, ts⟩, ty, pos, aft, g⟩ e σ K :=
  SLo.callV (a1 := []) hp rfl hx (by simpa using h)
end ops

theorem Ent.row {v : Value} {t s : Nat} {es es' : List (List Value)} (h : es = es') (he : Ent σ σ') : Ent (.row v t s es :: σ) (.row v t s es' :: σ') := by subst h; exact .cons .here he
/-! ### Many chunks -/
theorem Sel.app {c : Chunk} {l l' F : List Chunk} (h : Sel c l l') : Sel c (l ++ F) (l' ++ F) := by
  induction h with
  | here => exact .here
  | there _ ih => exact .there ih
theorem Sel.many {α : Type} {f : α → Chunk} : ∀ {l : List α} {k : Nat} {p : α}, l[k]? = some p → Sel (f p) (l.map f) ((l.eraseIdx k).map f)
  | [], _, _, h => by simp at h
  | x :: l, 0, p, h => by simp at h; subst h; exact .here
  | x :: l, k + 1, p, h => by simp at h; exact .there (Sel.many h)
theorem perm_many {α β : Type} {f : α → β} : ∀ {l : List α} {k : Nat} {p' : α}, k < l.length → (f p' :: (l.eraseIdx k).map f).Perm ((l.set k p').map f)
  | [], _, _, h => by simp at h
  | x :: l, 0, p', h => .refl _
  | x :: l, k + 1, p', h => by
    simp only [List.eraseIdx_cons_succ, List.map_cons, List.set_cons_succ]
    exact (List.Perm.swap ..).trans ((perm_many (by simpa using h)).cons _)
theorem Ent.nils {ty size : Nat} : ∀ (m : Nat) {σ : List Chunk}, Ent σ (List.replicate m (.row (.slice none 0 0) ty size []) ++ σ)
  | 0, _ => .refl
  | m + 1, _ => .nil (Ent.nils m)
/-! ### A slice that can be read, be it owned or old -/
structure Rs (W : World) (σ : List Chunk) (v : Value) (size : Nat) (es : List (List Value)) : Prop where
  len : ∀ c ∈ es, c.length = size
  cells : ∀ w, St W σ w → (v = .slice none 0 0 ∧ es = []) ∨ ∃ b off sp cap, v = .slice (some ⟨b, off, sp⟩) es.length cap ∧ (es ≠ [] → sp = none) ∧ es.length ≤ cap ∧ cap ≤ maxLen ∧
    ∀ i cs k u, es[i]? = some cs → cs[k]? = some u → w.cell? ⟨b, off + (i * size + k), none⟩ = some u
theorem Rs.row {v : Value} {ty size : Nat} {es : List (List Value)} (hs : Sel (.row v ty size es) σ F) (hl : ∀ c ∈ es, c.length = size) : Rs W σ v size es := by
  refine ⟨hl, fun w h => ?_⟩
  have hr : rowSat _ _ _ _ _ := sel_sat hs h
  rcases hr.2 with h2 | ⟨b, off, cap, cur, hv, h3, h4, h5, _⟩
  · exact .inl h2
  · refine .inr ⟨b, off, none, cap, hv, fun _ => rfl, h4, h5, fun i cs k u hi hk => ?_⟩
    have := hr.cell hi hk
    rw [hv, el_of_flat] at this
    exact this
theorem Rs.ro {v : Value} {size : Nat} {es : List (List Value)} (h : Ro W v size es) : Rs W σ v size es := by
  refine ⟨h.1, fun w hs => ?_⟩
  rcases h.2 with h2 | ⟨b, off, cap, hv, h4, h5, h6, h7⟩
  · exact .inl h2
  · refine .inr ⟨b, off, none, cap, hv, fun _ => rfl, h4, h5, fun i cs k u hi hk => ?_⟩
    rw [hs.below.cell h6]
    exact h7 i cs k u hi hk
theorem Rs.nil {size : Nat} : Rs W σ (.slice none 0 0) size [] := ⟨by simp, fun _ _ => .inl ⟨rfl, rfl⟩⟩
theorem Rs.mono {v : Value} {size : Nat} {es : List (List Value)} (h : Rs W σ' v size es) (he : Ent σ σ') : Rs W σ v size es := ⟨h.len, fun w hs => h.cells w (hs.ent he)⟩
theorem Rs.cell {v : Value} {size : Nat} {es : List (List Value)} (h : Rs W σ v size es) {w : World} (hs : St W σ w) {i k : Nat} {cs : List Value} {u : Value} (hi : es[i]? = some cs) (hk : cs[k]? = some u) :
    w.cell? (v.el size i k) = some u := by
  rcases h.cells w hs with ⟨rfl, rfl⟩ | ⟨b, off, sp, cap, rfl, hsp, _, _, hc⟩
  · simp at hi
  · exact hc i cs k u hi hk
theorem Reads.rs {v : Value} {size i k : Nat} {es : List (List Value)} {cs : List Value} {u : Value} (h : Rs W σ v size es) (hi : es[i]? = some cs) (hk : cs[k]? = some u) : Reads W σ (v.el size i k) u :=
  fun _ hs => h.cell hs hi hk
theorem ReadsN.rs {v : Value} {size i k : Nat} {es : List (List Value)} {cs vs : List Value} (h : Rs W σ v size es) (hi : es[i]? = some cs) (hk : (cs.drop k).take vs.length = vs) : ReadsN W σ (v.el size i k) vs := by
  intro w hs j u hu
  rw [← hk, List.getElem?_take] at hu
  split at hu
  · rw [List.getElem?_drop] at hu
    rcases h.cells w hs with ⟨rfl, rfl⟩ | ⟨b, off, sp, cap, rfl, hsp, _, _, hc⟩
    · simp at hi
    · have := hc i cs (k + j) u hi hu
      simp only [Value.el]
      rw [add_plain, show off + (i * size + k) + j = off + (i * size + (k + j)) by omega]
      exact this
  · cases hu
theorem ReadsN.rs0 {v : Value} {size i : Nat} {es : List (List Value)} {cs : List Value} (h : Rs W σ v size es) (hi : es[i]? = some cs) : ReadsN W σ (v.el size i 0) cs := ReadsN.rs h hi (by simp)
theorem ReadsN.rsP {v : Value} {size i k : Nat} {es : List (List Value)} {cs : List Value} (m : Nat) (h : Rs W σ v size es) (hi : es[i]? = some cs) (hm : ((cs.drop k).take m).length = m) : ReadsN W σ (v.el size i k) ((cs.drop k).take m) := ReadsN.rs h hi (by rw [hm])
theorem Len.rs {v : Value} {size : Nat} {es : List (List Value)} (h : Rs W σ v size es) : Len W σ v es.length := by
  intro w hs
  rcases h.cells w hs with ⟨rfl, rfl⟩ | ⟨b, off, sp, cap, rfl, hsp, _⟩
  · exact ⟨none, 0, rfl, by simp, fun _ => ⟨rfl, rfl⟩⟩
  · exact ⟨_, _, rfl, fun x hx hm => by cases hx; exact hsp (fun h0 => hm (by rw [h0]; rfl)), by simp⟩
theorem Src.rs {v : Value} {size : Nat} {ys : List (List Value)} (h : Rs W σ v size ys) : Src W σ v size ys := by
  refine ⟨h.len, fun w hs => ?_⟩
  rcases h.cells w hs with h2 | ⟨b, off, sp, cap, hv, hsp, _, _, hc⟩
  · exact .inl h2
  · refine .inr ⟨⟨b, off, sp⟩, cap, hv, fun j x hj => ?_⟩
    obtain rfl := hsp (fun h0 => by subst h0; simp at hj)
    obtain ⟨cs, hpos, h1, h2⟩ := flatten_at h.len hj
    have := hc _ _ _ _ h1 h2
    rw [add_plain]
    have e : j / size * size + j % size = j := by rw [Nat.mul_comm]; exact Nat.div_add_mod j size
    rw [e] at this
    exact this
/-- What an operation yields that needs neither world nor types. -/
def puEval (op : Op) (e : Tm) : Option Value :=
  match op with
  | .move x | .assign x => Tm.ev e x
  | .pick c a b => match Tm.ev e c with
    | some (.bool true) => Tm.ev e a
    | some (.bool false) => Tm.ev e b
    | _ => none
  | .unOp .not _ x => match Tm.ev e x with
    | some (.bool b) => some (.bool !b)
    | _ => none
  | .nilCheck x => match Tm.ev e x with
    | some (.pointer (some ad)) => some (.pointer (some ad))
    | some (.func (.func f) a1 a2) => some (.func (.func f) a1 a2)
    | _ => none
  | .extract x i => match Tm.ev e x with
    | some (.tuple vs) => vs.toList[i]?
    | _ => none
  | .makeFunc fn first captured => match Tm.evs e first.toList, Tm.evs e captured.toList with
    | some vs, some us => some (.func fn vs.toArray us.toArray)
    | _, _ => none
  | _ => none
theorem Pu.ofEval {op : Op} {dst : Option Tmp} {ty : TypeId} {pos : String} {aft : Array Edge} {g : Option (Nat × Bool)} {v : Value} (h : puEval op e = some v) : Pu P n ⟨dst, op, ty, pos, aft, g⟩ e v := by
  unfold puEval at h
  split at h
  · exact Pu.move h
  · exact Pu.assign h
  · split at h
    · exact Pu.pickT ‹_› h
    · exact Pu.pickF ‹_› h
    · cases h
  · split at h
    · cases h; exact Pu.not ‹_›
    · cases h
  · split at h
    · cases h; exact Pu.nilCheck ‹_›
    · cases h; exact Pu.nilCheckF ‹_›
    · cases h
  · split at h
    · exact Pu.extract (vs := _) (by simpa using ‹_›) h
    · cases h
  · split at h
    · cases h; exact Pu.makeFunc ‹_› ‹_›
    · cases h
  · cases h
theorem SLl.ev {K : Tm → List Deferred → List Chunk → Prop} {d : Nat} {op : Op} {ty : TypeId} {pos : String} {aft : Array Edge} {g' g : Option (Nat × Bool)} {r : List Item} {f : Flag} {v : Value} (hq : f.quiet = true) (hw : wantedBy e g = some true) (hd : Nat.blt d n = true)
    (h : puEval op e = some v) (k : SLl P W n Fr K r ((d, v) :: e) ds σ) : SLl P W n Fr K (⟨⟨some d, op, ty, pos, aft, g'⟩, g, f⟩ :: r) e ds σ :=
  SLl.pu hq hw hd (Pu.ofEval h) k
/-- A comparison parts the way. -/
theorem SLl.cmp {K : Tm → List Deferred → List Chunk → Prop} {f : Flag} {r : List Item} {dst : Nat} {ty : TypeId} {pos : String} {aft : Array Edge} {g' : Option (Nat × Bool)} {g : Option (Nat × Bool)} {op : BinOp} {x y : Operand} {t t' : TypeId} {k : IntKind} {i j : Int}
    (hq : f.quiet = true) (hw : wantedBy e g = some true) (hd : Nat.blt dst n = true) (hc : isCmp op = true) (hx : Tm.ev e x = some (.int k i)) (hy : Tm.ev e y = some (.int k j))
    (kt : cmpP op i j → SLl P W n Fr K r ((dst, .bool true) :: e) ds σ) (kf : ¬ cmpP op i j → SLl P W n Fr K r ((dst, .bool false) :: e) ds σ) :
    SLl P W n Fr K (⟨⟨some dst, .binOp op t x y t', ty, pos, aft, g'⟩, g, f⟩ :: r) e ds σ := by
  by_cases h : cmpP op i j
  · exact SLl.pu hq hw hd (by have := Pu.cmp (P := P) (n := n) (dst := some dst) (ty := ty) (pos := pos) (aft := aft) (g := g') (t := t) (t' := t') hc hx hy; rw [decide_eq_true h] at this; exact this) (kt h)
  · exact SLl.pu hq hw hd (by have := Pu.cmp (P := P) (n := n) (dst := some dst) (ty := ty) (pos := pos) (aft := aft) (g := g') (t := t) (t' := t') hc hx hy; rw [decide_eq_false h] at this; exact this) (kf h)
end
end Go.Sl
