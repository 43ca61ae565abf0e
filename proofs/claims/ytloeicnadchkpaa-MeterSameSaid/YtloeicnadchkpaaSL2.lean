/- Rules for operations, regions, code and calls. -/
import Derived.Test.YtloeicnadchkpaaSL
import Derived.OrdersHeld
import Derived.Defers
namespace Go.Sl
open Go.RowKit

theorem Oper.wp_monoQ {P : Program} {o : Oper} {a : Act} {w : World} {K : Act → World → Prop} {Q Q' : Exit → Act → World → Prop}
    (hq : ∀ e a w, Q e a w → Q' e a w) (h : o.wp P a w K Q) : o.wp P a w K Q' := by
  unfold Oper.wp at *
  generalize (execOp a.eval o).run P w = r at *
  cases r with
  | ok n w' =>
    cases n <;> simp only [Oper.upon] at h ⊢ <;>
      first
        | exact h
        | (refine Calls.mono h fun e w'' he => ?_
           cases e with
           | returned v => exact he
           | panicked c => exact hq _ _ _ he
           | outgrown => obtain ⟨a', w', h'⟩ := he; exact ⟨a', w', hq _ _ _ h'⟩)
  | halt x w' => cases x <;> simp only [Oper.upon] at h ⊢ <;> first | exact h | exact hq _ _ _ h

theorem run_defer_op {P : Program} {ρ : Operand → Value} {o : Oper} {d : Call} {v : Deferred} {w : World} (hop : o.op = .defer d) (h : (resolve ρ d o.type).run P w = .ok v w) :
    (execOp ρ o).run P w = .ok (.defer v) w := by
  obtain ⟨dst, op, ty, pos, aft, g⟩ := o
  simp only at hop h
  subst hop
  simp [execOp, h]
def Never : Exit → Act → World → Prop := fun _ _ _ => False

section
variable (P : Program) (W : World) (n : Nat)

/-- One operation: it leaves a value, and the chunks. -/
def SLo (o : Oper) (e : Tm) (σ : List Chunk) (K : Value → List Chunk → Prop) : Prop :=
  ∀ ds a w, Agree n e ds a → St W σ w → o.wp P a w (fun a' w' => ∃ v σ', K v σ' ∧ a' = a.put o.dst v ∧ St W σ' w') Never

inductive Flag where
  | seq
  | free
  | take
  | eff (needs : Bool)
structure Item where
  o : Oper
  g : Option (Nat × Bool)
  f : Flag

def putT (e : Tm) : Option Nat → Value → Tm
  | some d, v => (d, v) :: e
  | none, _ => e
def dstOk (n : Nat) : Option Nat → Bool
  | some d => Nat.blt d n
  | none => true
def wantedBy (e : Tm) : Option (Nat × Bool) → Option Bool
  | none => some true
  | some (t, want) => match Tm.get e t with
    | some (.bool b) => some (b == want)
    | some (.tuple _) => some false
    | _ => none

/-- A list of operations, one after the other. -/
def SLl (Fr : List Chunk) (K : Tm → List Deferred → List Chunk → Prop) : List Item → Tm → List Deferred → List Chunk → Prop
  | [], e, ds, σ => K e ds σ
  | i :: r, e, ds, σ => dstOk n i.o.dst = true ∧ ((wantedBy e i.g = some false ∧ SLl Fr K r (putT e i.o.dst undef) ds σ) ∨
      (wantedBy e i.g = some true ∧ match i.f with
        | .seq => SLo P W n i.o e σ (fun v σ' => SLl Fr K r (putT e i.o.dst v) ds σ') ∨
            (∃ d v, i.o.op = .defer d ∧ (∀ a, Agree n e ds a → ∀ w, (resolve a.eval d i.o.type).run P w = .ok v w) ∧ SLl Fr K r (putT e i.o.dst undef) (v :: ds) σ)
        | .free => ∃ v, (∀ a w, Agree n e ds a → (execOp a.eval i.o).run P w = .ok (.value v) w) ∧ SLl Fr K r (putT e i.o.dst v) ds σ
        | .take => ∃ v, (∀ a w, Agree n e ds a → St W Fr w → (execOp a.eval i.o).run P w = .ok (.value v) w) ∧ SLl Fr K r (putT e i.o.dst v) ds σ
        | .eff needs => SLo P W n i.o e σ (fun v σ' => (needs = true → Ent σ' Fr) ∧ SLl Fr K r (putT e i.o.dst v) ds σ')))
end

section
variable {P : Program} {W : World} {n : Nat} {e : Tm} {ds : List Deferred} {σ Fr : List Chunk} {K : Tm → List Deferred → List Chunk → Prop}
theorem Agree.putT {a : Act} (h : Agree n e ds a) {d : Option Nat} (hd : dstOk n d = true) (v : Value) : Agree n (putT e d v) ds (a.put d v) := by
  cases d with
  | none => exact h
  | some d => exact h.put (Nat.blt_eq ▸ hd) v
theorem wantedBy_spec {ops : Array Oper} {o : Oper} {a : Act} (h : Agree n e ds a) {b : Bool}
    (hw : wantedBy e (o.guard.bind fun g => ((ops[g.1]?).bind (·.dst)).map fun t => (t, g.2)) = some b)
    (hg : ∀ g, o.guard = some g → ((ops[g.1]?).bind (·.dst)).isSome = true) : Region.wanted o (yielded ops a.tmps) = b := by
  unfold Region.wanted
  cases hgd : o.guard with
  | none => simp [hgd, wantedBy] at hw; simp [hw]
  | some g =>
    obtain ⟨j, want⟩ := g
    simp only [hgd, Option.bind_some] at hw
    cases ht : (ops[j]?).bind (·.dst) with
    | none => have := hg _ hgd; simp [ht] at this
    | some t =>
      simp only [ht, Option.map_some, wantedBy] at hw
      split at hw
      · rename_i b' hb'
        simp only [Option.some.injEq] at hw
        have h1 := h.get _ _ hb'
        simp only [yielded, ht, Option.bind_some, h1]
        subst hw
        cases b' <;> cases want <;> rfl
      · rename_i b' hb'
        simp only [Option.some.injEq] at hw
        have h1 := h.get _ _ hb'
        simp only [yielded, ht, Option.bind_some, h1]
        subst hw
        cases want <;> rfl
      · cases hw

/-! ### Regions in the text's order -/
def itemsOf (ops : Array Oper) : List Item := ops.toList.map fun o => ⟨o, o.guard.bind fun g => ((ops[g.1]?).bind (·.dst)).map fun t => (t, g.2), .seq⟩
def guardsOk (ops : Array Oper) : Bool := ops.toList.all fun o => match o.guard with | some g => ((ops[g.1]?).bind (·.dst)).isSome | none => true

theorem wpOps_of_SLl {ops : Array Oper} (hgo : guardsOk ops = true) : ∀ (l : List Nat) (is : List Item) (e : Tm) (ds : List Deferred) (σ : List Chunk) (a : Act) (w : World),
    l.map (fun i => (ops[i]?).map fun o => (⟨o, o.guard.bind fun g => ((ops[g.1]?).bind (·.dst)).map fun t => (t, g.2), .seq⟩ : Item)) = is.map some →
    SLl P W n Fr K is e ds σ → Agree n e ds a → St W σ w →
    wpOps P ops (fun x a' w' => x = .normal ∧ ∃ e' ds' σ', K e' ds' σ' ∧ Agree n e' ds' a' ∧ St W σ' w') l a w
  | [], [], e, ds, σ, a, w, _, h, ha, hs => ⟨rfl, e, ds, σ, h, ha, hs⟩
  | [], _ :: _, _, _, _, _, _, hm, _, _, _ => by simp at hm
  | _ :: _, [], _, _, _, _, _, hm, _, _, _ => by simp at hm
  | j :: l, i :: is, e, ds, σ, a, w, hm, h, ha, hs => by
    simp only [List.map_cons, List.cons.injEq] at hm
    obtain ⟨hj, hm⟩ := hm
    cases ho : ops[j]? with
    | none => simp [ho] at hj
    | some o =>
      simp only [ho, Option.map_some, Option.some.injEq] at hj
      subst hj
      have hg : ∀ g, o.guard = some g → ((ops[g.1]?).bind (·.dst)).isSome = true := fun g hg => by
        have := List.all_eq_true.1 hgo o (Array.mem_toList_iff.2 (Array.mem_of_getElem? ho))
        simpa [hg] using this
      rw [wpOps_cons]
      unfold wpOp
      simp only [ho]
      obtain ⟨hd, h⟩ := h
      rcases h with ⟨hw, h⟩ | ⟨hw, h⟩
      · rw [wantedBy_spec ha hw hg]
        simp only [Bool.false_eq_true, if_false]
        exact wpOps_of_SLl hgo l is _ _ _ _ _ hm h (ha.putT hd _) hs
      · rw [wantedBy_spec ha hw hg]
        simp only [if_true]
        refine .inl ?_
        rcases h with h | ⟨d, v, hop, hr, h⟩
        · refine Oper.wp_monoQ (Q := Never) (fun _ _ _ h => h.elim) (Oper.wp_mono ?_ (h ds a w ha hs))
          rintro a' w' ⟨v, σ', hk, rfl, hs'⟩
          exact wpOps_of_SLl hgo l is _ _ _ _ _ hm hk (ha.putT hd _) hs'
        · have hrun : (execOp a.eval o).run P w = .ok (.defer v) w := run_defer_op hop (hr a ha w)
          unfold Oper.wp
          rw [hrun]
          simp only [Oper.upon]
          refine wpOps_of_SLl hgo l is _ _ _ _ _ hm h ?_ hs
          have h2 : Agree n e (v :: ds) { a with defers := v :: a.defers } := ⟨ha.size, by simp [ha.defers], ha.get⟩
          exact h2.putT hd _

theorem SLc_region_aux {ops : Array Oper} (hgo : guardsOk ops = true) {a : Act} {w : World} (h : SLl P W n Fr K (itemsOf ops) e ds σ) (ha : Agree n e ds a) (hs : St W σ w) :
    wpOps P ops (fun x a' w' => x = .normal ∧ ∃ e' ds' σ', K e' ds' σ' ∧ Agree n e' ds' a' ∧ St W σ' w') (List.range ops.size) a w := by
  refine wpOps_of_SLl hgo _ _ _ _ _ _ _ ?_ h ha hs
  unfold itemsOf
  rw [List.map_map]
  refine List.ext_getElem? fun i => ?_
  simp only [List.getElem?_map, Array.getElem?_toList]
  by_cases hi : i < ops.size
  · simp [hi]
  · simp [hi]

/-! ### Regions that draw their order -/
section draws
variable {ops : Array Oper} {Q : Exit → Act → World → Prop} {md : Region.Mode} {S : World → Prop} {nd : Nat → Bool}
def wpAnyN (P : Program) (md : Region.Mode) (ops : Array Oper) (Q : Exit → Act → World → Prop) (S : World → Prop) (nd : Nat → Bool) : Nat → Array Bool → Act → World → Prop
  | 0, listed, a, w => Region.ready md ops listed = [] ∧ Q .normal a w
  | fuel + 1, listed, a, w =>
    (Region.ready md ops listed = [] → Q .normal a w) ∧
    ∀ i ∈ Region.ready md ops listed, wpOp P ops Q i (fun a' w' => (nd i = true → S w') ∧ wpAnyN P md ops Q S nd fuel (listed.setIfInBounds i true) a' w') a w
theorem wpAny_of_needs : ∀ (fuel : Nat) (listed : Array Bool) (a : Act) (w : World), wpAnyN P md ops Q S nd fuel listed a w → wpAny P md ops Q fuel listed a w
  | 0, _, _, _, h => h
  | fuel + 1, _, _, _, h => ⟨h.1, fun i hi => wpOp_mono (fun a' w' h' => wpAny_of_needs fuel _ a' w' h'.2) (h.2 i hi)⟩
/-- An operation is taken first, if under T it yields its value, and whoever may come before it keeps T. -/
theorem wpAnyN_first {T : World → Prop} {i : Nat} {oi : Oper} {v : Value} (hi : ops[i]? = some oi) (hsel : ∀ (j : Nat) (o : Oper) cs b, ops[j]? = some o → o.op ≠ .select cs b)
    (hQ : ∀ c a w, Q (.panic c) (a.put oi.dst v) w → Q (.panic c) a w) (hST : ∀ w, T w → nd i = true → S w) :
    ∀ (fuel : Nat) (listed : Array Bool) (a : Act) (w : World),
      (∀ j oj, ops[j]? = some oj → j ≠ i → listed.getD j true = false → (∀ e ∈ oj.after, Region.binds md e = true → e.on ≠ i) → oi.apart ops oj = true ∧ ∀ w, (nd j = true → S w) → T w) →
      i ∈ Region.ready md ops listed → YieldsIf P ops T oi v a → T w →
      wpAnyN P md ops Q S nd fuel (listed.setIfInBounds i true) (a.put oi.dst v) w → wpAnyN P md ops Q S nd (fuel + 1) listed a w := by
  intro fuel
  induction fuel with
  | zero =>
    intro listed a w _ hr hy hS H
    refine ⟨fun h => (by rw [h] at hr; cases hr), fun j hj => ?_⟩
    by_cases hji : j = i
    · subst hji; exact hy.wpOp hi hS ⟨hST w hS, H⟩
    · have := ready_mono hj hji
      rw [H.1] at this
      cases this
  | succ fuel ih =>
    intro listed a w hfree hr hy hS H
    refine ⟨fun h => (by rw [h] at hr; cases hr), fun j hj => ?_⟩
    by_cases hji : j = i
    · subst hji; exact hy.wpOp hi hS ⟨hST w hS, H⟩
    · have h1 := H.2 j (ready_mono hj hji)
      obtain ⟨hjun, oj, hoj, hall⟩ := mem_ready.1 hj
      have hnot : ∀ e ∈ oj.after, Region.binds md e = true → e.on ≠ i := fun e he hb heq => by
        have h1 := hall e he hb
        have h0 := (mem_ready.1 hr).1
        rw [heq] at h1
        rcases Nat.lt_or_ge i listed.size with h' | h'
        · simp [h'] at h0 h1; rw [h0] at h1; cases h1
        · simp [Array.getElem?_eq_none h'] at h1
      obtain ⟨hap, hk⟩ := hfree j oj hoj hji hjun hnot
      have h2 := wpOp_putIf hoj hap (fun cs b => hsel i oi cs b hi) (fun cs b => hsel j oj cs b hoj) hQ hy h1
      have hfree' : ∀ k ok, ops[k]? = some ok → k ≠ i → (listed.setIfInBounds j true).getD k true = false →
          (∀ e ∈ ok.after, Region.binds md e = true → e.on ≠ i) → oi.apart ops ok = true ∧ ∀ w, (nd k = true → S w) → T w := fun k ok hk hki hun hno => by
        refine hfree k ok hk hki ?_ hno
        by_cases hjk : j = k
        · subst hjk; exact hjun
        · rw [getD_set_ne true hjk] at hun; exact hun
      refine wpOp_mono (fun a' w' h3 => ⟨h3.2.1, ih (listed.setIfInBounds j true) a' w' hfree' (ready_mono hr (Ne.symm hji)) h3.1 (hk w' h3.2.1) ?_⟩) h2
      rw [Array.setIfInBounds_comm _ _ hji]
      exact h3.2.2

def later (x : Nat × Flag) : Bool := match x.2 with
  | .take => false
  | .eff true => false
  | _ => true
/-- An order of the region for the walk: what needs nobody first; then the one that may come up. -/
def canonB (md : Region.Mode) (ops : Array Oper) (nd : Nat → Bool) : List (Nat × Flag) → Array Bool → Bool
  | [], listed => (Region.ready md ops listed).isEmpty
  | (i, f) :: c, listed => (match f with
      | .free => (Region.ready md ops listed).contains i && Region.free md ops listed i && !nd i
      | .take => (Region.ready md ops listed).contains i && Region.free md ops listed i && (List.range ops.size).all fun j => j == i || listed.getD j true || (match ops[j]? with
          | some oj => oj.after.any (fun e => Region.binds md e && e.on == i) || nd j
          | none => true)
      | .eff needs => Region.ready md ops listed == [i] && needs == nd i && (needs || c.all later)
      | .seq => false) && canonB md ops nd c (listed.setIfInBounds i true)
def itemsBy (ops : Array Oper) : List (Nat × Flag) → List Item
  | [] => []
  | (i, f) :: c => match ops[i]? with
    | some o => ⟨o, o.guard.bind fun g => ((ops[g.1]?).bind (·.dst)).map fun t => (t, g.2), f⟩ :: itemsBy ops c
    | none => itemsBy ops c

theorem wpAnyN_of_SLl (hsel : Region.noSelect ops = true) (hgo : guardsOk ops = true) : ∀ (c : List (Nat × Flag)) (listed : Array Bool) (e : Tm) (ds : List Deferred) (σ : List Chunk) (a : Act) (w : World) (fuel : Nat),
    canonB md ops nd c listed = true → c.length ≤ fuel → SLl P W n Fr K (itemsBy ops c) e ds σ → Agree n e ds a → St W σ w → Ent σ Fr ∨ c.all later = true →
    (∀ a' w', (∃ e' ds' σ', K e' ds' σ' ∧ Agree n e' ds' a' ∧ St W σ' w') → Q .normal a' w') → (∀ c a w, ¬ Q (.panic c) a w) →
    wpAnyN P md ops Q (St W Fr) nd fuel listed a w
  | [], listed, e, ds, σ, a, w, fuel, hc, _, h, ha, hs, _, hQ, _ => by
    have hr : Region.ready md ops listed = [] := by simpa [canonB] using hc
    have hq := hQ a w ⟨e, ds, σ, h, ha, hs⟩
    cases fuel with
    | zero => exact ⟨hr, hq⟩
    | succ fuel => exact ⟨fun _ => hq, by rw [hr]; simp⟩
  | (i, f) :: c, listed, e, ds, σ, a, w, fuel, hc, hf, h, ha, hs, hF, hQ, hP => by
    obtain ⟨fuel, rfl⟩ : ∃ m, fuel = m + 1 := ⟨fuel - 1, by simp at hf; omega⟩
    simp only [canonB, Bool.and_eq_true] at hc
    obtain ⟨hc, hcr⟩ := hc
    have hf' : c.length ≤ fuel := by simp at hf; omega
    have hro : ∀ {i : Nat}, i ∈ Region.ready md ops listed → ∃ o, ops[i]? = some o := fun hi => by obtain ⟨_, o, ho, _⟩ := mem_ready.1 hi; exact ⟨o, ho⟩
    have hgx : ∀ {i : Nat} {o : Oper}, ops[i]? = some o → ∀ g, o.guard = some g → ((ops[g.1]?).bind (·.dst)).isSome = true := fun ho g hg => by
      have := List.all_eq_true.1 hgo _ (Array.mem_toList_iff.2 (Array.mem_of_getElem? ho))
      simpa [hg] using this
    cases f with
    | seq => simp at hc
    | free =>
      simp only [Bool.and_eq_true, Bool.not_eq_true'] at hc
      obtain ⟨⟨hr, hfr⟩, hnd⟩ := hc
      have hr' : i ∈ Region.ready md ops listed := by simpa using hr
      obtain ⟨o, ho⟩ := hro hr'
      simp only [itemsBy, ho] at h
      obtain ⟨hd, h⟩ := h
      have hF' : Ent σ Fr ∨ c.all later = true := hF.imp id fun h => (by simpa [later] using h)
      rcases h with ⟨hw, h⟩ | ⟨hw, v, hv, h⟩
      · exact wpAnyN_first (T := fun _ => True) (v := undef) ho (Region.noSelect_spec hsel) (fun c a w h => (hP c _ w h).elim) (fun w _ hn => by rw [hnd] at hn; cases hn) fuel listed a w
          (fun j oj hj hji hun hno => ⟨Region.free_spec ho hfr j oj hj hji hun hno, fun _ _ => trivial⟩) hr' (.inr ⟨wantedBy_spec ha hw (hgx ho), rfl⟩) trivial
          (wpAnyN_of_SLl hsel hgo c _ _ _ _ _ _ _ hcr hf' h (ha.putT hd _) hs hF' hQ hP)
      · exact wpAnyN_first (T := fun _ => True) (v := v) ho (Region.noSelect_spec hsel) (fun c a w h => (hP c _ w h).elim) (fun w _ hn => by rw [hnd] at hn; cases hn) fuel listed a w
          (fun j oj hj hji hun hno => ⟨Region.free_spec ho hfr j oj hj hji hun hno, fun _ _ => trivial⟩) hr' (.inl ⟨wantedBy_spec ha hw (hgx ho), fun w _ => hv a w ha⟩) trivial
          (wpAnyN_of_SLl hsel hgo c _ _ _ _ _ _ _ hcr hf' h (ha.putT hd _) hs hF' hQ hP)
    | take =>
      simp only [Bool.and_eq_true] at hc
      obtain ⟨⟨hr, hfr⟩, hnd⟩ := hc
      have hr' : i ∈ Region.ready md ops listed := by simpa using hr
      obtain ⟨o, ho⟩ := hro hr'
      simp only [itemsBy, ho] at h
      obtain ⟨hd, h⟩ := h
      have hE : Ent σ Fr := hF.resolve_right (by simp [later])
      have hfree : ∀ j oj, ops[j]? = some oj → j ≠ i → listed.getD j true = false → (∀ e ∈ oj.after, Region.binds md e = true → e.on ≠ i) →
          o.apart ops oj = true ∧ ∀ w, (nd j = true → St W Fr w) → St W Fr w := fun j oj hj hji hun hno => by
        refine ⟨Region.free_spec ho hfr j oj hj hji hun hno, fun w hw => hw ?_⟩
        have hlt : j < ops.size := (Array.getElem?_eq_some_iff.1 hj).1
        have h1 := List.all_eq_true.1 hnd j (List.mem_range.2 hlt)
        simp only [hj, Bool.or_eq_true, beq_iff_eq, hji, hun, Bool.false_eq_true, false_or] at h1
        rcases h1 with h1 | h1
        · obtain ⟨e, he, hb⟩ := Array.any_eq_true'.1 h1
          simp only [Bool.and_eq_true, beq_iff_eq] at hb
          exact absurd hb.2 (hno e he hb.1)
        · exact h1
      rcases h with ⟨hw, h⟩ | ⟨hw, v, hv, h⟩
      · exact wpAnyN_first (T := St W Fr) (v := undef) ho (Region.noSelect_spec hsel) (fun c a w h => (hP c _ w h).elim) (fun w h _ => h) fuel listed a w
          hfree hr' (.inr ⟨wantedBy_spec ha hw (hgx ho), rfl⟩) (hs.ent hE)
          (wpAnyN_of_SLl hsel hgo c _ _ _ _ _ _ _ hcr hf' h (ha.putT hd _) hs (.inl hE) hQ hP)
      · exact wpAnyN_first (T := St W Fr) (v := v) ho (Region.noSelect_spec hsel) (fun c a w h => (hP c _ w h).elim) (fun w h _ => h) fuel listed a w
          hfree hr' (.inl ⟨wantedBy_spec ha hw (hgx ho), fun w hw => hv a w ha hw⟩) (hs.ent hE)
          (wpAnyN_of_SLl hsel hgo c _ _ _ _ _ _ _ hcr hf' h (ha.putT hd _) hs (.inl hE) hQ hP)
    | eff needs =>
      simp only [Bool.and_eq_true, beq_iff_eq, Bool.or_eq_true] at hc
      obtain ⟨⟨hr, hnd⟩, hct⟩ := hc
      subst hnd
      have hr' : i ∈ Region.ready md ops listed := by rw [hr]; simp
      obtain ⟨o, ho⟩ := hro hr'
      simp only [itemsBy, ho] at h
      obtain ⟨hd, h⟩ := h
      refine ⟨fun h0 => (by rw [hr] at h0; cases h0), fun j hj => ?_⟩
      rw [hr] at hj
      obtain rfl : j = i := by simpa using hj
      unfold wpOp
      simp only [ho]
      rcases h with ⟨hw, h⟩ | ⟨hw, h⟩
      · rw [wantedBy_spec ha hw (hgx ho)]
        simp only [Bool.false_eq_true, if_false]
        have hF' : Ent σ Fr ∨ c.all later = true := hF.imp id fun h => by simp only [List.all_cons, Bool.and_eq_true] at h; exact h.2
        refine ⟨fun hn => ?_, wpAnyN_of_SLl hsel hgo c _ _ _ _ _ _ _ hcr hf' h (ha.putT hd _) hs hF' hQ hP⟩
        rcases hF with hF | hF
        · exact hs.ent hF
        · simp [later, hn] at hF
      · rw [wantedBy_spec ha hw (hgx ho)]
        simp only [if_true]
        refine .inl (Oper.wp_monoQ (Q := Never) (fun _ _ _ h => h.elim) (Oper.wp_mono ?_ (h ds a w ha hs)))
        rintro a' w' ⟨v, σ', ⟨hk1, hk2⟩, rfl, hs'⟩
        exact ⟨fun hn => hs'.ent (hk1 hn), wpAnyN_of_SLl hsel hgo c _ _ _ _ _ _ _ hcr hf' hk2 (ha.putT hd _) hs' (hct.imp hk1 id) hQ hP⟩
end draws
end
end Go.Sl
