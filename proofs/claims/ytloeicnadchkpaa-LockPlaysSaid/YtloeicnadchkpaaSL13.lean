/- Regions that draw: operations that change nothing may come at any time. -/
import Derived.Test.YtloeicnadchkpaaSL9
namespace Go.Sl
open Go.RowKit
section
variable {P : Program} {W : World} {n : Nat} {e : Tm} {ds : List Deferred} {σ Fr : List Chunk} {K : Tm → List Deferred → List Chunk → Prop}
section draws
variable {ops : Array Oper} {Q : Exit → Act → World → Prop} {md : Region.Mode} {S : World → Prop} {kp qt : Nat → Bool}
def wpAnyQ (P : Program) (md : Region.Mode) (ops : Array Oper) (Q : Exit → Act → World → Prop) (S : World → Prop) (kp qt : Nat → Bool) : Nat → Array Bool → Act → World → Prop
  | 0, listed, a, w => Region.ready md ops listed = [] ∧ Q .normal a w
  | fuel + 1, listed, a, w =>
    (Region.ready md ops listed = [] → Q .normal a w) ∧
    ∀ i ∈ Region.ready md ops listed, wpOp P ops Q i (fun a' w' => ((kp i = true → S w') ∧ (qt i = true → w' = w)) ∧ wpAnyQ P md ops Q S kp qt fuel (listed.setIfInBounds i true) a' w') a w
theorem wpAny_of_quiet : ∀ (fuel : Nat) (listed : Array Bool) (a : Act) (w : World), wpAnyQ P md ops Q S kp qt fuel listed a w → wpAny P md ops Q fuel listed a w
  | 0, _, _, _, h => h
  | fuel + 1, _, _, _, h => ⟨h.1, fun i hi => wpOp_mono (fun a' w' h' => wpAny_of_quiet fuel _ a' w' h'.2) (h.2 i hi)⟩
/-- An operation is taken first, if under T it yields its value, and whoever may come before it keeps T. -/
theorem wpAnyQ_first {T : World → Prop} {i : Nat} {oi : Oper} {v : Value} (hi : ops[i]? = some oi) (hsel : ∀ (j : Nat) (o : Oper) cs b, ops[j]? = some o → o.op ≠ .select cs b)
    (hQ : ∀ c a w, Q (.panic c) (a.put oi.dst v) w → Q (.panic c) a w) (hST : ∀ w, T w → kp i = true → S w) :
    ∀ (fuel : Nat) (listed : Array Bool) (a : Act) (w : World),
      (∀ j oj, ops[j]? = some oj → j ≠ i → listed.getD j true = false → (∀ e ∈ oj.after, Region.binds md e = true → e.on ≠ i) → oi.apart ops oj = true ∧ (qt j = true ∨ ∀ w, (kp j = true → S w) → T w)) →
      i ∈ Region.ready md ops listed → YieldsIf P ops T oi v a → T w →
      wpAnyQ P md ops Q S kp qt fuel (listed.setIfInBounds i true) (a.put oi.dst v) w → wpAnyQ P md ops Q S kp qt (fuel + 1) listed a w := by
  intro fuel
  induction fuel with
  | zero =>
    intro listed a w _ hr hy hS H
    refine ⟨fun h => (by rw [h] at hr; cases hr), fun j hj => ?_⟩
    by_cases hji : j = i
    · subst hji; exact hy.wpOp hi hS ⟨⟨hST w hS, fun _ => rfl⟩, H⟩
    · have := ready_mono hj hji
      rw [H.1] at this
      cases this
  | succ fuel ih =>
    intro listed a w hfree hr hy hS H
    refine ⟨fun h => (by rw [h] at hr; cases hr), fun j hj => ?_⟩
    by_cases hji : j = i
    · subst hji; exact hy.wpOp hi hS ⟨⟨hST w hS, fun _ => rfl⟩, H⟩
    · have h1 := H.2 j (ready_mono hj hji)
      obtain ⟨hjun, oj, hoj, hall⟩ := mem_ready.1 hj
      have hnot : ∀ e ∈ oj.after, Region.binds md e = true → e.on ≠ i := fun e he hb heq => by
        have h1 := hall e he hb
        have h0 := (mem_ready.1 hr).1
        rw [heq] at h1
        rcases Nat.lt_or_ge i listed.size with h' | h'
        · simp [h'] at h0 h1; rw [h0] at h1; cases h1
        · simp [Array.getElem?_eq_none h'] at h1
      obtain ⟨hap, hk⟩ := hfree j oj hoj hji hjun hnot
      have h2 := wpOp_putIf hoj hap (fun cs b => hsel i oi cs b hi) (fun cs b => hsel j oj cs b hoj) hQ hy h1
      have hfree' : ∀ k ok, ops[k]? = some ok → k ≠ i → (listed.setIfInBounds j true).getD k true = false →
          (∀ e ∈ ok.after, Region.binds md e = true → e.on ≠ i) → oi.apart ops ok = true ∧ (qt k = true ∨ ∀ w, (kp k = true → S w) → T w) := fun k ok hk hki hun hno => by
        refine hfree k ok hk hki ?_ hno
        by_cases hjk : j = k
        · subst hjk; exact hjun
        · rw [getD_set_ne true hjk] at hun; exact hun
      refine wpOp_mono (fun a' w' h3 => ⟨h3.2.1, ih (listed.setIfInBounds j true) a' w' hfree' (ready_mono hr (Ne.symm hji)) h3.1 (hk.elim (fun h => by rw [h3.2.1.2 h]; exact hS) fun h => h w' h3.2.1.1) ?_⟩) h2
      rw [Array.setIfInBounds_comm _ _ hji]
      exact h3.2.2

/-- An order of the region for the walk: what needs nobody first; then the one that may come up. -/
def canonQ (md : Region.Mode) (ops : Array Oper) (kp qt : Nat → Bool) : List (Nat × Flag) → Array Bool → Bool
  | [], listed => (Region.ready md ops listed).isEmpty
  | (i, f) :: c, listed => (match f with
      | .free => (Region.ready md ops listed).contains i && Region.free md ops listed i && !kp i
      | .take => (Region.ready md ops listed).contains i && Region.free md ops listed i && (List.range ops.size).all fun j => j == i || listed.getD j true || (match ops[j]? with
          | some oj => oj.after.any (fun e => Region.binds md e && e.on == i) || kp j || qt j
          | none => true)
      | .eff needs => Region.ready md ops listed == [i] && needs == kp i && !qt i && (needs || c.all later)
      | .seq => false) && canonQ md ops kp qt c (listed.setIfInBounds i true)
theorem wpAnyQ_of_SLl (hsel : Region.noSelect ops = true) (hgo : guardsOk ops = true) : ∀ (c : List (Nat × Flag)) (listed : Array Bool) (e : Tm) (ds : List Deferred) (σ : List Chunk) (a : Act) (w : World) (fuel : Nat),
    canonQ md ops kp qt c listed = true → c.length ≤ fuel → SLl P W n Fr K (itemsBy ops c) e ds σ → Agree n e ds a → St W σ w → Ent σ Fr ∨ c.all later = true →
    (∀ a' w', (∃ e' ds' σ', K e' ds' σ' ∧ Agree n e' ds' a' ∧ St W σ' w') → Q .normal a' w') → (∀ c a w, ¬ Q (.panic c) a w) →
    wpAnyQ P md ops Q (St W Fr) kp qt fuel listed a w
  | [], listed, e, ds, σ, a, w, fuel, hc, _, h, ha, hs, _, hQ, _ => by
    have hr : Region.ready md ops listed = [] := by simpa [canonQ] using hc
    have hq := hQ a w ⟨e, ds, σ, h, ha, hs⟩
    cases fuel with
    | zero => exact ⟨hr, hq⟩
    | succ fuel => exact ⟨fun _ => hq, by rw [hr]; simp⟩
  | (i, f) :: c, listed, e, ds, σ, a, w, fuel, hc, hf, h, ha, hs, hF, hQ, hP => by
    obtain ⟨fuel, rfl⟩ : ∃ m, fuel = m + 1 := ⟨fuel - 1, by simp at hf; omega⟩
    simp only [canonQ, Bool.and_eq_true] at hc
    obtain ⟨hc, hcr⟩ := hc
    have hf' : c.length ≤ fuel := by simp at hf; omega
    have hro : ∀ {i : Nat}, i ∈ Region.ready md ops listed → ∃ o, ops[i]? = some o := fun hi => by obtain ⟨_, o, ho, _⟩ := mem_ready.1 hi; exact ⟨o, ho⟩
    have hgx : ∀ {i : Nat} {o : Oper}, ops[i]? = some o → ∀ g, o.guard = some g → ((ops[g.1]?).bind (·.dst)).isSome = true := fun ho g hg => by
      have := List.all_eq_true.1 hgo _ (Array.mem_toList_iff.2 (Array.mem_of_getElem? ho))
      simpa [hg] using this
    cases f with
    | seq => simp at hc
    | free =>
      simp only [Bool.and_eq_true, Bool.not_eq_true'] at hc
      obtain ⟨⟨hr, hfr⟩, hnd⟩ := hc
      have hr' : i ∈ Region.ready md ops listed := by simpa using hr
      obtain ⟨o, ho⟩ := hro hr'
      simp only [itemsBy, ho] at h
      obtain ⟨hd, h⟩ := h
      have hF' : Ent σ Fr ∨ c.all later = true := hF.imp id fun h => (by simpa [later] using h)
      rcases h with ⟨hw, h⟩ | ⟨hw, v, hv, h⟩
      · exact wpAnyQ_first (T := fun _ => True) (v := undef) ho (Region.noSelect_spec hsel) (fun c a w h => (hP c _ w h).elim) (fun w _ hn => by rw [hnd] at hn; cases hn) fuel listed a w
          (fun j oj hj hji hun hno => ⟨Region.free_spec ho hfr j oj hj hji hun hno, .inr fun _ _ => trivial⟩) hr' (.inr ⟨wantedBy_spec ha hw (hgx ho), rfl⟩) trivial
          (wpAnyQ_of_SLl hsel hgo c _ _ _ _ _ _ _ hcr hf' h (ha.putT hd _) hs hF' hQ hP)
      · exact wpAnyQ_first (T := fun _ => True) (v := v) ho (Region.noSelect_spec hsel) (fun c a w h => (hP c _ w h).elim) (fun w _ hn => by rw [hnd] at hn; cases hn) fuel listed a w
          (fun j oj hj hji hun hno => ⟨Region.free_spec ho hfr j oj hj hji hun hno, .inr fun _ _ => trivial⟩) hr' (.inl ⟨wantedBy_spec ha hw (hgx ho), fun w _ => hv a w ha⟩) trivial
          (wpAnyQ_of_SLl hsel hgo c _ _ _ _ _ _ _ hcr hf' h (ha.putT hd _) hs hF' hQ hP)
    | take =>
      simp only [Bool.and_eq_true] at hc
      obtain ⟨⟨hr, hfr⟩, hnd⟩ := hc
      have hr' : i ∈ Region.ready md ops listed := by simpa using hr
      obtain ⟨o, ho⟩ := hro hr'
      simp only [itemsBy, ho] at h
      obtain ⟨hd, h⟩ := h
      have hE : Ent σ Fr := hF.resolve_right (by simp [later])
      have hfree : ∀ j oj, ops[j]? = some oj → j ≠ i → listed.getD j true = false → (∀ e ∈ oj.after, Region.binds md e = true → e.on ≠ i) →
          o.apart ops oj = true ∧ (qt j = true ∨ ∀ w, (kp j = true → St W Fr w) → St W Fr w) := fun j oj hj hji hun hno => by
        refine ⟨Region.free_spec ho hfr j oj hj hji hun hno, ?_⟩
        have hlt : j < ops.size := (Array.getElem?_eq_some_iff.1 hj).1
        have h1 := List.all_eq_true.1 hnd j (List.mem_range.2 hlt)
        simp only [hj, Bool.or_eq_true, beq_iff_eq, hji, hun, Bool.false_eq_true, false_or] at h1
        rcases h1 with (h1 | h1) | h1
        · obtain ⟨e, he, hb⟩ := Array.any_eq_true'.1 h1
          simp only [Bool.and_eq_true, beq_iff_eq] at hb
          exact absurd hb.2 (hno e he hb.1)
        · exact .inr fun w hw => hw h1
        · exact .inl h1
      rcases h with ⟨hw, h⟩ | ⟨hw, v, hv, h⟩
      · exact wpAnyQ_first (T := St W Fr) (v := undef) ho (Region.noSelect_spec hsel) (fun c a w h => (hP c _ w h).elim) (fun w h _ => h) fuel listed a w
          hfree hr' (.inr ⟨wantedBy_spec ha hw (hgx ho), rfl⟩) (hs.ent hE)
          (wpAnyQ_of_SLl hsel hgo c _ _ _ _ _ _ _ hcr hf' h (ha.putT hd _) hs (.inl hE) hQ hP)
      · exact wpAnyQ_first (T := St W Fr) (v := v) ho (Region.noSelect_spec hsel) (fun c a w h => (hP c _ w h).elim) (fun w h _ => h) fuel listed a w
          hfree hr' (.inl ⟨wantedBy_spec ha hw (hgx ho), fun w hw => hv a w ha hw⟩) (hs.ent hE)
          (wpAnyQ_of_SLl hsel hgo c _ _ _ _ _ _ _ hcr hf' h (ha.putT hd _) hs (.inl hE) hQ hP)
    | eff needs =>
      simp only [Bool.and_eq_true, beq_iff_eq, Bool.or_eq_true] at hc
      obtain ⟨⟨⟨hr, hnd⟩, hqt⟩, hct⟩ := hc
      subst hnd
      rw [Bool.not_eq_true'] at hqt
      have hr' : i ∈ Region.ready md ops listed := by rw [hr]; simp
      obtain ⟨o, ho⟩ := hro hr'
      simp only [itemsBy, ho] at h
      obtain ⟨hd, h⟩ := h
      refine ⟨fun h0 => (by rw [hr] at h0; cases h0), fun j hj => ?_⟩
      rw [hr] at hj
      obtain rfl : j = i := by simpa using hj
      unfold wpOp
      simp only [ho]
      rcases h with ⟨hw, h⟩ | ⟨hw, h⟩
      · rw [wantedBy_spec ha hw (hgx ho)]
        simp only [Bool.false_eq_true, if_false]
        have hF' : Ent σ Fr ∨ c.all later = true := hF.imp id fun h => by simp only [List.all_cons, Bool.and_eq_true] at h; exact h.2
        refine ⟨⟨fun hn => ?_, fun _ => trivial⟩, wpAnyQ_of_SLl hsel hgo c _ _ _ _ _ _ _ hcr hf' h (ha.putT hd _) hs hF' hQ hP⟩
        rcases hF with hF | hF
        · exact hs.ent hF
        · simp [later, hn] at hF
      · rw [wantedBy_spec ha hw (hgx ho)]
        simp only [if_true]
        refine .inl (Oper.wp_monoQ (Q := Never) (fun _ _ _ h => h.elim) (Oper.wp_mono ?_ (h ds a w ha hs)))
        rintro a' w' ⟨v, σ', ⟨hk1, hk2⟩, rfl, hs'⟩
        exact ⟨⟨fun hn => hs'.ent (hk1 hn), fun h => by rw [hqt] at h; cases h⟩, wpAnyQ_of_SLl hsel hgo c _ _ _ _ _ _ _ hcr hf' hk2 (ha.putT hd _) hs' (hct.imp hk1 id) hQ hP⟩
end draws
def keepsOf (c : List (Nat × Flag)) (i : Nat) : Bool := c.any fun x => x.1 == i && (match x.2 with | .eff true => true | _ => false)
def quietOf (c : List (Nat × Flag)) (i : Nat) : Bool := c.any fun x => x.1 == i && x.2.quiet
def planQ (ops : Array Oper) (c : List (Nat × Flag)) : Bool :=
  Region.noSelect ops && guardsOk ops && canonQ .any ops (keepsOf c) (quietOf c) c (Array.replicate ops.size false) && decide (c.length ≤ ops.size)
theorem SLc.drawsQ {Q : Post} {id : Nat} {ops : Array Oper} (Fr : List Chunk) (c : List (Nat × Flag)) (hm : P.follows .mixedOrders = true) (hp : planQ ops c = true) (hF : Ent σ Fr)
    (h : SLl P W n Fr (fun e ds σ => Q .normal e ds σ) (itemsBy ops c) e ds σ) : SLc P W n (.region id ops true) e ds σ Q := by
  intro a w ha hw
  simp only [planQ, Bool.and_eq_true, decide_eq_true_eq] at hp
  obtain ⟨⟨⟨h1, h2⟩, h3⟩, h4⟩ := hp
  have hw' : St W σ { w with drawn := w.drawn + 1 } := hw.drew rfl rfl rfl rfl
  have h0 : (Code.region id ops true).wp P (fun x a' w' => x = .normal ∧ ∃ e' ds' σ', Q .normal e' ds' σ' ∧ Agree n e' ds' a' ∧ St W σ' w') a w :=
    wp_region_any hm (wpAny_of_quiet _ _ _ _ (wpAnyQ_of_SLl (Q := fun x a' w' => x = .normal ∧ ∃ e' ds' σ', Q .normal e' ds' σ' ∧ Agree n e' ds' a' ∧ St W σ' w') h1 h2 c _ e ds σ a _ _ h3 h4 h ha hw' (.inl hF) (fun _ _ h => ⟨rfl, h⟩) (fun c a w h => by cases h.1)))
  refine wp_mono h0 ?_
  rintro x a' w' ⟨rfl, h⟩
  exact h
end
end Go.Sl
