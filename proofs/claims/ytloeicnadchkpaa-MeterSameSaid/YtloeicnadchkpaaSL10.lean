/- Regions that draw and hold two effects of which Go leaves open which comes first. -/
import Derived.Test.YtloeicnadchkpaaSL9
namespace Go.Sl
open Go.RowKit
section
variable {P : Program} {W : World} {n : Nat} {e : Tm} {ds : List Deferred} {σ σ' Fr F : List Chunk} {Q : Exit → Act → World → Prop} {md : Region.Mode} {nd : Nat → Bool} {ops : Array Oper}
variable {K : Tm → List Deferred → List Chunk → Prop}
def listedBy : List Nat → Array Bool → Array Bool
  | [], l => l
  | i :: c, l => listedBy c (l.setIfInBounds i true)
/-- What is read first. -/
def canonT (md : Region.Mode) (ops : Array Oper) (nd : Nat → Bool) : List Nat → Array Bool → Bool
  | [], _ => true
  | i :: c, listed => ((Region.ready md ops listed).contains i && Region.free md ops listed i && (List.range ops.size).all fun j => j == i || listed.getD j true || (match ops[j]? with
          | some oj => oj.after.any (fun e => Region.binds md e && e.on == i) || nd j
          | none => true)) && canonT md ops nd c (listed.setIfInBounds i true)
def takes (c : List Nat) : List (Nat × Flag) := c.map fun i => (i, .take)
theorem wpAnyN_takes (hsel : Region.noSelect ops = true) (hgo : guardsOk ops = true) (hP : ∀ c a w, ¬ Q (.panic c) a w) : ∀ (c : List Nat) (listed : Array Bool) (e : Tm) (a : Act) (w : World) (fuel : Nat),
    canonT md ops nd c listed = true → SLl P W n Fr K (itemsBy ops (takes c)) e ds σ → Agree n e ds a → St W σ w → Ent σ Fr →
    (∀ e a w, K e ds σ → Agree n e ds a → St W σ w → wpAnyN P md ops Q (St W Fr) nd fuel (listedBy c listed) a w) → wpAnyN P md ops Q (St W Fr) nd (c.length + fuel) listed a w
  | [], listed, e, a, w, fuel, _, h, ha, hs, _, hr => by
    rw [List.length_nil, Nat.zero_add]
    exact hr e a w h ha hs
  | i :: c, listed, e, a, w, fuel, hc, h, ha, hs, hE, hr => by
    rw [List.length_cons, show c.length + 1 + fuel = (c.length + fuel) + 1 by omega]
    simp only [canonT, Bool.and_eq_true] at hc
    obtain ⟨⟨⟨hrd, hfr⟩, hnd⟩, hcr⟩ := hc
    have hr' : i ∈ Region.ready md ops listed := by simpa using hrd
    obtain ⟨o, ho⟩ : ∃ o, ops[i]? = some o := by obtain ⟨_, o, ho, _⟩ := mem_ready.1 hr'; exact ⟨o, ho⟩
    have hgx : ∀ g, o.guard = some g → ((ops[g.1]?).bind (·.dst)).isSome = true := fun g hg => by
      have := List.all_eq_true.1 hgo _ (Array.mem_toList_iff.2 (Array.mem_of_getElem? ho))
      simpa [hg] using this
    simp only [takes, List.map_cons, itemsBy, ho] at h
    obtain ⟨hd, h⟩ := h
    have hfree : ∀ j oj, ops[j]? = some oj → j ≠ i → listed.getD j true = false → (∀ e ∈ oj.after, Region.binds md e = true → e.on ≠ i) →
        o.apart ops oj = true ∧ ∀ w, (nd j = true → St W Fr w) → St W Fr w := fun j oj hj hji hun hno => by
      refine ⟨Region.free_spec ho hfr j oj hj hji hun hno, fun w hw => hw ?_⟩
      have hlt : j < ops.size := (Array.getElem?_eq_some_iff.1 hj).1
      have h1 := List.all_eq_true.1 hnd j (List.mem_range.2 hlt)
      simp only [hj, Bool.or_eq_true, beq_iff_eq, hji, hun, Bool.false_eq_true, false_or] at h1
      rcases h1 with h1 | h1
      · obtain ⟨e, he, hb⟩ := Array.any_eq_true'.1 h1
        simp only [Bool.and_eq_true, beq_iff_eq] at hb
        exact absurd hb.2 (hno e he hb.1)
      · exact h1
    rcases h with ⟨hw, h⟩ | ⟨hw, v, hv, h⟩
    · exact wpAnyN_first (T := St W Fr) (v := undef) ho (Region.noSelect_spec hsel) (fun c a w h => (hP c _ w h).elim) (fun w h _ => h) (c.length + fuel) listed a w
        hfree hr' (.inr ⟨wantedBy_spec ha hw hgx, rfl⟩) (hs.ent hE) (wpAnyN_takes hsel hgo hP c _ _ _ _ fuel hcr h (ha.putT hd _) hs hE hr)
    · exact wpAnyN_first (T := St W Fr) (v := v) ho (Region.noSelect_spec hsel) (fun c a w h => (hP c _ w h).elim) (fun w h _ => h) (c.length + fuel) listed a w
        hfree hr' (.inl ⟨wantedBy_spec ha hw hgx, fun w hw => hv a w ha hw⟩) (hs.ent hE) (wpAnyN_takes hsel hgo hP c _ _ _ _ fuel hcr h (ha.putT hd _) hs hE hr)
theorem wpOp_effFirst (hsel : Region.noSelect ops = true) (hgo : guardsOk ops = true) (hP : ∀ c a w, ¬ Q (.panic c) a w) (hQ : ∀ a' w', (∃ e' ds' σ', K e' ds' σ' ∧ Agree n e' ds' a' ∧ St W σ' w') → Q .normal a' w')
    {i : Nat} {o : Oper} (ho : ops[i]? = some o) {c : List (Nat × Flag)} {listed : Array Bool} {fuel : Nat} (hcr : canonB md ops nd c (listed.setIfInBounds i true) = true) (hf : c.length ≤ fuel)
    {a : Act} {w : World} (h : SLl P W n Fr K (itemsBy ops ((i, .eff true) :: c)) e ds σ) (ha : Agree n e ds a) (hs : St W σ w) (hE : Ent σ Fr) :
    wpOp P ops Q i (fun a' w' => (nd i = true → St W Fr w') ∧ wpAnyN P md ops Q (St W Fr) nd fuel (listed.setIfInBounds i true) a' w') a w := by
  have hgx : ∀ g, o.guard = some g → ((ops[g.1]?).bind (·.dst)).isSome = true := fun g hg => by
    have := List.all_eq_true.1 hgo _ (Array.mem_toList_iff.2 (Array.mem_of_getElem? ho))
    simpa [hg] using this
  simp only [itemsBy, ho] at h
  obtain ⟨hd, h⟩ := h
  unfold wpOp
  simp only [ho]
  rcases h with ⟨hw, h⟩ | ⟨hw, h⟩
  · rw [wantedBy_spec ha hw hgx]
    simp only [Bool.false_eq_true, if_false]
    exact ⟨fun _ => hs.ent hE, wpAnyN_of_SLl hsel hgo c _ _ _ _ _ _ _ hcr hf h (ha.putT hd _) hs (.inl hE) hQ hP⟩
  · rw [wantedBy_spec ha hw hgx]
    simp only [if_true]
    refine .inl (Oper.wp_monoQ (Q := Never) (fun _ _ _ h => h.elim) (Oper.wp_mono ?_ (h ds a w ha hs)))
    rintro a' w' ⟨v, σ', ⟨hk1, hk2⟩, rfl, hs'⟩
    exact ⟨fun _ => hs'.ent (hk1 rfl), wpAnyN_of_SLl hsel hgo c _ _ _ _ _ _ _ hcr hf hk2 (ha.putT hd _) hs' (.inl (hk1 rfl)) hQ hP⟩
/-- A plan: what is read first, then the two in either order, each with what follows it. -/
def plan2Ok (ops : Array Oper) (pre : List Nat) (i : Nat) (ci : List (Nat × Flag)) (j : Nat) (cj : List (Nat × Flag)) : Bool :=
  Region.noSelect ops && guardsOk ops && canonT .any ops (needsOf ops pre) pre (Array.replicate ops.size false) && (Region.ready .any ops (listedBy pre (Array.replicate ops.size false)) == [i, j]) &&
  needsOf ops pre i && needsOf ops pre j && canonB .any ops (needsOf ops pre) ci ((listedBy pre (Array.replicate ops.size false)).setIfInBounds i true) && canonB .any ops (needsOf ops pre) cj ((listedBy pre (Array.replicate ops.size false)).setIfInBounds j true) &&
  decide (pre.length + 1 + ci.length ≤ ops.size) && decide (pre.length + 1 + cj.length ≤ ops.size)
theorem SLc.draws2 {Q : Post} {id : Nat} (Fr : List Chunk) (pre : List Nat) (i : Nat) (ci : List (Nat × Flag)) (j : Nat) (cj : List (Nat × Flag)) (hm : P.follows .mixedOrders = true) (hp : plan2Ok ops pre i ci j cj = true) (hF : Ent σ Fr)
    (h : SLl P W n Fr (fun e ds σ => SLl P W n Fr (fun e ds σ => Q .normal e ds σ) (itemsBy ops ((i, .eff true) :: ci)) e ds σ ∧ SLl P W n Fr (fun e ds σ => Q .normal e ds σ) (itemsBy ops ((j, .eff true) :: cj)) e ds σ) (itemsBy ops (takes pre)) e ds σ) :
    SLc P W n (.region id ops true) e ds σ Q := by
  intro a w ha hw
  simp only [plan2Ok, Bool.and_eq_true, decide_eq_true_eq, beq_iff_eq] at hp
  obtain ⟨⟨⟨⟨⟨⟨⟨⟨⟨h1, h2⟩, h3⟩, h4⟩, _⟩, _⟩, h7⟩, h8⟩, h9⟩, h10⟩ := hp
  have hw' : St W σ { w with drawn := w.drawn + 1 } := hw.drew rfl rfl rfl rfl
  have hready : ∀ k, k ∈ Region.ready .any ops (listedBy pre (Array.replicate ops.size false)) → ∃ o, ops[k]? = some o := fun k hk => by obtain ⟨_, o, ho, _⟩ := mem_ready.1 hk; exact ⟨o, ho⟩
  have h0 : (Code.region id ops true).wp P (fun x a' w' => x = .normal ∧ ∃ e' ds' σ', Q .normal e' ds' σ' ∧ Agree n e' ds' a' ∧ St W σ' w') a w := by
    refine wp_region_any hm (wpAny_of_needs (S := St W Fr) (nd := needsOf ops pre) _ _ _ _ ?_)
    obtain ⟨f, hf⟩ : ∃ f, ops.size = pre.length + (f + 1) := ⟨ops.size - pre.length - 1, by omega⟩
    have key : wpAnyN P .any ops (fun x a' w' => x = .normal ∧ ∃ e' ds' σ', Q .normal e' ds' σ' ∧ Agree n e' ds' a' ∧ St W σ' w') (St W Fr) (needsOf ops pre) (pre.length + (f + 1)) (Array.replicate ops.size false) a { w with drawn := w.drawn + 1 } := by
      refine wpAnyN_takes h1 h2 (fun c a w h => by cases h.1) pre _ e a _ (f + 1) h3 h ha hw' hF ?_
      rintro e' a' w' ⟨hi, hj⟩ ha' hs'
      refine ⟨fun hr => (by rw [h4] at hr; cases hr), fun k hk => ?_⟩
      obtain ⟨o, ho⟩ := hready k hk
      rw [h4] at hk
      simp only [List.mem_cons, List.not_mem_nil, or_false] at hk
      rcases hk with rfl | rfl
      · exact wpOp_effFirst h1 h2 (fun c a w h => by cases h.1) (fun _ _ h => ⟨rfl, h⟩) ho h7 (by omega) hi ha' hs' hF
      · exact wpOp_effFirst h1 h2 (fun c a w h => by cases h.1) (fun _ _ h => ⟨rfl, h⟩) ho h8 (by omega) hj ha' hs' hF
    rw [← hf] at key
    exact key
  refine wp_mono h0 ?_
  rintro x a' w' ⟨rfl, h⟩
  exact h
end
end Go.Sl
