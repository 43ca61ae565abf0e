/- Regions that draw and hold many effects of open order: walked as a tree. -/
import Derived.Test.YtloeicnadchkpaaSL10
namespace Go.Sl
open Go.RowKit
section
variable {P : Program} {W : World} {n : Nat} {e : Tm} {ds : List Deferred} {σ Fr : List Chunk} {nd : Nat → Bool} {ops : Array Oper} {K : Tm → List Deferred → List Chunk → Prop} {listed : Array Bool} {fuel : Nat}
def DR (P : Program) (W : World) (n : Nat) (Fr : List Chunk) (ops : Array Oper) (nd : Nat → Bool) (K : Tm → List Deferred → List Chunk → Prop) (listed : Array Bool) (fuel : Nat) (e : Tm) (ds : List Deferred) (σ : List Chunk) : Prop :=
  ∀ a w, Agree n e ds a → St W σ w → wpAnyN P .any ops (fun x a' w' => x = .normal ∧ ∃ e' ds' σ', K e' ds' σ' ∧ Agree n e' ds' a' ∧ St W σ' w') (St W Fr) nd fuel listed a w
theorem DR.takes (c : List Nat) (hg : (Region.noSelect ops && guardsOk ops) = true) (hc : canonT .any ops nd c listed = true) (hf : Nat.ble c.length fuel = true) (hE : Ent σ Fr)
    (h : SLl P W n Fr (fun e _ _ => DR P W n Fr ops nd K (listedBy c listed) (fuel - c.length) e ds σ) (itemsBy ops (takes c)) e ds σ) : DR P W n Fr ops nd K listed fuel e ds σ := by
  intro a w ha hs
  rw [Bool.and_eq_true] at hg
  obtain ⟨f, rfl⟩ : ∃ f, fuel = c.length + f := ⟨fuel - c.length, by have := Nat.le_of_ble_eq_true hf; omega⟩
  rw [Nat.add_sub_cancel_left] at h
  exact wpAnyN_takes hg.1 hg.2 (fun c a w h => by cases h.1) c listed e a w f hc h ha hs hE (fun e a w hk ha hs => hk a w ha hs)
def forkP (f : Nat → Prop) : List Nat → Prop
  | [] => True
  | k :: r => f k ∧ forkP f r
theorem forkP.at {f : Nat → Prop} : ∀ {L : List Nat}, forkP f L → ∀ k ∈ L, f k
  | _ :: _, h, _, .head _ => h.1
  | _ :: _, h, _, .tail _ hk => forkP.at h.2 _ hk
theorem DR.fork (L : List Nat) (hg : (Region.noSelect ops && guardsOk ops) = true) (hr : (Region.ready .any ops listed == L && !L.isEmpty) = true) (hf : Nat.blt 0 fuel = true) (hE : Ent σ Fr)
    (h : forkP (fun k => SLl P W n Fr (fun e ds σ => DR P W n Fr ops nd K (listed.setIfInBounds k true) (fuel - 1) e ds σ) (itemsBy ops [(k, .eff true)]) e ds σ) L) : DR P W n Fr ops nd K listed fuel e ds σ := by
  intro a w ha hs
  rw [Bool.and_eq_true] at hg hr
  obtain ⟨f, rfl⟩ : ∃ f, fuel = f + 1 := ⟨fuel - 1, by have := Nat.blt_eq ▸ hf; omega⟩
  have h4 : Region.ready .any ops listed = L := by simpa using hr.1
  have hne : L ≠ [] := by intro h0; rw [h0] at hr; simp at hr
  refine ⟨fun h0 => absurd (h4.symm.trans h0) hne, fun k hk => ?_⟩
  obtain ⟨o, ho⟩ : ∃ o, ops[k]? = some o := by obtain ⟨_, o, ho, _⟩ := mem_ready.1 hk; exact ⟨o, ho⟩
  rw [h4] at hk
  have h := h.at k hk
  have hgx : ∀ g, o.guard = some g → ((ops[g.1]?).bind (·.dst)).isSome = true := fun g hg' => by
    have := List.all_eq_true.1 hg.2 _ (Array.mem_toList_iff.2 (Array.mem_of_getElem? ho))
    simpa [hg'] using this
  simp only [itemsBy, ho] at h
  obtain ⟨hd, h⟩ := h
  unfold wpOp
  simp only [ho]
  rcases h with ⟨hw, h⟩ | ⟨hw, h⟩
  · rw [wantedBy_spec ha hw hgx]
    simp only [Bool.false_eq_true, if_false]
    exact ⟨fun _ => hs.ent hE, h _ _ (ha.putT hd _) hs⟩
  · rw [wantedBy_spec ha hw hgx]
    simp only [if_true]
    refine .inl (Oper.wp_monoQ (Q := Never) (fun _ _ _ h => h.elim) (Oper.wp_mono ?_ (h ds a w ha hs)))
    rintro a' w' ⟨v, σ', ⟨hk1, hk2⟩, rfl, hs'⟩
    exact ⟨fun _ => hs'.ent (hk1 rfl), hk2 _ _ (ha.putT hd _) hs'⟩
theorem DR.done (hr : (Region.ready .any ops listed).isEmpty = true) (h : K e ds σ) : DR P W n Fr ops nd K listed fuel e ds σ := by
  intro a w ha hs
  have h4 : Region.ready .any ops listed = [] := by simpa using hr
  cases fuel with
  | zero => exact ⟨h4, rfl, e, ds, σ, h, ha, hs⟩
  | succ f => exact ⟨fun _ => ⟨rfl, e, ds, σ, h, ha, hs⟩, fun k hk => by rw [h4] at hk; cases hk⟩
theorem SLc.drawsR {Q : Post} {id : Nat} (Fr : List Chunk) (L : List Nat) (hm : P.follows .mixedOrders = true)
    (h : DR P W n Fr ops (needsOf ops L) (fun e ds σ => Q .normal e ds σ) (Array.replicate ops.size false) ops.size e ds σ) : SLc P W n (.region id ops true) e ds σ Q := by
  intro a w ha hw
  have hw' : St W σ { w with drawn := w.drawn + 1 } := hw.drew rfl rfl rfl rfl
  have h0 : (Code.region id ops true).wp P (fun x a' w' => x = .normal ∧ ∃ e' ds' σ', Q .normal e' ds' σ' ∧ Agree n e' ds' a' ∧ St W σ' w') a w :=
    wp_region_any hm (wpAny_of_needs (S := St W Fr) (nd := needsOf ops L) _ _ _ _ (h a _ ha hw'))
  refine wp_mono h0 ?_
  rintro x a' w' ⟨rfl, h⟩
  exact h
theorem SLc.mid {c : Code} {next : Tm → List Deferred → List Chunk → Prop} {Q : Post} (R : Tm → List Deferred → List Chunk → Prop)
    (h : SLc P W n c e ds σ (thenQ R Q)) (hr : ∀ e ds σ, R e ds σ → next e ds σ) : SLc P W n c e ds σ (thenQ next Q) := by
  refine SLc.post h ?_
  intro x e' ds' σ' hq
  cases x with
  | normal => exact hr _ _ _ hq
  | _ => exact hq
end
end Go.Sl
