/- A small separation logic over the kit's Calls and Code.wp: chunks of memory that a call owns, rules for operations, code and calls. -/
import Derived.Below
import Derived.Calls
namespace Go.Sl
open Go.RowKit

/-! ### What is known of the temporaries -/
abbrev Tm := List (Nat × Value)
def Tm.get : Tm → Nat → Option Value
  | [], _ => none
  | (k, v) :: r, t => bif Nat.beq k t then some v else Tm.get r t
def Tm.ev (e : Tm) : Operand → Option Value
  | .tmp t => Tm.get e t
  | .const v => some v
  | .global g => some (.pointer (some ⟨g, 0, none⟩))
  | .func f => some (.func (.func f) #[] #[])
def Tm.evs (e : Tm) : List Operand → Option (List Value)
  | [] => some []
  | x :: r => match Tm.ev e x, Tm.evs e r with
    | some v, some vs => some (v :: vs)
    | _, _ => none
/-- Every entry of the first is known in the second. -/
def Sub : Tm → Tm → Prop
  | [], _ => True
  | p :: r, e => Tm.get e p.1 = some p.2 ∧ Sub r e

structure Agree (n : Nat) (e : Tm) (ds : List Deferred) (a : Act) : Prop where
  size : a.tmps.size = n
  defers : a.defers = ds
  get : ∀ t v, Tm.get e t = some v → a.tmps[t]? = some v

theorem Sub.get {e' e : Tm} (h : Sub e' e) {t : Nat} {v : Value} (hg : Tm.get e' t = some v) : Tm.get e t = some v := by
  induction e' with
  | nil => simp [Tm.get] at hg
  | cons p r ih =>
    obtain ⟨k, u⟩ := p
    obtain ⟨h1, h2⟩ := h
    simp only [Tm.get] at hg
    cases hk : Nat.beq k t with
    | true =>
      have : k = t := Nat.eq_of_beq_eq_true hk
      subst this
      simp at hg
      subst hg
      exact h1
    | false =>
      simp [hk] at hg
      exact ih h2 hg
theorem Agree.sub {n : Nat} {e e' : Tm} {ds : List Deferred} {a : Act} (h : Agree n e ds a) (hs : Sub e' e) : Agree n e' ds a :=
  ⟨h.size, h.defers, fun _ _ hg => h.get _ _ (hs.get hg)⟩
theorem Agree.ev {n : Nat} {e : Tm} {ds : List Deferred} {a : Act} (h : Agree n e ds a) {x : Operand} {v : Value} (hx : Tm.ev e x = some v) : a.eval x = v := by
  cases x with
  | tmp t => simp only [Tm.ev] at hx; simp [Act.eval, h.get _ _ hx]
  | const c => simp [Tm.ev] at hx; simp [Act.eval, hx]
  | global g => simp [Tm.ev] at hx; simp [Act.eval, hx]
  | func f => simp [Tm.ev] at hx; simp [Act.eval, hx]
theorem Agree.evs {n : Nat} {e : Tm} {ds : List Deferred} {a : Act} (h : Agree n e ds a) : ∀ {xs : List Operand} {vs : List Value}, Tm.evs e xs = some vs → xs.map a.eval = vs
  | [], vs, hx => by simp [Tm.evs] at hx; simp [hx]
  | x :: r, vs, hx => by
    simp only [Tm.evs] at hx
    split at hx
    · rename_i v vs' h1 h2
      simp at hx; subst hx
      simp [h.ev h1, h.evs h2]
    · simp at hx
theorem Agree.put {n : Nat} {e : Tm} {ds : List Deferred} {a : Act} (h : Agree n e ds a) {d : Nat} (hd : d < n) (v : Value) : Agree n ((d, v) :: e) ds (a.put (some d) v) := by
  refine ⟨by simp [Act.put, h.size], by simp [Act.put, h.defers], fun t u hg => ?_⟩
  simp only [Tm.get] at hg
  cases hk : Nat.beq d t with
  | true =>
    have : d = t := Nat.eq_of_beq_eq_true hk
    subst this
    simp at hg
    subst hg
    simp [Act.put, h.size, hd]
  | false =>
    simp [hk] at hg
    have : d ≠ t := fun e => by subst e; simp at hk
    simp only [Act.put]
    rw [Array.getElem?_setIfInBounds]
    simp [this, h.get _ _ hg]
theorem Agree.putNone {n : Nat} {e : Tm} {ds : List Deferred} {a : Act} (h : Agree n e ds a) (v : Value) : Agree n e ds (a.put none v) := h

/-! ### Memory that the call owns -/
def _root_.Go.Value.el (v : Value) (size i off : Nat) : Addr := match v with | .slice (some a) _ _ => ⟨a.block, a.off + (i * size + off), none⟩ | _ => ⟨0, 0, none⟩
/-- An owned slice: its elements (each a list of cells), the backing block whole. -/
def rowSat (w : World) (v : Value) (ty size : Nat) (es : List (List Value)) : Prop :=
  (∀ c ∈ es, c.length = size) ∧
  ((v = .slice none 0 0 ∧ es = []) ∨
   ∃ g off cap cur, v = .slice (some ⟨g, off, none⟩) es.length cap ∧ w.heap[g]? = some (.cells cur ty (0, 0)) ∧ es.length ≤ cap ∧ cap ≤ maxLen ∧
     off + cap * size ≤ cur.size ∧ (cur.toList.drop off).take (es.length * size) = es.flatten)
inductive Chunk where
  | blk (b : Nat) (ty : TypeId) (cells : List Value)
  | row (v : Value) (ty size : Nat) (es : List (List Value))
def Chunk.block? : Chunk → Option Nat
  | .blk b _ _ => some b
  | .row v _ _ _ => v.ownBlock
def Chunk.sat (w : World) : Chunk → Prop
  | .blk b ty cells => w.heap[b]? = some (.cells cells.toArray ty (0, 0))
  | .row v ty size es => rowSat w v ty size es
structure Own (B : Nat) (σ : List Chunk) (w : World) : Prop where
  sat : ∀ c ∈ σ, c.sat w
  nodup : (σ.filterMap Chunk.block?).Nodup
  base : ∀ b ∈ σ.filterMap Chunk.block?, B ≤ b
/-- The world stands: below the first world's size all is as it was; the chunks are owned. -/
structure St (W : World) (σ : List Chunk) (w : World) : Prop where
  below : Below W.heap.size W w
  own : Own W.heap.size σ w

theorem Chunk.sat_kept {w w' : World} {c : Chunk} (h : c.sat w) (hk : ∀ b, c.block? = some b → w'.heap[b]? = w.heap[b]?) : c.sat w' := by
  cases c with
  | blk b ty cells => simp only [Chunk.sat] at *; rw [hk b rfl]; exact h
  | row v ty size es =>
    simp only [Chunk.sat, rowSat] at *
    refine ⟨h.1, ?_⟩
    rcases h.2 with h2 | ⟨g, off, cap, cur, hv, hg, r⟩
    · exact .inl h2
    · exact .inr ⟨g, off, cap, cur, hv, by rw [hk g (by simp [Chunk.block?, hv, Value.ownBlock])]; exact hg, r⟩
theorem Chunk.sat_lt {w : World} {c : Chunk} (h : c.sat w) {b : Nat} (hb : c.block? = some b) : b < w.heap.size := by
  cases c with
  | blk b' ty cells => simp only [Chunk.sat, Chunk.block?] at *; cases hb; exact (Array.getElem?_eq_some_iff.1 h).1
  | row v ty size es =>
    simp only [Chunk.sat, rowSat, Chunk.block?] at *
    rcases h.2 with ⟨rfl, _⟩ | ⟨g, off, cap, cur, rfl, hg, r⟩
    · simp [Value.ownBlock] at hb
    · simp [Value.ownBlock] at hb; subst hb; exact (Array.getElem?_eq_some_iff.1 hg).1

/-! ### Picking a chunk -/
inductive Sel : Chunk → List Chunk → List Chunk → Prop
  | here {c : Chunk} {F : List Chunk} : Sel c (c :: F) F
  | there {c d : Chunk} {σ F : List Chunk} : Sel c σ F → Sel c (d :: σ) (d :: F)
theorem Sel.perm {c : Chunk} {σ F : List Chunk} (h : Sel c σ F) : σ.Perm (c :: F) := by
  induction h with
  | here => exact .refl _
  | there _ ih => exact (ih.cons _).trans (.swap ..)
/-- One chunk in another's place. -/
inductive Upd : Chunk → Chunk → List Chunk → List Chunk → Prop
  | here {c d : Chunk} {F : List Chunk} : Upd c d (c :: F) (d :: F)
  | there {c d x : Chunk} {σ σ' : List Chunk} : Upd c d σ σ' → Upd c d (x :: σ) (x :: σ')
theorem Upd.split {c d : Chunk} {σ σ' : List Chunk} (h : Upd c d σ σ') : ∃ F, σ.Perm (c :: F) ∧ σ'.Perm (d :: F) := by
  induction h with
  | here => exact ⟨_, .refl _, .refl _⟩
  | there _ ih => obtain ⟨F, h1, h2⟩ := ih; exact ⟨_ :: F, (h1.cons _).trans (.swap ..), (h2.cons _).trans (.swap ..)⟩
theorem Own.perm {B : Nat} {σ σ' : List Chunk} {w : World} (h : Own B σ w) (hp : σ.Perm σ') : Own B σ' w :=
  ⟨fun c hc => h.sat c (hp.mem_iff.2 hc), (hp.filterMap _).nodup_iff.1 h.nodup, fun b hb => h.base b ((hp.filterMap _).mem_iff.2 hb)⟩
theorem St.perm {W : World} {σ σ' : List Chunk} {w : World} (h : St W σ w) (hp : σ.Perm σ') : St W σ' w := ⟨h.below, h.own.perm hp⟩
theorem Own.tail {B : Nat} {c : Chunk} {σ : List Chunk} {w : World} (h : Own B (c :: σ) w) : Own B σ w := by
  refine ⟨fun d hd => h.sat d (.tail _ hd), ?_, ?_⟩
  · have := h.nodup
    simp only [List.filterMap_cons] at this
    split at this
    · exact this
    · exact (List.nodup_cons.1 this).2
  · intro b hb
    refine h.base b ?_
    simp only [List.filterMap_cons]
    split
    · exact hb
    · exact .tail _ hb
/-- What is owned implies what else is owned (chunks may be dropped and stand in another order). -/
inductive Ent : List Chunk → List Chunk → Prop
  | refl {σ : List Chunk} : Ent σ σ
  | drop {σ : List Chunk} : Ent σ []
  | cons {c : Chunk} {σ F σ' : List Chunk} : Sel c σ F → Ent F σ' → Ent σ (c :: σ')
  | skip {c : Chunk} {σ σ' : List Chunk} : Ent σ σ' → Ent (c :: σ) σ'
  | perm {σ σ' : List Chunk} : σ.Perm σ' → Ent σ σ'
  | nil {ty size : Nat} {σ σ' : List Chunk} : Ent σ σ' → Ent σ (.row (.slice none 0 0) ty size [] :: σ')
  | trans {a b c : List Chunk} : Ent a b → Ent b c → Ent a c
theorem Own.nil {B : Nat} {w : World} : Own B [] w := ⟨by simp, by simp, by simp⟩
theorem Own.cons_iff {B : Nat} {c : Chunk} {σ : List Chunk} {w : World} : Own B (c :: σ) w ↔ c.sat w ∧ Own B σ w ∧ ∀ b, c.block? = some b → B ≤ b ∧ b ∉ σ.filterMap Chunk.block? := by
  constructor
  · intro h
    refine ⟨h.sat c (.head _), h.tail, fun b hb => ?_⟩
    have h1 := h.nodup
    have h2 := h.base
    simp only [List.filterMap_cons, hb] at h1 h2
    exact ⟨h2 b (.head _), (List.nodup_cons.1 h1).1⟩
  · rintro ⟨h1, h2, h3⟩
    refine ⟨fun d hd => ?_, ?_, ?_⟩
    · cases hd with
      | head => exact h1
      | tail _ hd => exact h2.sat d hd
    · simp only [List.filterMap_cons]
      split
      · exact h2.nodup
      · rename_i b hb; exact List.nodup_cons.2 ⟨(h3 b hb).2, h2.nodup⟩
    · simp only [List.filterMap_cons]
      split
      · exact h2.base
      · rename_i b hb
        intro x hx
        cases hx with
        | head => exact (h3 b hb).1
        | tail _ hx => exact h2.base x hx
theorem Ent.blocks {σ σ' : List Chunk} (h : Ent σ σ') : ∀ b ∈ σ'.filterMap Chunk.block?, b ∈ σ.filterMap Chunk.block? := by
  induction h with
  | refl => exact fun _ h => h
  | drop => simp
  | cons hs _ ih =>
    intro b hb
    refine (hs.perm.filterMap _).mem_iff.2 ?_
    simp only [List.filterMap_cons] at hb ⊢
    split at hb
    · exact ih b hb
    · cases hb with
      | head => exact .head _
      | tail _ hb => exact .tail _ (ih b hb)
  | @skip c σ σ' _ ih =>
    intro b hb
    have h0 := ih b hb
    simp only [List.filterMap_cons]
    split
    · exact h0
    · exact .tail _ h0
  | perm hp => exact fun b hb => (hp.filterMap _).mem_iff.2 hb
  | nil _ ih => exact fun b hb => ih b (by simpa [Chunk.block?, Value.ownBlock] using hb)
  | trans _ _ h1 h2 => exact fun b hb => h1 b (h2 b hb)
theorem Own.ent {B : Nat} {σ σ' : List Chunk} (he : Ent σ σ') {w : World} (h : Own B σ w) : Own B σ' w := by
  induction he with
  | refl => exact h
  | drop => exact .nil
  | cons hs he ih =>
    have h' := h.perm hs.perm
    obtain ⟨h1, h2, h3⟩ := Own.cons_iff.1 h'
    exact Own.cons_iff.2 ⟨h1, ih h2, fun b hb => ⟨(h3 b hb).1, fun hm => (h3 b hb).2 (he.blocks b hm)⟩⟩
  | skip _ ih => exact ih h.tail
  | perm hp => exact h.perm hp
  | nil _ ih => exact Own.cons_iff.2 ⟨⟨by simp, .inl ⟨rfl, rfl⟩⟩, ih h, by simp [Chunk.block?, Value.ownBlock]⟩
  | trans _ _ h1 h2 => exact h2 (h1 h)
theorem St.ent {W : World} {σ σ' : List Chunk} {w : World} (h : St W σ w) (he : Ent σ σ') : St W σ' w := ⟨h.below, h.own.ent he⟩

/-- A nil slice owns nothing: it can be taken for an owned slice at any time. -/
theorem St.addNil {W : World} {σ : List Chunk} {w : World} (h : St W σ w) (ty size : Nat) : St W (.row (.slice none 0 0) ty size [] :: σ) w :=
  ⟨h.below, Own.cons_iff.2 ⟨⟨by simp, .inl ⟨rfl, rfl⟩⟩, h.own, by simp [Chunk.block?, Value.ownBlock]⟩⟩

/-! ### A new block, a store -/
theorem St.alloc {W : World} {σ : List Chunk} {w : World} (h : St W σ w) (ty : TypeId) (cells : List Value) :
    St W (.blk w.heap.size ty cells :: σ) (w.alloc (.cells cells.toArray ty (0, 0))) := by
  have hsz := h.below.size
  refine ⟨h.below.alloc hsz _, Own.cons_iff.2 ⟨heap_alloc_new w _, ?_, ?_⟩⟩
  · refine ⟨fun c hc => Chunk.sat_kept (h.own.sat c hc) fun b hb => heap_alloc_old w _ b (Chunk.sat_lt (h.own.sat c hc) hb), h.own.nodup, h.own.base⟩
  · intro b hb
    simp only [Chunk.block?, Option.some.injEq] at hb
    subst hb
    refine ⟨hsz, fun hm => ?_⟩
    obtain ⟨c, hc, hcb⟩ := List.mem_filterMap.1 hm
    exact Nat.lt_irrefl _ (Chunk.sat_lt (h.own.sat c hc) hcb)
/-- A new row of cells as an owned slice. -/
theorem St.allocRow {W : World} {σ : List Chunk} {w : World} (h : St W σ w) (ty size cap : Nat) (es : List (List Value)) (cells : Array Value)
    (hes : ∀ c ∈ es, c.length = size) (hcap : es.length ≤ cap) (hm : cap ≤ maxLen) (hsz : cap * size ≤ cells.size) (ht : cells.toList.take (es.length * size) = es.flatten) :
    St W (.row (.slice (some ⟨w.heap.size, 0, none⟩) es.length cap) ty size es :: σ) (w.alloc (.cells cells ty (0, 0))) := by
  have h0 := h.alloc ty cells.toList
  simp only [Array.toArray_toList] at h0
  obtain ⟨h1, h2, h3⟩ := Own.cons_iff.1 h0.own
  refine ⟨h0.below, Own.cons_iff.2 ⟨⟨hes, .inr ⟨w.heap.size, 0, cap, cells, rfl, heap_alloc_new w _, hcap, hm, by simpa using hsz, by simpa using ht⟩⟩, h2, h3⟩⟩
/-- Draws turn nothing. -/
theorem St.drew {W : World} {σ : List Chunk} {w w' : World} (h : St W σ w) (hh : w'.heap = w.heap) (ho : w'.os = w.os) (ht : w'.tape = w.tape) (hp : w'.output = w.output) : St W σ w' :=
  ⟨⟨ho.trans h.below.os, ht.trans h.below.tape, hp.trans h.below.output, by rw [hh]; exact h.below.size, fun k hk => by rw [hh]; exact h.below.block k hk⟩,
   ⟨fun c hc => Chunk.sat_kept (h.own.sat c hc) fun b _ => by rw [hh], h.own.nodup, h.own.base⟩⟩
/-- One owned block's cells become others; all else stays. -/
theorem St.rewrite {W : World} {σ σ' F : List Chunk} {c d : Chunk} {w w' : World} (h : St W σ w) (hp : σ.Perm (c :: F)) (hp' : σ'.Perm (d :: F)) {g : Nat}
    (hc : c.block? = some g) (hd : d.block? = some g) (hs : d.sat w') (hk : ∀ b, b ≠ g → w'.heap[b]? = w.heap[b]?) (hz : w'.heap.size = w.heap.size)
    (ho : w'.os = w.os) (ht : w'.tape = w.tape) (hpt : w'.output = w.output) : St W σ' w' := by
  obtain ⟨h1, h2, h3⟩ := Own.cons_iff.1 (h.own.perm hp)
  obtain ⟨hb, hn⟩ := h3 g hc
  refine ⟨⟨ho.trans h.below.os, ht.trans h.below.tape, hpt.trans h.below.output, by rw [hz]; exact h.below.size, fun k hkk => (hk k (by omega)).trans (h.below.block k hkk)⟩, ?_⟩
  refine Own.perm ?_ hp'.symm
  refine Own.cons_iff.2 ⟨hs, ⟨fun x hx => Chunk.sat_kept (h2.sat x hx) fun b hb' => hk b fun e => ?_, h2.nodup, h2.base⟩, fun b hb' => ?_⟩
  · subst e; exact hn (List.mem_filterMap.2 ⟨x, hx, hb'⟩)
  · rw [hd] at hb'; cases hb'; exact ⟨hb, hn⟩

end Go.Sl
