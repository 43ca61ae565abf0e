/- meter.Spread. -/
import Derived.Test.YtloeicnadchkpaaArgs2
import Derived.Test.YtloeicnadchkpaaSL14
namespace Go.Sl
open Go.Proofs
attribute [local irreducible] SLc SLl SLo SLf Pu Rd

abbrev Evt := Int × Int × Int
def evC (p : Evt) : List Value := [.int .i64 p.1, .int .i64 0, .int .i64 p.2.1, .int .i64 p.2.2, .int .i64 0, .int .i64 0, .slice none 0 0, .slice none 0 0]
def evs (E : List Evt) : List (List Value) := E.map evC
theorem evs_len {E : List Evt} : (evs E).length = E.length := by simp [evs]
theorem evs_at {E : List Evt} {k : Nat} {p : Evt} (h : E[k]? = some p) : (evs E)[k]? = some [.int .i64 p.1, .int .i64 0, .int .i64 p.2.1, .int .i64 p.2.2, .int .i64 0, .int .i64 0, .slice none 0 0, .slice none 0 0] := by simp [evs, evC, h]
theorem evs_eight {E : List Evt} : ∀ c ∈ evs E, c.length = 8 := fun c hc => by obtain ⟨x, _, rfl⟩ := List.mem_map.1 hc; rfl
def hitP (f : Int) (p : Evt) : Nat := if p.2.1 ≤ f ∧ f ≤ p.2.2 then 1 else 0
def hits (E : List Evt) (f : Int) : Nat → Nat
  | 0 => 0
  | j + 1 => hits E f j + ((E[j]?).map (hitP f)).getD 0
def most (E : List Evt) : Nat → Nat
  | 0 => 0
  | i + 1 => max (most E i) (((E[i]?).map fun p => hits E p.2.1 E.length).getD 0)
theorem hits_succ {E : List Evt} {f : Int} {j : Nat} {p : Evt} (h : E[j]? = some p) : hits E f (j + 1) = hits E f j + (if p.2.1 ≤ f ∧ f ≤ p.2.2 then 1 else 0) := by simp [hits, h, hitP]
theorem most_succ {E : List Evt} {i : Nat} {p : Evt} (h : E[i]? = some p) : most E (i + 1) = max (most E i) (hits E p.2.1 E.length) := by simp [most, h]
theorem hits_le {E : List Evt} {f : Int} : ∀ j, hits E f j ≤ j
  | 0 => Nat.le_refl _
  | j + 1 => by
    have := hits_le (E := E) (f := f) j
    cases h : E[j]? with
    | none => simp [hits, h]; omega
    | some p => rw [hits_succ h]; split <;> omega

theorem Spread_ok (W : World) (F : List Chunk) (sl : Value) (E : List Evt) (hr : Rs W F sl 8 (evs E)) (hl : E.length ≤ 1000000) :
    SLf Try.prog W 66 [sl] F (fun v σ => v = .int .i64 (most E E.length : Nat) ∧ σ = F) := by
  have hel := @evs_len E
  refine SLf.enter Try.func66 rfl (Nat.le_of_ble_eq_true rfl) ?_
  (repeat' (first | (first | refine SLl.nil ?_ | ((show SLl _ _ _ _ _ (⟨⟨_, _, _, _, _, _⟩, _, _⟩ :: _) _ _ _); first | refine SLl.ev rfl rfl rfl rfl ?_ | ((show SLl _ _ _ _ _ (⟨⟨_, .call ⟨.builtin .len, _, _⟩, _, _, _, _⟩, _, _⟩ :: _) _ _ _); refine SLl.rdSeq rfl rfl (Rd.len rfl (by ((apply Len.rs; exact Rs.mono (by assumption) (by (repeat' (exact Ent.refl))))))) ?_))) | (first | refine SLc.seq ?_ | refine SLc.region rfl ?_ | refine SLc.block ?_)))
  refine SLc.loop (ι := Nat × Int) (fun p => [(11, .int .i64 p.1), (10, .int .i64 (evs E).length), (9, sl), (3, .int .i64 p.2), (0, sl)]) (fun _ => F) (fun p => p.1 ≤ E.length ∧ p.2 = (most E p.1 : Nat)) (fun p => E.length - p.1) (0, 0) ⟨Nat.zero_le _, rfl⟩ (by (repeat' (first | exact trivial | apply And.intro | rfl))) .refl ?_
  rintro ⟨i, m⟩ ⟨hi, hm⟩
  dsimp only at hi hm ⊢
  by_cases hlt : i < E.length
  · have hp : E[i]? = some E[i] := List.getElem?_eq_getElem hlt
    generalize E[i] = p at hp
    have hpc := evs_at hp
    have hms := most_succ hp
    (repeat' (first | (first | refine SLl.nil ?_ | ((show SLl _ _ _ _ _ (⟨⟨_, _, _, _, _, _⟩, _, _⟩ :: _) _ _ _); first | refine SLl.ev rfl rfl rfl rfl ?_ | ((show SLl _ _ _ _ _ (⟨⟨_, .load _ _, _, _, _, _⟩, _, _⟩ :: _) _ _ _); (refine SLl.rdSeq rfl rfl (Rd.loadN rfl rfl (by ((apply ReadsN.rs0; (· exact Rs.mono (by assumption) (by (repeat' (exact Ent.refl)))); (· (assumption))))) (by rfl)) ?_)) | ((show SLl _ _ _ _ _ (⟨⟨_, .indexAddr _ _ _, _, _, _, _⟩, _, _⟩ :: _) _ _ _); (refine SLl.rdSeq rfl rfl (Rd.indexAddr rfl rfl (by ((apply Len.rs; exact Rs.mono (by assumption) (by (repeat' (exact Ent.refl)))))) (by (rfl)) (by omega)) ?_)) | ((show SLl _ _ _ _ _ (⟨⟨_, .call ⟨.builtin .len, _, _⟩, _, _, _, _⟩, _, _⟩ :: _) _ _ _); refine SLl.rdSeq rfl rfl (Rd.len rfl (by ((apply Len.rs; exact Rs.mono (by assumption) (by (repeat' (first | exact Ent.refl | apply Ent.skip))))))) ?_) | ((show SLl _ _ _ _ _ (⟨⟨_, .binOp _ _ _ _ _, _, _, _, _⟩, _, _⟩ :: _) _ _ _); ((refine SLl.cmp rfl rfl rfl rfl rfl rfl ?_ ?_ <;> intro hq <;> simp only [cmpP] at hq <;> try ((exfalso; omega))))) | ((show SLl _ _ _ _ _ (⟨⟨_, .store _ _ _, _, _, _, _⟩, _, _⟩ :: _) _ _ _); ((refine SLl.seq0 rfl (SLo.storeN rfl rfl rfl (by (repeat' (first | exact trivial | (apply And.intro; (· (exact One.lit rfl)))))) (Nat.le_of_ble_eq_true rfl) (by (repeat (apply Upd.here))) ?_)))) | ((show SLl _ _ _ _ _ (⟨⟨_, .alloc _, _, _, _, _⟩, _, _⟩ :: _) _ _ _); refine SLl.seq rfl rfl (SLo.alloc ?_); intro b))) | (first | refine SLc.seq ?_ | refine SLc.region rfl ?_ | refine SLc.condT rfl ?_ | refine SLc.block ?_ | refine SLc.skip ?_)))
    refine SLc.loop (ι := Nat × Int) (fun q => [(17, .int .i64 q.1), (16, .int .i64 (evs E).length), (15, sl), (6, .int .i64 q.2), (5, .pointer (some ⟨b, 0, none⟩)), (11, .int .i64 i), (10, .int .i64 (evs E).length), (9, sl), (3, .int .i64 m), (0, sl)]) (fun _ => .blk b 105 (evC p) :: F) (fun q => q.1 ≤ E.length ∧ q.2 = (hits E p.2.1 q.1 : Nat)) (fun q => E.length - q.1) (0, 0) ⟨Nat.zero_le _, rfl⟩ (by (repeat' (first | exact trivial | apply And.intro | rfl))) (by (repeat' (exact Ent.refl))) ?_
    rintro ⟨j, h⟩ ⟨hj, hh⟩
    dsimp only at hj hh ⊢
    by_cases hlj : j < E.length
    · have hq : E[j]? = some E[j] := List.getElem?_eq_getElem hlj
      generalize E[j] = q at hq
      have hqc := evs_at hq
      have hhs := hits_succ (f := p.2.1) hq
      have hhl := hits_le (E := E) (f := p.2.1) j
      unfold evC
      (repeat' (first | (first | refine SLl.nil ?_ | ((show SLl _ _ _ _ _ (⟨⟨_, _, _, _, _, _⟩, _, _⟩ :: _) _ _ _); first | refine SLl.ev rfl rfl rfl rfl ?_ | ((show SLl _ _ _ _ _ (⟨⟨_, .load _ _, _, _, _, _⟩, _, _⟩ :: _) _ _ _); (first | refine SLl.rdSeq rfl rfl (Rd.load rfl rfl (by (first | (apply Reads.blk; (· (repeat (first | apply Sel.here | apply Sel.there))); (· rfl)) | (apply Reads.rs; (· exact Rs.mono (by assumption) (by (repeat' (first | exact Ent.refl | apply Ent.skip)))); (· (assumption)); (· rfl))))) ?_ | refine SLl.rdSeq rfl rfl (Rd.loadN rfl rfl (by (first | (apply ReadsN.blk0; (· (repeat (apply Sel.here)))) | (apply ReadsN.rs0; (· exact Rs.mono (by assumption) (by (repeat' (first | exact Ent.refl | apply Ent.skip)))); (· (assumption))))) (by rfl)) ?_)) | ((show SLl _ _ _ _ _ (⟨⟨_, .fieldAddr _ _ _, _, _, _, _⟩, _, _⟩ :: _) _ _ _); (refine SLl.pu rfl rfl rfl (Pu.fieldAddr rfl) ?_)) | ((show SLl _ _ _ _ _ (⟨⟨_, .indexAddr _ _ _, _, _, _, _⟩, _, _⟩ :: _) _ _ _); (refine SLl.rdSeq rfl rfl (Rd.indexAddr rfl rfl (by ((apply Len.rs; exact Rs.mono (by assumption) (by (repeat' (first | exact Ent.refl | apply Ent.skip)))))) (by (rfl)) (by omega)) ?_)) | ((show SLl _ _ _ _ _ (⟨⟨_, .binOp _ _ _ _ _, _, _, _, _⟩, _, _⟩ :: _) _ _ _); (first | refine SLl.pu rfl rfl rfl (Pu.add rfl rfl (IntWalk.i64_in _ (by omega))) ?_ | (refine SLl.cmp rfl rfl rfl rfl rfl rfl ?_ ?_ <;> intro hq <;> simp only [cmpP] at hq <;> try ((exfalso; omega))))) | ((show SLl _ _ _ _ _ (⟨⟨_, .store _ _ _, _, _, _, _⟩, _, _⟩ :: _) _ _ _); ((refine SLl.seq0 rfl (SLo.storeN rfl rfl rfl (by (repeat' (first | exact trivial | (apply And.intro; (· (exact One.lit rfl)))))) (Nat.le_of_ble_eq_true rfl) (by (repeat (apply Upd.here))) ?_)))) | ((show SLl _ _ _ _ _ (⟨⟨_, .alloc _, _, _, _, _⟩, _, _⟩ :: _) _ _ _); refine SLl.seq rfl rfl (SLo.alloc ?_); intro b) | refine SLl.skip rfl rfl ?_)) | (first | refine SLc.seq ?_ | refine SLc.region rfl ?_ | refine SLc.condT rfl ?_ | refine SLc.condF rfl ?_ | refine SLc.block ?_ | refine SLc.skip ?_)))
      all_goals
        refine And.intro rfl (Exists.intro (j + 1, _) (And.intro ⟨by dsimp only; omega, ?_⟩ (And.intro (by dsimp only; omega) (And.intro (by (repeat' (first | exact trivial | apply And.intro | rfl))) (by (repeat' (first | exact Ent.refl | (refine Ent.cons (by (repeat (first | apply Sel.here | apply Sel.there))) ?_) | apply Ent.skip)))))))
        dsimp only
        rw [hhs]
        split <;> omega
    · have hje : j = E.length := by omega
      subst hje
      have hhl := hits_le (E := E) (f := p.2.1) E.length
      (repeat' (first | (first | refine SLl.nil ?_ | ((show SLl _ _ _ _ _ (⟨⟨_, _, _, _, _, _⟩, _, _⟩ :: _) _ _ _); first | refine SLl.ev rfl rfl rfl rfl ?_ | ((show SLl _ _ _ _ _ (⟨⟨_, .binOp _ _ _ _ _, _, _, _, _⟩, _, _⟩ :: _) _ _ _); ((refine SLl.cmp rfl rfl rfl rfl rfl rfl ?_ ?_ <;> intro hq <;> simp only [cmpP] at hq <;> try ((exfalso; omega))))))) | (first | refine SLc.seq ?_ | refine SLc.region rfl ?_ | refine SLc.condF rfl ?_ | refine SLc.exit ?_)))
      refine SLl.pu rfl rfl rfl (Pu.max2 rfl rfl rfl) ?_
      (repeat' (first | (first | refine SLl.nil ?_ | ((show SLl _ _ _ _ _ (⟨⟨_, _, _, _, _, _⟩, _, _⟩ :: _) _ _ _); first | refine SLl.ev rfl rfl rfl rfl ?_ | ((show SLl _ _ _ _ _ (⟨⟨_, .binOp _ _ _ _ _, _, _, _, _⟩, _, _⟩ :: _) _ _ _); (refine SLl.pu rfl rfl rfl (Pu.add rfl rfl (IntWalk.i64_in _ (by omega))) ?_)))) | (refine SLc.region rfl ?_)))
      refine And.intro rfl (Exists.intro (i + 1, _) (And.intro ⟨by dsimp only; omega, ?_⟩ (And.intro (by dsimp only; omega) (And.intro (by (repeat' (first | exact trivial | apply And.intro | rfl))) (by (repeat' (first | exact Ent.refl | apply Ent.skip)))))))
      dsimp only
      rw [hms, hm, hh]
      omega
  · have hie : i = E.length := by omega
    subst hie
    (repeat' (first | (first | refine SLl.nil ?_ | ((show SLl _ _ _ _ _ (⟨⟨_, _, _, _, _, _⟩, _, _⟩ :: _) _ _ _); first | refine SLl.ev rfl rfl rfl rfl ?_ | ((show SLl _ _ _ _ _ (⟨⟨_, .binOp _ _ _ _ _, _, _, _, _⟩, _, _⟩ :: _) _ _ _); ((refine SLl.cmp rfl rfl rfl rfl rfl rfl ?_ ?_ <;> intro hq <;> simp only [cmpP] at hq <;> try ((exfalso; omega))))))) | (first | refine SLc.seq ?_ | refine SLc.region rfl ?_ | refine SLc.condF rfl ?_ | refine SLc.exit ?_ | refine SLc.ret ?_)))
    refine And.intro rfl (Exists.intro _ (Exists.intro _ (And.intro rfl (And.intro .refl (And.intro (by rw [← hm]; rfl) rfl)))))
end Go.Sl
