/- More of the own calculus: slices built part by part. -/
import Derived.Test.YtloeicnadchkpaaSL7
namespace Go.Sl
def enumC : Nat → List (List Value) → List (Nat × List Value)
  | _, [] => []
  | k, c :: r => (k, c) :: enumC (k + 1) r
theorem splice_app : ∀ (vs pre z : List Value), vs.length ≤ z.length → splice (pre ++ z) pre.length vs = pre ++ vs ++ z.drop vs.length
  | [], pre, z, _ => by simp [splice]
  | v :: r, pre, [], h => by simp at h
  | v :: r, pre, a :: z, h => by
    have h1 : (pre ++ a :: z).set pre.length v = (pre ++ [v]) ++ z := by simp
    have h2 : (pre ++ [v]).length = pre.length + 1 := by simp
    simp only [splice, h1]
    rw [← h2, splice_app r (pre ++ [v]) z (by simpa using h)]
    simp
theorem fillC_row {s : Nat} : ∀ (es : List (List Value)) (k : Nat) (pre z : List Value), (∀ c ∈ es, c.length = s) → pre.length = k * s → z.length = es.length * s →
    fillC (fun i => some (i * s, s)) (pre ++ z) (enumC k es) = some (pre ++ es.flatten)
  | [], k, pre, z, _, _, hz => by
    have : z = [] := List.eq_nil_of_length_eq_zero (by simpa using hz)
    simp [fillC, enumC, this]
  | c :: r, k, pre, z, hc, hp, hz => by
    have hcl := hc c (.head _)
    have hz' : z.length = r.length * s + s := by rw [hz, List.length_cons, Nat.add_mul, Nat.one_mul]
    simp only [fillC, enumC]
    rw [if_pos ⟨hcl, by rw [List.length_append]; omega⟩, ← hp, splice_app c pre z (by omega), fillC_row r (k + 1) (pre ++ c) (z.drop c.length) (fun x hx => hc x (.tail _ hx))
      (by rw [List.length_append, Nat.add_mul]; omega) (by rw [List.length_drop]; omega)]
    simp
section
variable {P : Program} {W : World} {n : Nat} {e : Tm} {σ : List Chunk} {dst : Option Tmp} {ty : TypeId} {pos : String} {aft : Array Edge} {g : Option (Nat × Bool)}
theorem SLo.buildSliceE {K : Value → List Chunk → Prop} {t el len : Nat} {parts : Array (Nat × Operand)} {ps : List (Nat × Value)} {cps : List (Nat × List Value)} (es : List (List Value)) {d : TypeDesc} {s b s' b' : Nat} {z z' : List Value} [h : Ty P t (.slice el) s b z] [h' : Ty P el d s' b' z']
    (hpos : 0 < len * s') (hsm : len * s' ≤ 2 ^ 24) (hp : Tm.evp e parts.toList = some ps) (hc : CellsW W σ ps cps) (hes : ∀ c ∈ es, c.length = s') (hlen : es.length = len)
    (hf : cps = enumC 0 es) (k : ∀ v, v ≠ .slice none 0 0 → K v (.row v el s' es :: σ)) :
    SLo P W n ⟨dst, .buildSlice t len parts, ty, pos, aft, g⟩ e σ K := by
  refine SLo.buildSliceC (es := es) hpos hsm hp hc hes hlen ?_ k
  subst hf
  have := fillC_row es 0 [] (zerosL z' (len * s')) hes (by simp) (by simp [zerosL, hlen])
  simpa using this
end
/-- A region that draws, walked in its own order. -/
def itemsFl (ops : Array Oper) : List Oper → List Flag → List Item
  | o :: l, f :: fl => ⟨o, o.guard.bind fun g => ((ops[g.1]?).bind (·.dst)).map fun t => (t, g.2), f⟩ :: itemsFl ops l fl
  | _, _ => []
def numFrom : Nat → List Flag → List (Nat × Flag)
  | _, [] => []
  | k, f :: fl => (k, f) :: numFrom (k + 1) fl
theorem itemsBy_num (ops : Array Oper) : ∀ (fl : List Flag) (k : Nat), itemsBy ops (numFrom k fl) = itemsFl ops (ops.toList.drop k) fl
  | [], k => by
    cases ops.toList.drop k <;> rfl
  | f :: fl, k => by
    simp only [numFrom, itemsBy]
    cases h : ops.toList.drop k with
    | nil =>
      have hk : ops.toList.length ≤ k := by simpa using h
      have h0 : ops[k]? = none := by rw [← Array.getElem?_toList]; exact List.getElem?_eq_none hk
      have h1 : ops.toList.drop (k + 1) = [] := by rw [List.drop_eq_nil_iff]; omega
      rw [h0]
      show itemsBy ops (numFrom (k + 1) fl) = _
      rw [itemsBy_num ops fl (k + 1), h1]
      rfl
    | cons o l =>
      have hk : k < ops.toList.length := by
        rcases Nat.lt_or_ge k ops.toList.length with h2 | h2
        · exact h2
        · rw [List.drop_eq_nil_of_le h2] at h; simp at h
      rw [List.drop_eq_getElem_cons hk] at h
      injection h with h3 h4
      have h0 : ops[k]? = some o := by rw [← Array.getElem?_toList, List.getElem?_eq_getElem hk, h3]
      rw [h0]
      show _ :: itemsBy ops (numFrom (k + 1) fl) = _
      rw [itemsBy_num ops fl (k + 1), h4]
      rfl
section
variable {P : Program} {W : World} {n : Nat} {e : Tm} {ds : List Deferred} {σ : List Chunk} {Q : Post}
theorem SLc.drawsI {id : Nat} {ops : Array Oper} (Fr : List Chunk) (fl : List Flag) (hm : P.follows .mixedOrders = true) (hp : planOk ops (numFrom 0 fl) = true) (hF : Ent σ Fr)
    (h : SLl P W n Fr (fun e ds σ => Q .normal e ds σ) (itemsFl ops ops.toList fl) e ds σ) : SLc P W n (.region id ops true) e ds σ Q :=
  SLc.draws Fr (numFrom 0 fl) hm hp hF (by rw [itemsBy_num]; exact h)
end
theorem Reads.mono {W : World} {σ σ' : List Chunk} {ad : Addr} {v : Value} (h : Reads W σ' ad v) (he : Ent σ σ') : Reads W σ ad v := fun w hs => h w (hs.ent he)
theorem ReadsN.mono {W : World} {σ σ' : List Chunk} {ad : Addr} {vs : List Value} (h : ReadsN W σ' ad vs) (he : Ent σ σ') : ReadsN W σ ad vs := fun w hs => h w (hs.ent he)
section
variable {P : Program} {W : World} {n : Nat} {e : Tm} {ds : List Deferred} {σ : List Chunk} {Q : Post}
theorem SLc.abst {c : Code} (h : ∀ σ', Ent σ' σ → SLc P W n c e ds σ' Q) : SLc P W n c e ds σ Q := h σ .refl
/-- The rest is hidden behind a name. -/
theorem SLc.abstQ {c : Code} (h : ∀ Q' : Post, (∀ x e ds σ, Q x e ds σ → Q' x e ds σ) → SLc P W n c e ds σ Q') : SLc P W n c e ds σ Q := h Q fun _ _ _ _ h => h
theorem SLl.abst {Fr : List Chunk} {K : Tm → List Deferred → List Chunk → Prop} {l : List Item} (h : ∀ σ', Ent σ' σ → SLl P W n Fr K l e ds σ') : SLl P W n Fr K l e ds σ := h σ .refl
end
/-- The loops' bodies of a code, in order; the k-th of a function. -/
def loopsOf : Code → List Code
  | .seq a b => loopsOf a ++ loopsOf b
  | .cond _ a b => loopsOf a ++ loopsOf b
  | .block _ b => loopsOf b
  | .loop b => b :: loopsOf b
  | _ => []
def Func.loopK (f : Func) (k : Nat) : Code := ((loopsOf (f.body.getD .skip))[k]?).getD .skip
end Go.Sl
