/- backstitchlaw16.LockWorks: how the workers run. -/
import Derived.Test.YtloeicnadchkpaaLaw16w
namespace Go.Sl
open Go.Proofs
attribute [local irreducible] SLc SLl SLo SLf Pu Rd

structure WS where
  left : Nat
  at_ : Nat
  waits : Bool
  done : Bool
def WS.e (w : WS) : Nat := if w.done then 1 else 0
def WS.work (t : Nat) (w : WS) : Nat := 3 * (t - w.left) + w.at_ + w.e
structure WOk (t : Nat) (w : WS) : Prop where
  le : w.left ≤ t
  at_ : w.at_ ≤ 2
  pos : w.at_ ≠ 0 → 0 < w.left
  done : w.done = true → w.left = 0 ∧ w.at_ = 0
  waits : w.waits = true → w.at_ = 1 ∧ w.done = false
structure KA where
  qv : Value
  L : Lck
  inn : Nat
  ends : Nat
  ws : List WS
  made : Nat
def wkV (b : Nat) : Value := .func (.func 76) #[ptr b] #[]
def mkK (b : Nat) (w : WS) : Task := ⟨wkV b, w.waits, w.done, false⟩
def kM (P B : List Nat) (a : KA) : Sch := ⟨P, List.zipWith mkK B a.ws, a.made, -1, true⟩
def HeldBy (a : KA) (h : Nat) (w : WS) : Prop := a.L.taken = true ∧ a.L.owner = (h : Int) ∧ a.ws[h]? = some w ∧ w.at_ ≠ 0 ∧ w.waits = false ∧ w.done = false ∧ a.inn = (if w.at_ = 2 then 1 else 0) ∧ ∀ (i : Nat) w', a.ws[i]? = some w' → i ≠ h → w'.at_ = 0 ∨ w'.waits = true
def FreeLk (a : KA) : Prop := a.L.taken = false ∧ a.L.queue = [] ∧ a.inn = 0 ∧ ∀ (i : Nat) w, a.ws[i]? = some w → w.at_ = 0
structure KI (P B : List Nat) (t : Nat) (m : Sch) (a : KA) : Prop where
  m : m = kM P B a
  len : a.ws.length = B.length
  few : B.length ≤ 12
  picks : ∀ n ∈ P, n < 256
  t5 : t ≤ 5
  wok : ∀ (i : Nat) w, a.ws[i]? = some w → WOk t w
  wait : ∀ (i : Nat) w, a.ws[i]? = some w → (w.waits = true ↔ (i : Int) ∈ a.L.queue)
  mem : ∀ x ∈ a.L.queue, ∃ (i : Nat) (w : WS), x = (i : Int) ∧ a.ws[i]? = some w
  nd : a.L.queue.Nodup
  hold : FreeLk a ∨ ∃ h w, HeldBy a h w
  ends : a.ends = (a.ws.map WS.e).sum
  made : a.made = (a.ws.map (WS.work t)).sum
  ql : a.L.queue.length ≤ a.made
  qn : a.qv = .slice none 0 0 → a.L.queue = []
def wakeW (ws : List WS) : List Int → List WS
  | [] => ws
  | x :: _ => match ws[x.toNat]? with
    | some w => ws.set x.toNat { w with waits := false }
    | none => ws
def kS (m : Sch) (a : KA) (i : Nat) (said : Int) (m' : Sch) (a' : KA) : Prop :=
  ∃ w, a.ws[i]? = some w ∧ w.waits = false ∧ w.done = false ∧
  ((w.at_ = 0 ∧ w.left = 0 ∧ said = 3 ∧ m' = setNow m i ∧ a' = { a with ends := a.ends + 1, ws := a.ws.set i { w with done := true }, made := a.made + 1 }) ∨
   (w.at_ = 0 ∧ 0 < w.left ∧ said = (if (takeM a.L i).1 then 1 else 2) ∧ m' = setNow m i ∧ ∃ q', (q' = .slice none 0 0 → (takeM a.L i).2.queue = []) ∧ a' = { a with qv := q', L := (takeM a.L i).2, ws := a.ws.set i { w with at_ := 1, waits := !(takeM a.L i).1 }, made := a.made + 1 }) ∨
   (w.at_ = 1 ∧ said = 1 ∧ m' = setNow m i ∧ a' = { a with inn := 1, ws := a.ws.set i { w with at_ := 2 }, made := a.made + 1 }) ∨
   (w.at_ = 2 ∧ said = 1 ∧ m' = (leaveM a.L (setNow m i) i).2.2 ∧ ∃ q', (q' = .slice none 0 0 → (leaveM a.L (setNow m i) i).2.1.queue = []) ∧ a' = { a with qv := q', L := (leaveM a.L (setNow m i) i).2.1, inn := 0, ws := wakeW (a.ws.set i { w with left := w.left - 1, at_ := 0 }) a.L.queue, made := a.made + 1 }))
theorem set_get {α : Type} {l : List α} {i j : Nat} {x v : α} (h : (l.set i x)[j]? = some v) : (i = j ∧ v = x) ∨ (i ≠ j ∧ l[j]? = some v) := by
  rw [List.getElem?_set] at h
  split at h
  · rename_i hij
    split at h
    · simp only [Option.some.injEq] at h; exact .inl ⟨hij, h.symm⟩
    · cases h
  · rename_i hij; exact .inr ⟨hij, h⟩
theorem set_has {α : Type} {l : List α} {i j : Nat} {x v : α} (h : l[j]? = some v) : ∃ v', (l.set i x)[j]? = some v' := by
  have hj := (List.getElem?_eq_some_iff.1 h).1
  exact ⟨_, List.getElem?_eq_getElem (by rw [List.length_set]; exact hj)⟩
section
variable {P B : List Nat} {t : Nat} {m : Sch} {a : KA}
theorem k_len (h : KI P B t m a) : m.tasks.length = B.length := by
  rw [h.m]
  have := h.len
  simp only [kM, List.length_zipWith]
  omega
theorem k_sum {f : WS → Nat} {ws : List WS} {i : Nat} {w w' : WS} (h : ws[i]? = some w) : ((ws.set i w').map f).sum + f w = (ws.map f).sum + f w' := by
  have h1 : (ws.map f)[i]? = some (f w) := by rw [List.getElem?_map, h]; rfl
  rw [List.map_set]
  exact sum_upd h1
theorem k_work {t : Nat} {w : WS} (h : WOk t w) : w.work t ≤ 3 * t + 1 := by
  unfold WS.work WS.e
  have h1 := h.le
  have h2 := h.at_
  cases hd : w.done with
  | true =>
    have := h.done hd
    simp only [if_true]
    omega
  | false =>
    simp only [Bool.false_eq_true, if_false]
    by_cases h0 : w.at_ = 0
    · omega
    · have := h.pos h0
      omega
theorem map_sum_le {f : WS → Nat} {b : Nat} : ∀ {ws : List WS}, (∀ w ∈ ws, f w ≤ b) → (ws.map f).sum ≤ ws.length * b
  | [], _ => by simp
  | w :: r, h => by
    have h1 := h w (.head _)
    have h2 := map_sum_le (ws := r) fun w hw => h w (.tail _ hw)
    rw [List.map_cons, List.sum_cons, List.length_cons, Nat.add_mul]
    omega
theorem k_made (h : KI P B t m a) : a.made ≤ 192 := by
  have h1 := map_sum_le (f := WS.work t) (b := 3 * t + 1) (ws := a.ws) fun w hw => by
    obtain ⟨i, hi⟩ := List.mem_iff_getElem?.1 hw
    exact k_work (h.wok i w hi)
  have h2 := h.made
  have h3 := h.len
  have h4 := h.few
  have h5 := h.t5
  have h6 : a.ws.length * (3 * t + 1) ≤ 12 * 16 := Nat.mul_le_mul (by omega) (by omega)
  omega
theorem k_holder (h : KI P B t m a) {i : Nat} {w : WS} (hw : a.ws[i]? = some w) (h0 : w.at_ ≠ 0) (hwt : w.waits = false) : HeldBy a i w := by
  rcases h.hold with hf | ⟨j, v, hh⟩
  · exact absurd (hf.2.2.2 i w hw) h0
  · by_cases hij : i = j
    · subst hij
      rw [hh.2.2.1] at hw
      cases hw
      exact hh
    · rcases hh.2.2.2.2.2.2.2 i w hw hij with h1 | h1
      · exact absurd h1 h0
      · rw [hwt] at h1; cases h1
theorem k_task {ws : List WS} {made : Nat} {i b : Nat} {w : WS} (hb : B[i]? = some b) (hw : ws[i]? = some w) : (setNow (⟨P, List.zipWith mkK B ws, made, -1, true⟩ : Sch) i).tasks[i]? = some (mkK b w) := zip_at hb hw
/-- The step's end where the scheduler was left alone. -/
theorem k_after {ws : List WS} {made : Nat} {i b : Nat} {w w' : WS} {said : Int} (hb : B[i]? = some b) (hw : ws[i]? = some w) (hs : saidT said (mkK b w) = mkK b w') :
    afterStep (setNow ⟨P, List.zipWith mkK B ws, made, -1, true⟩ i) i said = ⟨P, List.zipWith mkK B (ws.set i w'), made + 1, -1, true⟩ := by
  unfold afterStep
  rw [k_task hb hw]
  dsimp only
  rw [hs]
  simp only [setNow]
  rw [zip_set hb]
theorem k_ok (h : KI P B t m a) : SchOk m ∧ ∀ n ∈ m.picks, n < 256 := by
  refine ⟨⟨fun u hu => ?_, by rw [k_len h]; have := h.few; omega⟩, by rw [h.m]; exact h.picks⟩
  rw [h.m] at hu
  obtain ⟨j, hj⟩ := List.mem_iff_getElem?.1 hu
  obtain ⟨b, x, _, _, rfl⟩ := zip_get hj
  rfl
theorem k_keep {i : Nat} {said : Int} {m' : Sch} {a' : KA} (h : KI P B t m a) (hS : kS m a i said m' a') : i < m'.tasks.length ∧ m'.made ≤ 1152921504606846976 ∧ KI P B t (afterStep m' i said) a' := by
  obtain ⟨w, hw, hwt, hwd, hS⟩ := hS
  have hlen := h.len
  have hil := (List.getElem?_eq_some_iff.1 hw).1
  have hml := k_len h
  have hmade := k_made h
  have hmm : m.made = a.made := by rw [h.m]; rfl
  have hb : B[i]? = some (B[i]'(by omega)) := List.getElem?_eq_getElem (by omega)
  generalize B[i]'(by omega) = b at hb
  have hok := h.wok i w hw
  have hni : (i : Int) ∉ a.L.queue := fun hc => by rw [(h.wait i w hw).2 hc] at hwt; cases hwt
  have hms : ∀ {w' : WS}, w'.work t = w.work t + 1 → a.made + 1 = ((a.ws.set i w').map (WS.work t)).sum := fun {w'} e => by
    have := k_sum (f := WS.work t) (w' := w') hw
    have := h.made
    omega
  have hmem : ∀ (w' : WS) x, x ∈ a.L.queue → ∃ (j : Nat) (v : WS), x = (j : Int) ∧ (a.ws.set i w')[j]? = some v := fun w' x hx => by
    obtain ⟨j, v, rfl, hv⟩ := h.mem x hx
    obtain ⟨v', hv'⟩ := set_has (i := i) (x := w') hv
    exact ⟨j, v', rfl, hv'⟩
  rcases hS with ⟨h0, hl0, rfl, rfl, rfl⟩ | ⟨h0, hl0, rfl, rfl, q', hq', rfl⟩ | ⟨h1, rfl, rfl, rfl⟩ | ⟨h2, rfl, rfl, q', hq', rfl⟩
  · -- it ends
    refine ⟨by simp only [setNow]; omega, by simp only [setNow]; omega, ?_, by simpa using h.len, h.few, h.picks, h.t5, ?_, ?_, hmem _, h.nd, ?_, ?_, ?_, by have := h.ql; dsimp only; omega, h.qn⟩
    · rw [h.m]
      exact k_after hb hw (by rw [saidT3]; rfl)
    · intro j v hv
      rcases set_get hv with ⟨rfl, rfl⟩ | ⟨_, hv⟩
      · exact ⟨hok.le, hok.at_, hok.pos, fun _ => ⟨hl0, h0⟩, fun hc => by simp [hwt] at hc⟩
      · exact h.wok j v hv
    · intro j v hv
      rcases set_get hv with ⟨rfl, rfl⟩ | ⟨_, hv⟩
      · exact h.wait i w hw
      · exact h.wait j v hv
    · rcases h.hold with ⟨f1, f2, f3, f4⟩ | ⟨g, u, g1, g2, g3, g4, g5, g6, g7, g8⟩
      · refine .inl ⟨f1, f2, f3, fun j v hv => ?_⟩
        rcases set_get hv with ⟨rfl, rfl⟩ | ⟨_, hv⟩
        · exact h0
        · exact f4 j v hv
      · have hgi : i ≠ g := fun e => by subst e; rw [hw] at g3; cases g3; exact g4 h0
        refine .inr ⟨g, u, g1, g2, ?_, g4, g5, g6, g7, fun j v hv hj => ?_⟩
        · dsimp only; rw [List.getElem?_set, if_neg hgi]; exact g3
        · rcases set_get hv with ⟨rfl, rfl⟩ | ⟨_, hv⟩
          · exact .inl h0
          · exact g8 j v hv hj
    · have := k_sum (f := WS.e) (w' := { w with done := true }) hw
      have h1 := h.ends
      have e1 : w.e = 0 := by simp [WS.e, hwd]
      have e2 : WS.e { w with done := true } = 1 := rfl
      rw [e1, e2] at this
      dsimp only
      omega
    · exact hms (by simp [WS.work, WS.e, hwd])
  · -- it asks
    rcases h.hold with ⟨f1, f2, f3, f4⟩ | ⟨g, u, g1, g2, g3, g4, g5, g6, g7, g8⟩
    · have ht : takeM a.L i = (true, ⟨true, i, []⟩) := by simp [takeM, f1, f2]
      rw [ht] at hq' ⊢
      dsimp only at hq' ⊢
      rw [if_pos rfl]
      refine ⟨by simp only [setNow]; omega, by simp only [setNow]; omega, ?_, by simpa using h.len, h.few, h.picks, h.t5, ?_, ?_, (fun x hx => (by cases hx)), List.nodup_nil, ?_, ?_, ?_, Nat.zero_le _, hq'⟩
      · rw [h.m]
        exact k_after hb hw (by rw [saidTe (by decide) (by decide)]; simp [mkK, hwt])
      · intro j v hv
        rcases set_get hv with ⟨rfl, rfl⟩ | ⟨_, hv⟩
        · exact ⟨hok.le, Nat.le_of_ble_eq_true rfl, fun _ => hl0, fun hc => by simp [hwd] at hc, fun hc => by simp at hc⟩
        · exact h.wok j v hv
      · intro j v hv
        rcases set_get hv with ⟨rfl, rfl⟩ | ⟨_, hv⟩
        · simp
        · have := h.wait j v hv
          rw [f2] at this
          exact this
      · refine .inr ⟨i, { w with at_ := 1, waits := false }, rfl, rfl, List.getElem?_set_self hil, by simp, rfl, hwd, by dsimp only; rw [f3]; rfl, fun j v hv hj => ?_⟩
        rcases set_get hv with ⟨rfl, rfl⟩ | ⟨_, hv⟩
        · exact absurd rfl hj
        · exact .inl (f4 j v hv)
      · have := k_sum (f := WS.e) (w' := { w with at_ := 1, waits := !true }) hw
        have h1 := h.ends
        have e : WS.e { w with at_ := 1, waits := !true } = WS.e w := rfl
        rw [e] at this
        dsimp only
        omega
      · exact hms (by simp [WS.work, WS.e, hwd, h0])
    · have hgi : i ≠ g := fun e => by subst e; rw [hw] at g3; cases g3; exact g4 h0
      have hoi : a.L.owner ≠ (i : Int) := by rw [g2]; omega
      have ht : takeM a.L i = (false, ⟨true, a.L.owner, a.L.queue ++ [(i : Int)]⟩) := by simp [takeM, g1, hoi, hni]
      rw [ht] at hq' ⊢
      dsimp only at hq' ⊢
      rw [if_neg (by simp)]
      refine ⟨by simp only [setNow]; omega, by simp only [setNow]; omega, ?_, by simpa using h.len, h.few, h.picks, h.t5, ?_, ?_, ?_, ?_, ?_, ?_, ?_, by have := h.ql; simp; omega, hq'⟩
      · rw [h.m]
        exact k_after hb hw (by simp [mkK, saidT])
      · intro j v hv
        rcases set_get hv with ⟨rfl, rfl⟩ | ⟨_, hv⟩
        · exact ⟨hok.le, Nat.le_of_ble_eq_true rfl, fun _ => hl0, fun hc => by simp [hwd] at hc, fun _ => ⟨rfl, hwd⟩⟩
        · exact h.wok j v hv
      · intro j v hv
        rcases set_get hv with ⟨rfl, rfl⟩ | ⟨hij, hv⟩
        · simp
        · have := h.wait j v hv
          dsimp only
          rw [this, List.mem_append, List.mem_singleton]
          constructor
          · exact .inl
          · rintro (hc | hc)
            · exact hc
            · omega
      · intro x hx
        rcases List.mem_append.1 hx with hx | hx
        · exact hmem _ x hx
        · rw [List.mem_singleton] at hx
          exact ⟨i, _, hx, List.getElem?_set_self hil⟩
      · exact List.nodup_append.2 ⟨h.nd, by simp, fun x hx y hy => by rw [List.mem_singleton] at hy; subst hy; exact fun e => hni (e ▸ hx)⟩
      · refine .inr ⟨g, u, rfl, g2, ?_, g4, g5, g6, g7, fun j v hv hj => ?_⟩
        · dsimp only; rw [List.getElem?_set, if_neg hgi]; exact g3
        · rcases set_get hv with ⟨rfl, rfl⟩ | ⟨_, hv⟩
          · exact .inr rfl
          · exact g8 j v hv hj
      · have := k_sum (f := WS.e) (w' := { w with at_ := 1, waits := !false }) hw
        have h1 := h.ends
        have e : WS.e { w with at_ := 1, waits := !false } = WS.e w := rfl
        rw [e] at this
        dsimp only
        omega
      · exact hms (by simp [WS.work, WS.e, hwd, h0])
  · -- it is within
    obtain ⟨g1, g2, g3, g4, g5, g6, g7, g8⟩ := k_holder h hw (by omega) hwt
    refine ⟨by simp only [setNow]; omega, by simp only [setNow]; omega, ?_, by simpa using h.len, h.few, h.picks, h.t5, ?_, ?_, hmem _, h.nd, ?_, ?_, ?_, by have := h.ql; dsimp only; omega, h.qn⟩
    · rw [h.m]
      exact k_after hb hw (by rw [saidTe (by decide) (by decide)]; rfl)
    · intro j v hv
      rcases set_get hv with ⟨rfl, rfl⟩ | ⟨_, hv⟩
      · exact ⟨hok.le, Nat.le_refl _, fun _ => hok.pos (by omega), fun hc => by simp [hwd] at hc, fun hc => by simp [hwt] at hc⟩
      · exact h.wok j v hv
    · intro j v hv
      rcases set_get hv with ⟨rfl, rfl⟩ | ⟨_, hv⟩
      · exact h.wait i w hw
      · exact h.wait j v hv
    · refine .inr ⟨i, { w with at_ := 2 }, g1, g2, List.getElem?_set_self hil, by simp, hwt, hwd, rfl, fun j v hv hj => ?_⟩
      rcases set_get hv with ⟨rfl, rfl⟩ | ⟨_, hv⟩
      · exact absurd rfl hj
      · exact g8 j v hv hj
    · have := k_sum (f := WS.e) (w' := { w with at_ := 2 }) hw
      have h1 := h.ends
      have e : WS.e { w with at_ := 2 } = WS.e w := rfl
      rw [e] at this
      dsimp only
      omega
    · exact hms (by simp [WS.work, WS.e, h1]; omega)
  · -- it leaves
    obtain ⟨g1, g2, g3, g4, g5, g6, g7, g8⟩ := k_holder h hw (by omega) hwt
    have hpos := hok.pos (by omega)
    have hle := hok.le
    have hwork : WS.work t { w with left := w.left - 1, at_ := 0 } = w.work t + 1 := by
      simp only [WS.work, WS.e, h2]
      omega
    have hends : ((a.ws.set i { w with left := w.left - 1, at_ := 0 }).map WS.e).sum = (a.ws.map WS.e).sum := by
      have := k_sum (f := WS.e) (w' := { w with left := w.left - 1, at_ := 0 }) hw
      have e : WS.e { w with left := w.left - 1, at_ := 0 } = WS.e w := rfl
      rw [e] at this
      omega
    have hwok' : WOk t { w with left := w.left - 1, at_ := 0 } := ⟨by dsimp only; omega, Nat.le_of_ble_eq_true rfl, fun hc => absurd rfl hc, fun hc => by simp [hwd] at hc, fun hc => by simp [hwt] at hc⟩
    cases hq : a.L.queue with
    | nil =>
      have hl : leaveM a.L (setNow m i) i = (true, ⟨false, a.L.owner, []⟩, setNow m i) := by simp [leaveM, g1, g2, hq]
      rw [hl] at hq' ⊢
      dsimp only [wakeW] at hq' ⊢
      refine ⟨by simp only [setNow]; omega, by simp only [setNow]; omega, ?_, by simpa using h.len, h.few, h.picks, h.t5, ?_, ?_, (fun x hx => (by cases hx)), List.nodup_nil, ?_, ?_, ?_, Nat.zero_le _, hq'⟩
      · rw [h.m]
        exact k_after hb hw (by rw [saidTe (by decide) (by decide)]; rfl)
      · intro j v hv
        rcases set_get hv with ⟨rfl, rfl⟩ | ⟨_, hv⟩
        · exact hwok'
        · exact h.wok j v hv
      · intro j v hv
        rcases set_get hv with ⟨rfl, rfl⟩ | ⟨_, hv⟩
        · simp [hwt]
        · have := h.wait j v hv
          rw [hq] at this
          exact this
      · refine .inl ⟨rfl, rfl, rfl, fun j v hv => ?_⟩
        rcases set_get hv with ⟨rfl, rfl⟩ | ⟨hij, hv⟩
        · rfl
        · rcases g8 j v hv (Ne.symm hij) with h3 | h3
          · exact h3
          · have := (h.wait j v hv).1 h3
            rw [hq] at this
            cases this
      · dsimp only; rw [hends]; exact h.ends
      · exact hms hwork
    | cons x r =>
      obtain ⟨j, v, rfl, hv⟩ := h.mem x (by rw [hq]; exact .head _)
      have hvw : v.waits = true := (h.wait j v hv).2 (by rw [hq]; exact .head _)
      have hvok := h.wok j v hv
      obtain ⟨hv1, hvd⟩ := hvok.waits hvw
      have hij : i ≠ j := fun e => by subst e; rw [hw] at hv; cases hv; rw [hwt] at hvw; cases hvw
      have hnd := h.nd
      rw [hq, List.nodup_cons] at hnd
      have hjl := (List.getElem?_eq_some_iff.1 hv).1
      have hbj : B[j]? = some (B[j]'(by omega)) := List.getElem?_eq_getElem (by omega)
      generalize B[j]'(by omega) = bj at hbj
      have hl : leaveM a.L (setNow m i) i = (true, ⟨true, (j : Int), r⟩, (wakeM (setNow m i) (j : Int)).2) := by simp [leaveM, g1, g2, hq]
      have htj : (setNow m i).tasks[j]? = some (mkK bj v) := by rw [h.m]; exact zip_at hbj hv
      have hwk : (wakeM (setNow m i) (j : Int)).2 = { setNow m i with tasks := (setNow m i).tasks.set j (mkK bj { v with waits := false }) } := by
        have hth : thereM (setNow m i) (j : Int) = true := by simp [thereM]; simp only [setNow]; omega
        have hd : (mkK bj v).done = false := hvd
        have hwo : wokenT (mkK bj v) = mkK bj { v with waits := false } := by simp [wokenT, mkK, hvw]
        simp only [wakeM, hth, if_true, Int.toNat_natCast, htj, hd, Bool.false_eq_true, if_false, hwo]
      have hset1 : (a.ws.set i { w with left := w.left - 1, at_ := 0 })[j]? = some v := by rw [List.getElem?_set, if_neg hij]; exact hv
      have hww : wakeW (a.ws.set i { w with left := w.left - 1, at_ := 0 }) ((j : Int) :: r) = (a.ws.set i { w with left := w.left - 1, at_ := 0 }).set j { v with waits := false } := by
        simp only [wakeW, Int.toNat_natCast, hset1]
      rw [hl] at hq' ⊢
      dsimp only at hq' ⊢
      rw [hww, hwk]
      have hget : ∀ (k : Nat) (y : WS), ((a.ws.set i { w with left := w.left - 1, at_ := 0 }).set j { v with waits := false })[k]? = some y →
          (k = j ∧ y = { v with waits := false }) ∨ (k ≠ j ∧ k = i ∧ y = { w with left := w.left - 1, at_ := 0 }) ∨ (k ≠ j ∧ k ≠ i ∧ a.ws[k]? = some y) := fun k y hy => by
        rcases set_get hy with ⟨rfl, rfl⟩ | ⟨hk, hy⟩
        · exact .inl ⟨rfl, rfl⟩
        · rcases set_get hy with ⟨rfl, rfl⟩ | ⟨hk2, hy⟩
          · exact .inr (.inl ⟨Ne.symm hk, rfl, rfl⟩)
          · exact .inr (.inr ⟨Ne.symm hk, Ne.symm hk2, hy⟩)
      refine ⟨by simp only [setNow, List.length_set]; omega, by simp only [setNow]; omega, ?_, by simpa using h.len, h.few, h.picks, h.t5, ?_, ?_, ?_, hnd.2, ?_, ?_, ?_, by have := h.ql; rw [hq] at this; simp at this; dsimp only; omega, hq'⟩
      · have hti : (({ setNow m i with tasks := (setNow m i).tasks.set j (mkK bj { v with waits := false }) } : Sch)).tasks[i]? = some (mkK b w) := by
          dsimp only
          rw [List.getElem?_set, if_neg (Ne.symm hij), h.m]
          exact zip_at hb hw
        unfold afterStep
        rw [hti]
        dsimp only
        rw [saidTe (by decide) (by decide), set_same hti]
        rw [h.m]
        simp only [setNow, kM]
        have e1 : List.zipWith mkK B (a.ws.set i { w with left := w.left - 1, at_ := 0 }) = List.zipWith mkK B a.ws := by
          rw [← zip_set (f := mkK) (b := { w with left := w.left - 1, at_ := 0 }) hb]
          have hz : (List.zipWith mkK B a.ws)[i]? = some (mkK b w) := zip_at hb hw
          exact set_same hz
        rw [← zip_set (f := mkK) (l := B) (r := a.ws.set i { w with left := w.left - 1, at_ := 0 }) hbj, e1]
      · intro k y hy
        rcases hget k y hy with ⟨rfl, rfl⟩ | ⟨_, rfl, rfl⟩ | ⟨_, _, hy⟩
        · exact ⟨hvok.le, hvok.at_, hvok.pos, hvok.done, fun hc => by simp at hc⟩
        · exact hwok'
        · exact h.wok k y hy
      · intro k y hy
        rcases hget k y hy with ⟨rfl, rfl⟩ | ⟨_, rfl, rfl⟩ | ⟨hkj, _, hy⟩
        · simp [hnd.1]
        · rw [hq] at hni
          have : (k : Int) ∉ r := fun hc => hni (.tail _ hc)
          simp [hwt, this]
        · have := h.wait k y hy
          rw [hq] at this
          rw [this, List.mem_cons]
          constructor
          · rintro (hc | hc)
            · omega
            · exact hc
          · exact .inr
      · intro x hx
        obtain ⟨k, y, rfl, hy⟩ := hmem { w with left := w.left - 1, at_ := 0 } x (by rw [hq]; exact .tail _ hx)
        obtain ⟨y', hy'⟩ := set_has (i := j) (x := { v with waits := false }) hy
        exact ⟨k, y', rfl, hy'⟩
      · refine .inr ⟨j, { v with waits := false }, rfl, rfl, List.getElem?_set_self (by rw [List.length_set]; exact hjl), by dsimp only; omega, rfl, hvd, by dsimp only; rw [hv1]; rfl, fun k y hy hk => ?_⟩
        rcases hget k y hy with ⟨rfl, rfl⟩ | ⟨_, rfl, rfl⟩ | ⟨_, hki, hy⟩
        · exact absurd rfl hk
        · exact .inl rfl
        · exact g8 k y hy hki
      · have := k_sum (f := WS.e) (w' := { v with waits := false }) hset1
        have e : WS.e { v with waits := false } = WS.e v := rfl
        rw [e] at this
        have h1 := h.ends
        dsimp only
        omega
      · have := k_sum (f := WS.work t) (w' := { v with waits := false }) hset1
        have e : WS.work t { v with waits := false } = WS.work t v := rfl
        rw [e] at this
        have h1 := hms hwork
        dsimp only
        omega
theorem k_client : Client (KI P B t) kS := ⟨fun _ _ h => k_ok h, fun _ _ _ _ _ _ h _ hS => k_keep h hS⟩
theorem k_runs {m0 : Sch} {a0 : KA} {n : Nat} (h : RunTo kS m0 a0 n m a) : a.made = a0.made + n := by
  induction h with
  | zero => rfl
  | step _ _ hs ih =>
    obtain ⟨w, _, _, _, hs⟩ := hs
    rcases hs with ⟨_, _, _, _, rfl⟩ | ⟨_, _, _, _, q', _, rfl⟩ | ⟨_, _, _, rfl⟩ | ⟨_, _, _, q', _, rfl⟩
    all_goals
      dsimp only
      omega
theorem k_ends (h : KI P B t m a) (hc : canN m = []) : a.ends = B.length ∧ a.made = B.length * (3 * t + 1) ∧ a.inn = 0 ∧ ownerM a.L = -1 ∧ a.L.queue = [] ∧ errM m = 0 := by
  have hno : ∀ (i : Nat) w, a.ws[i]? = some w → w.waits = true ∨ w.done = true := by
    intro i w hw
    have hil := (List.getElem?_eq_some_iff.1 hw).1
    have hlen := h.len
    have hb : B[i]? = some (B[i]'(by omega)) := List.getElem?_eq_getElem (by omega)
    have ht : m.tasks[i]? = some (mkK (B[i]'(by omega)) w) := by rw [h.m]; exact zip_at hb hw
    cases h1 : w.waits with
    | true => exact .inl rfl
    | false =>
      cases h2 : w.done with
      | true => exact .inr rfl
      | false => exact absurd hc (can_has ht (by simp [runsT, mkK, h1, h2]))
  have hfree : FreeLk a := by
    rcases h.hold with hf | ⟨g, u, g1, g2, g3, g4, g5, g6, _⟩
    · exact hf
    · rcases hno g u g3 with h1 | h1
      · rw [g5] at h1; cases h1
      · rw [g6] at h1; cases h1
  obtain ⟨f1, f2, f3, f4⟩ := hfree
  have hd : ∀ w ∈ a.ws, w.e = 1 ∧ w.work t = 3 * t + 1 := by
    intro w hw
    obtain ⟨i, hi⟩ := List.mem_iff_getElem?.1 hw
    have hdone : w.done = true := by
      rcases hno i w hi with h1 | h1
      · have := (h.wait i w hi).1 h1
        rw [f2] at this
        cases this
      · exact h1
    obtain ⟨d1, d2⟩ := (h.wok i w hi).done hdone
    have he : w.e = 1 := by simp [WS.e, hdone]
    exact ⟨he, by simp only [WS.work, he, d1, d2]; omega⟩
  have hsum : ∀ (f : WS → Nat) (c : Nat) (ws : List WS), (∀ w ∈ ws, f w = c) → (ws.map f).sum = ws.length * c := by
    intro f c ws
    induction ws with
    | nil => intro _; simp
    | cons w r ih =>
      intro hw
      rw [List.map_cons, List.sum_cons, List.length_cons, ih fun w h => hw w (.tail _ h), hw w (.head _), Nat.add_mul]
      omega
  have hlen := h.len
  have ho : openN m = 0 := open_none fun u hu => by
    rw [h.m] at hu
    obtain ⟨j, hj⟩ := List.mem_iff_getElem?.1 hu
    obtain ⟨b, w, _, hw, rfl⟩ := zip_get hj
    have := (hd w (List.mem_of_getElem? hw)).1
    unfold WS.e at this
    split at this
    · assumption
    · cases this
  refine ⟨?_, ?_, f3, by simp [ownerM, f1], f2, by simp [errM, hc, ho]⟩
  · rw [h.ends, hsum WS.e 1 a.ws fun w hw => (hd w hw).1]; omega
  · rw [h.made, hsum (WS.work t) (3 * t + 1) a.ws fun w hw => (hd w hw).2, hlen]
end
end Go.Sl
