/- Rules for memory: reads, stores, new blocks, slices. -/
import Derived.Test.YtloeicnadchkpaaSL3
namespace Go.Sl
open Go.RowKit

/-! ### Lists of elements of one size -/
theorem flatten_get {α : Type} {size : Nat} : ∀ {es : List (List α)} (_ : ∀ c ∈ es, c.length = size) (i k : Nat), k < size → es.flatten[i * size + k]? = (es[i]?).bind (·[k]?)
  | [], _, i, k, _ => by simp
  | c :: es, h, 0, k, hk => by
    have hc : c.length = size := h c (.head _)
    simp only [List.flatten_cons, Nat.zero_mul, Nat.zero_add, List.getElem?_cons_zero, Option.bind_some]
    rw [List.getElem?_append_left (by omega)]
  | c :: es, h, i + 1, k, hk => by
    have hc : c.length = size := h c (.head _)
    have := flatten_get (es := es) (fun x hx => h x (.tail _ hx)) i k hk
    simp only [List.flatten_cons, List.getElem?_cons_succ]
    rw [← this, List.getElem?_append_right (by rw [hc, Nat.succ_mul]; omega)]
    congr 1
    rw [hc, Nat.succ_mul]
    omega
theorem flatten_len {α : Type} {size : Nat} {es : List (List α)} (h : ∀ c ∈ es, c.length = size) : es.flatten.length = es.length * size := by
  induction es with
  | nil => simp
  | cons c es ih =>
    simp only [List.flatten_cons, List.length_append, List.length_cons]
    rw [ih fun x hx => h x (.tail _ hx), h c (.head _), Nat.succ_mul]
    omega
theorem flatten_set {α : Type} {size : Nat} : ∀ {es : List (List α)} (_ : ∀ c ∈ es, c.length = size) (i k : Nat) (cs : List α) (u : α), k < size → es[i]? = some cs →
    (es.set i (cs.set k u)).flatten = es.flatten.set (i * size + k) u
  | [], _, i, k, cs, u, _, hi => by simp at hi
  | c :: es, h, 0, k, cs, u, hk, hi => by
    have hc : c.length = size := h c (.head _)
    simp only [List.getElem?_cons_zero, Option.some.injEq] at hi
    subst hi
    simp only [List.set_cons_zero, List.flatten_cons, Nat.zero_mul, Nat.zero_add]
    rw [List.set_append_left _ _ (by omega)]
  | c :: es, h, i + 1, k, cs, u, hk, hi => by
    have hc : c.length = size := h c (.head _)
    simp only [List.getElem?_cons_succ] at hi
    have := flatten_set (es := es) (fun x hx => h x (.tail _ hx)) i k cs u hk hi
    simp only [List.set_cons_succ, List.flatten_cons]
    rw [this, List.set_append_right _ _ (by rw [hc, Nat.succ_mul]; omega)]
    congr 2
    rw [hc, Nat.succ_mul]
    omega

section
variable {P : Program} {W : World} {n : Nat} {e : Tm} {ds : List Deferred} {σ σ' Fr F : List Chunk} {K : Value → List Chunk → Prop}

/-! ### Reads -/
def Reads (W : World) (σ : List Chunk) (ad : Addr) (v : Value) : Prop := ∀ w, St W σ w → w.cell? ad = some v
def ReadsN (W : World) (σ : List Chunk) (ad : Addr) (vs : List Value) : Prop := ∀ w, St W σ w → ∀ k u, vs[k]? = some u → w.cell? (ad.add k) = some u
theorem add_plain (b o k : Nat) : (⟨b, o, none⟩ : Addr).add k = ⟨b, o + k, none⟩ := by
  unfold Addr.add; split <;> simp_all
theorem sel_sat {c : Chunk} {w : World} (hs : Sel c σ F) (h : St W σ w) : c.sat w := h.own.sat c (hs.perm.mem_iff.2 (.head _))
theorem upd_perm {c d : Chunk} (h : Upd c d σ σ') : ∃ F, σ.Perm (c :: F) ∧ σ'.Perm (d :: F) := h.split
theorem Reads.blk {b ty off : Nat} {cells : List Value} {v : Value} (hs : Sel (.blk b ty cells) σ F) (hc : cells[off]? = some v) : Reads W σ ⟨b, off, none⟩ v := by
  intro w h
  have := sel_sat hs h
  simp only [Chunk.sat] at this
  simp [World.cell?, this, hc]
theorem ReadsN.blk {b ty off : Nat} {cells vs : List Value} (hs : Sel (.blk b ty cells) σ F) (hc : (cells.drop off).take vs.length = vs) : ReadsN W σ ⟨b, off, none⟩ vs := by
  intro w h k u hu
  have := sel_sat hs h
  simp only [Chunk.sat] at this
  rw [add_plain]
  rw [← hc, List.getElem?_take] at hu
  split at hu
  · rw [List.getElem?_drop] at hu
    simp [World.cell?, this, hu]
  · cases hu
/-- A slice that lay there before the call, with its elements' cells. -/
def Ro (W : World) (v : Value) (size : Nat) (es : List (List Value)) : Prop :=
  (∀ c ∈ es, c.length = size) ∧ ((v = .slice none 0 0 ∧ es = []) ∨ ∃ b off cap, v = .slice (some ⟨b, off, none⟩) es.length cap ∧ es.length ≤ cap ∧ cap ≤ maxLen ∧ b < W.heap.size ∧
    ∀ i cs k u, es[i]? = some cs → cs[k]? = some u → W.cell? ⟨b, off + (i * size + k), none⟩ = some u)
theorem rowSat.cell {w : World} {v : Value} {ty size : Nat} {es : List (List Value)} (h : rowSat w v ty size es) {i k : Nat} {cs : List Value} {u : Value} (hi : es[i]? = some cs) (hk : cs[k]? = some u) :
    w.cell? (v.el size i k) = some u := by
  obtain ⟨hl, h⟩ := h
  rcases h with ⟨rfl, rfl⟩ | ⟨g, off, cap, cur, rfl, hg, hc, hm, hsz, ht⟩
  · simp at hi
  · have hcs : cs.length = size := hl cs (List.mem_of_getElem? hi)
    have hks : k < size := by rw [← hcs]; exact (List.getElem?_eq_some_iff.1 hk).1
    have hf := flatten_get hl i k hks
    rw [hi, Option.bind_some, hk, ← ht, List.getElem?_take] at hf
    split at hf
    · rw [List.getElem?_drop] at hf
      simp [Value.el, World.cell?, hg]
      simpa using hf
    · cases hf
theorem Ro.cell {w : World} {v : Value} {size : Nat} {es : List (List Value)} (h : Ro W v size es) (hs : St W σ w) {i k : Nat} {cs : List Value} {u : Value} (hi : es[i]? = some cs) (hk : cs[k]? = some u) :
    w.cell? (v.el size i k) = some u := by
  obtain ⟨hl, h⟩ := h
  rcases h with ⟨rfl, rfl⟩ | ⟨b, off, cap, rfl, _, _, hb, hc⟩
  · simp at hi
  · have := hc i cs k u hi hk
    simp only [Value.el]
    rw [hs.below.cell hb]
    exact this
theorem Reads.row {v : Value} {ty size i k : Nat} {es : List (List Value)} {cs : List Value} {u : Value} (hs : Sel (.row v ty size es) σ F) (hi : es[i]? = some cs) (hk : cs[k]? = some u) : Reads W σ (v.el size i k) u :=
  fun _ h => (sel_sat hs h : rowSat _ _ _ _ _).cell hi hk
theorem Reads.ro {v : Value} {size i k : Nat} {es : List (List Value)} {cs : List Value} {u : Value} (hr : Ro W v size es) (hi : es[i]? = some cs) (hk : cs[k]? = some u) : Reads W σ (v.el size i k) u :=
  fun _ h => hr.cell h hi hk
theorem el_add (v : Value) (size i k j : Nat) : (v.el size i k).add j = v.el size i (k + j) ∨ j ≠ 0 ∧ v.el size i k = ⟨0, 0, none⟩ ∧ v.el size i (k + j) = ⟨0, 0, none⟩ := by
  cases v with
  | slice a n c =>
    cases a with
    | some a => left; simp only [Value.el]; rw [add_plain]; congr 1; omega
    | none => by_cases hj : j = 0
              · subst hj; left; simp [Value.el, Addr.add]
              · right; exact ⟨hj, rfl, rfl⟩
  | _ => by_cases hj : j = 0
         · subst hj; left; simp [Value.el, Addr.add]
         · right; exact ⟨hj, rfl, rfl⟩
theorem ReadsN.row {v : Value} {ty size i k : Nat} {es : List (List Value)} {cs vs : List Value} (hs : Sel (.row v ty size es) σ F) (hi : es[i]? = some cs) (hk : (cs.drop k).take vs.length = vs) : ReadsN W σ (v.el size i k) vs := by
  intro w h j u hu
  have hr : rowSat _ _ _ _ _ := sel_sat hs h
  rw [← hk, List.getElem?_take] at hu
  split at hu
  · rw [List.getElem?_drop] at hu
    have hc := hr.cell hi hu
    rcases hr.2 with ⟨rfl, rfl⟩ | ⟨g, off, cap, cur, rfl, _⟩
    · simp at hi
    · simp only [Value.el] at hc ⊢
      rw [add_plain, show off + (i * size + k) + j = off + (i * size + (k + j)) by omega]
      exact hc
  · cases hu
theorem ReadsN.ro {v : Value} {size i k : Nat} {es : List (List Value)} {cs vs : List Value} (hr : Ro W v size es) (hi : es[i]? = some cs) (hk : (cs.drop k).take vs.length = vs) : ReadsN W σ (v.el size i k) vs := by
  intro w h j u hu
  rw [← hk, List.getElem?_take] at hu
  split at hu
  · rw [List.getElem?_drop] at hu
    have hc := hr.cell h hi hu
    rcases hr.2 with ⟨rfl, rfl⟩ | ⟨g, off, cap, rfl, _⟩
    · simp at hi
    · simp only [Value.el] at hc ⊢
      rw [add_plain, show off + (i * size + k) + j = off + (i * size + (k + j)) by omega]
      exact hc
  · cases hu

theorem ReadsN.blk0 {b ty : Nat} {cells : List Value} (hs : Sel (.blk b ty cells) σ F) : ReadsN W σ ⟨b, 0, none⟩ cells := ReadsN.blk hs (by simp)
theorem ReadsN.row0 {v : Value} {ty size i : Nat} {es : List (List Value)} {cs : List Value} (hs : Sel (.row v ty size es) σ F) (hi : es[i]? = some cs) : ReadsN W σ (v.el size i 0) cs := ReadsN.row hs hi (by simp)
/-- A part of m cells. -/
theorem ReadsN.blkP {b ty off : Nat} {cells : List Value} (m : Nat) (hs : Sel (.blk b ty cells) σ F) (hm : ((cells.drop off).take m).length = m) : ReadsN W σ ⟨b, off, none⟩ ((cells.drop off).take m) := ReadsN.blk hs (by rw [hm])
theorem ReadsN.rowP {v : Value} {ty size i k : Nat} {es : List (List Value)} {cs : List Value} (m : Nat) (hs : Sel (.row v ty size es) σ F) (hi : es[i]? = some cs) (hm : ((cs.drop k).take m).length = m) : ReadsN W σ (v.el size i k) ((cs.drop k).take m) := ReadsN.row hs hi (by rw [hm])
def isAggD : TypeDesc → Bool
  | .struct _ | .array _ _ => true
  | _ => false
section ops
variable {dst : Option Tmp} {ty : TypeId} {pos : String} {aft : Array Edge} {g : Option (Nat × Bool)}
theorem run_isAgg {t : TypeId} {d : TypeDesc} {s b : Nat} {z : List Value} [h : Ty P t d s b z] (w : World) : (isAgg t).run P w = .ok (isAggD d) w := by
  simp only [isAgg, Sem.run_bind, h.underlying, Result.andThen_ok]
  cases d <;> rfl
theorem Rd.load {x : Operand} {t : TypeId} {ad : Addr} {v : Value} {d : TypeDesc} {s b : Nat} {z : List Value} [h : Ty P t d s b z] (hd : isAggD d = false)
    (hx : Tm.ev e x = some (.pointer (some ad))) (hr : Reads W σ ad v) : Rd P W n ⟨dst, .load t x, ty, pos, aft, g⟩ e σ v := by
  intro ds a ha w hs
  simp [execOp, ha.ev hx, Instr.loadAt, Instr.sureAddr, loadVar, run_isAgg, hd, hr w hs]
theorem Rd.loadN {x : Operand} {t : TypeId} {ad : Addr} {vs : List Value} {d : TypeDesc} {s b : Nat} {z : List Value} [h : Ty P t d s b z] (hd : isAggD d = true)
    (hx : Tm.ev e x = some (.pointer (some ad))) (hr : ReadsN W σ ad vs) (hl : vs.length = s) : Rd P W n ⟨dst, .load t x, ty, pos, aft, g⟩ e σ (.agg vs.toArray) := by
  intro ds a ha w hs
  have := run_loadCells_list (P := P) (w := w) ad vs (fun j v hj => hr w hs j v hj)
  simp [execOp, ha.ev hx, Instr.loadAt, Instr.sureAddr, loadVar, run_isAgg, hd, h.sizeOf, ← hl, this]
/-- The length of a slice value. -/
def Len (W : World) (σ : List Chunk) (v : Value) (m : Nat) : Prop := ∀ w, St W σ w → ∃ a c, v = .slice a m c ∧ (∀ x, a = some x → m ≠ 0 → x.spot = none) ∧ (a = none → m = 0 ∧ c = 0)
theorem Len.row {v : Value} {t s : Nat} {es : List (List Value)} (hs : Sel (.row v t s es) σ F) : Len W σ v es.length := by
  intro w h
  have hr : rowSat _ _ _ _ _ := sel_sat hs h
  rcases hr.2 with ⟨rfl, rfl⟩ | ⟨b, off, cap, cur, rfl, _⟩
  · exact ⟨none, 0, rfl, by simp, fun _ => ⟨rfl, rfl⟩⟩
  · exact ⟨_, _, rfl, by simp, by simp⟩
theorem Len.ro {v : Value} {s : Nat} {es : List (List Value)} (hr : Ro W v s es) : Len W σ v es.length := by
  intro w _
  rcases hr.2 with ⟨rfl, rfl⟩ | ⟨b, off, cap, rfl, _⟩
  · exact ⟨none, 0, rfl, by simp, fun _ => ⟨rfl, rfl⟩⟩
  · exact ⟨_, _, rfl, by simp, by simp⟩
theorem Len.nil : Len W σ (.slice none 0 0) 0 := fun _ _ => ⟨none, 0, rfl, by simp, fun _ => ⟨rfl, rfl⟩⟩
theorem Rd.len {x : Operand} {t el : TypeId} {ts : List TypeId} {v : Value} {m : Nat} {s b : Nat} {z : List Value} [h : Ty P t (.slice el) s b z] (hx : Tm.ev e x = some v) (hl : Len W σ v m) :
    Rd P W n ⟨dst, .call ⟨.builtin .len, #[x], (t :: ts).toArray⟩, ty, pos, aft, g⟩ e σ (.int .i64 m) := by
  intro ds a ha w hs
  obtain ⟨ad, c, rfl, _⟩ := hl w hs
  simp [execOp, ha.ev hx, resolve, invoke, builtin, Builtin.len_, h.underlying, goInt]
theorem Rd.indexAddr {x y : Operand} {t el : TypeId} {v : Value} {m j : Nat} {k : IntKind} {i : Int} {s b s' b' : Nat} {z z' : List Value} {d : TypeDesc} [h : Ty P t (.slice el) s b z] [h' : Ty P el d s' b' z']
    (hx : Tm.ev e x = some v) (hy : Tm.ev e y = some (.int k i)) (hl : Len W σ v m) (hj : i = (j : Int)) (hlt : j < m) :
    Rd P W n ⟨dst, .indexAddr t x y, ty, pos, aft, g⟩ e σ (.pointer (some (v.el s' j 0))) := by
  intro ds a ha w hs
  obtain ⟨ad, c, rfl, h1, h2⟩ := hl w hs
  subst hj
  cases ad with
  | none => have := h2 rfl; omega
  | some ad =>
    obtain ⟨bk, off, sp⟩ := ad
    have := h1 _ rfl (by omega)
    simp only at this
    subst this
    have hin : (0 : Int) ≤ (j : Int) ∧ (j : Int) < (m : Int) := by omega
    simp only [execOp, ha.ev hx, ha.ev hy, Instr.indexAt, asIntOf, Sem.run_bind, h.underlying, Result.andThen_ok, Sem.run_pure]
    simp [hin, h'.sizeOf, Value.el, add_plain]
theorem Pu.indexArr {x y : Operand} {t el : TypeId} {bk off m j : Nat} {k : IntKind} {i : Int} {s b s' b' : Nat} {z z' : List Value} {d : TypeDesc} [h : Ty P t (.array m el) s b z] [h' : Ty P el d s' b' z']
    (hx : Tm.ev e x = some (.pointer (some ⟨bk, off, none⟩))) (hy : Tm.ev e y = some (.int k i)) (hj : i = (j : Int)) (hlt : j < m) :
    Pu P n ⟨dst, .indexAddr t x y, ty, pos, aft, g⟩ e (.pointer (some ⟨bk, off + j * s', none⟩)) := by
  intro ds a ha w
  subst hj
  have hin : (0 : Int) ≤ (j : Int) ∧ (j : Int) < (m : Int) := by omega
  simp only [execOp, ha.ev hx, ha.ev hy, Instr.indexAt, asIntOf, Sem.run_bind, h.underlying, Result.andThen_ok, Sem.run_pure, Instr.sureAddr]
  simp [hin, h'.sizeOf, add_plain]
theorem run_fieldPlace {t : TypeId} {i off : Nat} {ft : TypeId} [h : Fld P t i off ft] {fs : Array Field} {f : Field} (hu : P.underlying t = some (.struct fs)) (hf : fs[i]? = some f) (ad : Addr) (w : World) :
    (fieldPlace ad f).run P w = .ok (ad.add off) w := by
  obtain ⟨fs', f', h1, h2, rfl, h4, h5, h6⟩ := h.f
  rw [hu] at h1; cases h1
  rw [hf] at h2; cases h2
  rw [← h4] at h5 h6
  obtain ⟨i0, hi0⟩ := Option.isSome_iff_exists.1 h6
  have hz : ¬ i0.size = 0 := by simpa [Program.cellsOf, hi0] using h5
  simp [fieldPlace, Go.sizeOf, typeInfo, hi0, hz]
theorem Pu.fieldAddr {x : Operand} {t : TypeId} {i off bk o : Nat} {ft : TypeId} [h : Fld P t i off ft] (hx : Tm.ev e x = some (.pointer (some ⟨bk, o, none⟩))) :
    Pu P n ⟨dst, .fieldAddr t x i, ty, pos, aft, g⟩ e (.pointer (some ⟨bk, o + off, none⟩)) := by
  intro ds a ha w
  obtain ⟨fs, f, h1, h2, _⟩ := h.f
  simp [execOp, ha.ev hx, Instr.fieldAt, run_underlying h1, h2, Instr.sureAddr, run_fieldPlace h1 h2, add_plain]
/-- Of an element of a slice that is known to have one. -/
theorem Rd.fieldAddrEl {x : Operand} {t : TypeId} {i off j k m s : Nat} {v : Value} {ft : TypeId} [h : Fld P t i off ft] (hx : Tm.ev e x = some (.pointer (some (v.el s j k)))) (hl : Len W σ v m) (hm : j < m) :
    Rd P W n ⟨dst, .fieldAddr t x i, ty, pos, aft, g⟩ e σ (.pointer (some (v.el s j (k + off)))) := by
  intro ds a ha w hs
  obtain ⟨ad, c, rfl, h3, h4⟩ := hl w hs
  obtain ⟨fs, f, h1, h2, _⟩ := h.f
  cases ad with
  | none => have := h4 rfl; omega
  | some ad =>
    simp [execOp, ha.ev hx, Instr.fieldAt, run_underlying h1, h2, Instr.sureAddr, run_fieldPlace h1 h2, Value.el, add_plain, Nat.add_assoc]
theorem Pu.field {x : Operand} {t : TypeId} {i off : Nat} {ft : TypeId} {vs : List Value} {v : Value} {d : TypeDesc} {s b : Nat} {z : List Value} [h : Fld P t i off ft] [h' : Ty P ft d s b z] (hd : isAggD d = false)
    (hx : Tm.ev e x = some (.agg vs.toArray)) (hv : vs[off]? = some v) : Pu P n ⟨dst, .field t x i, ty, pos, aft, g⟩ e v := by
  intro ds a ha w
  obtain ⟨fs, f, h1, h2, rfl, rfl, _⟩ := h.f
  simp [execOp, ha.ev hx, Instr.field, run_underlying h1, h2, asAgg, part, run_isAgg, hd, hv]

/-! ### Stores -/
def Wr (σ : List Chunk) (ad : Addr) (u : Value) (σ' : List Chunk) : Prop := ∀ W w, St W σ w → (∃ v, w.cell? ad = some v) ∧ w.frozen? ad = false ∧ St W σ' (w.setCell ad u)
theorem heap_setCell_at {w : World} {b off : Nat} {u : Value} {c : Array Value} {t : TypeId} (h : w.heap[b]? = some (.cells c t (0, 0))) :
    (w.setCell ⟨b, off, none⟩ u).heap[b]? = some (.cells (c.setIfInBounds off u) t (0, 0)) := by
  simp [World.setCell, Array.getElem?_modify, h]
theorem Wr.blk {b ty off : Nat} {cells : List Value} {u : Value} (hu : Upd (.blk b ty cells) (.blk b ty (cells.set off u)) σ σ') (hlt : off < cells.length) : Wr σ ⟨b, off, none⟩ u σ' := by
  intro W w h
  obtain ⟨F, hp, hp'⟩ := hu.split
  have hsat := (Own.cons_iff.1 (h.own.perm hp)).1
  simp only [Chunk.sat] at hsat
  refine ⟨⟨cells[off], by simp [World.cell?, hsat, hlt]⟩, by simp [World.frozen?, hsat], ?_⟩
  refine h.rewrite hp hp' (g := b) rfl rfl ?_ (fun k hk => Below.heap_setCell w _ u k (by simpa using hk)) (by simp [World.setCell]) rfl rfl rfl
  simp only [Chunk.sat]
  rw [heap_setCell_at hsat]
  simp
theorem Wr.row {v : Value} {ty size i k : Nat} {es : List (List Value)} {cs : List Value} {u : Value} (hi : es[i]? = some cs) (hk : k < cs.length)
    (hu : Upd (.row v ty size es) (.row v ty size (es.set i (cs.set k u))) σ σ') : Wr σ (v.el size i k) u σ' := by
  intro W w h
  obtain ⟨F, hp, hp'⟩ := hu.split
  have hsat := (Own.cons_iff.1 (h.own.perm hp)).1
  simp only [Chunk.sat] at hsat
  have hcell := hsat.cell hi (List.getElem?_eq_getElem hk)
  obtain ⟨hl, h2⟩ := hsat
  rcases h2 with ⟨rfl, rfl⟩ | ⟨g, off, cap, cur, rfl, hg, hc, hm, hsz, ht⟩
  · simp at hi
  have hcs : cs.length = size := hl cs (List.mem_of_getElem? hi)
  refine ⟨⟨_, hcell⟩, by simp [Value.el, World.frozen?, hg], ?_⟩
  refine h.rewrite hp hp' (g := g) rfl rfl ?_ (fun b hb => Below.heap_setCell w _ u b (by simpa [Value.el] using hb)) (by simp [World.setCell]) rfl rfl rfl
  refine ⟨?_, .inr ⟨g, off, cap, _, by simp, heap_setCell_at hg, by simpa using hc, hm, by simpa using hsz, ?_⟩⟩
  · intro c hc
    rcases List.mem_or_eq_of_mem_set hc with hc | rfl
    · exact hl c hc
    · simpa using hcs
  · rw [flatten_set hl i k cs u (by omega) hi, ← ht]
    simp only [Array.toList_setIfInBounds, List.length_set]
    rw [List.drop_set, if_neg (by omega), List.take_set]
    congr 1
    omega
def One (W : World) (σ : List Chunk) (u : Value) : Prop := ∀ w, St W σ w → u.oneCell' = true
theorem One.lit {u : Value} (h : u.oneCell' = true) : One W σ u := fun _ _ => h
theorem One.len {u : Value} {m : Nat} (h : Len W σ u m) : One W σ u := fun w hs => by obtain ⟨a, c, rfl, _⟩ := h w hs; rfl
theorem One.mono {σ' : List Chunk} {u : Value} (h : One W σ' u) (he : Ent σ σ') : One W σ u := fun w hs => h w (hs.ent he)
theorem One.lits {ys : List (List Value)} (h : ∀ c ∈ ys, ∀ q ∈ c, q.oneCell' = true) : ∀ c ∈ ys, ∀ q ∈ c, One W σ q := fun c hc q hq _ _ => h c hc q hq
theorem SLo.store {x y : Operand} {t : TypeId} {ad : Addr} {u : Value} {d : TypeDesc} {s b : Nat} {z : List Value} [h : Ty P t d s b z] (hs1 : s = 1) (hx : Tm.ev e x = some (.pointer (some ad))) (hy : Tm.ev e y = some u)
    (ho1 : One W σ u) (hw : Wr σ ad u σ') (k : K undef σ') : SLo P W n ⟨dst, .store t x y, ty, pos, aft, g⟩ e σ K := by
  intro ds a w ha hs
  have ho := ho1 w hs
  obtain ⟨⟨v, hv⟩, hfz, hs'⟩ := hw W w hs
  have hc : u.cells = #[u] := by cases u <;> first | rfl | simp [Value.oneCell'] at ho
  have hrun : (execOp a.eval ⟨dst, .store t x y, ty, pos, aft, g⟩).run P w = .ok .skip (w.setCell ad u) := by
    simp [execOp, ha.ev hx, ha.ev hy, Instr.storeAt, Instr.sureAddr, storeVar, h.sizeOf, hc, hs1, storeCells, run_store _ _ _ _ _ ho, hv, hfz, Addr.add]
  unfold Oper.wp
  rw [hrun]
  exact ⟨undef, σ', k, rfl, hs'⟩
end ops
end
end Go.Sl
