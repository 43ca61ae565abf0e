/- Rules for new blocks, struct values, slices that grow. -/
import Derived.Test.YtloeicnadchkpaaSL4
import Derived.Laws.CopyRow
import Derived.Laws.Append
import Derived.IntWalk
import Derived.Laws.MakeOwn
namespace Go.Sl
open Go.RowKit

/-- A struct's or an array's value, part by part. -/
def splice (z : List Value) (off : Nat) : List Value → List Value
  | [] => z
  | v :: r => splice (z.set off v) (off + 1) r
def fillL (pl : Nat → Option (Nat × Nat)) (z : List Value) : List (Nat × Value) → Option (List Value)
  | [] => some z
  | (i, v) :: r => match pl i with
    | none => none
    | some (off, size) => if v.cells.toList.length = size ∧ off + v.cells.toList.length ≤ z.length then fillL pl (splice z off v.cells.toList) r else none
theorem splice_len (vs : List Value) : ∀ (z : List Value) (off : Nat), (splice z off vs).length = z.length := by
  induction vs with
  | nil => intro z off; rfl
  | cons v r ih => intro z off; simp [splice, ih]
theorem foldl_splice (vs : List Value) : ∀ (z : Array Value) (off k : Nat),
    (vs.zipIdx k).foldl (fun cs (x : Value × Nat) => cs.setIfInBounds (off + x.2) x.1) z = (splice z.toList (off + k) vs).toArray := by
  induction vs with
  | nil => intro z off k; simp [splice]
  | cons v r ih =>
    intro z off k
    simp only [List.zipIdx_cons, List.foldl_cons, splice]
    rw [ih]
    simp [Nat.add_assoc]
theorem fill_eq (pl : Nat → Option (Nat × Nat)) : ∀ (ps : List (Nat × Value)) (z : List Value) (cs : List Value), fillL pl z ps = some cs → Instr.fill pl z.toArray ps = some cs.toArray
  | [], z, cs, h => by simp [fillL] at h; simp [Instr.fill, h]
  | (i, v) :: r, z, cs, h => by
    simp only [fillL] at h
    split at h
    · cases h
    · rename_i off size hp
      split at h
      · rename_i hc
        have ih := fill_eq pl r _ cs h
        simp only [Instr.fill, hp]
        rw [if_neg (by simp at hc ⊢; omega)]
        rw [← ih]
        congr 1
        have := foldl_splice v.cells.toList z.toArray off 0
        rw [← Array.foldl_toList]
        simpa [Array.toList_zipIdx] using this
      · cases h

class Places (P : Program) (t : TypeId) (pl : outParam (List (Nat × Nat))) : Prop where
  b : ∃ fs, P.underlying t = some (.struct fs) ∧ ∀ w, (fs.mapM fun f => do pure (f.offset, ← sizeOf f.type) : Sem (Array (Nat × Nat))).run P w = .ok pl.toArray w

def Tm.evp (e : Tm) : List (Nat × Operand) → Option (List (Nat × Value))
  | [] => some []
  | (i, x) :: r => match Tm.ev e x, Tm.evp e r with
    | some v, some vs => some ((i, v) :: vs)
    | _, _ => none
theorem Agree.evp {n : Nat} {e : Tm} {ds : List Deferred} {a : Act} (h : Agree n e ds a) : ∀ {xs : List (Nat × Operand)} {vs : List (Nat × Value)}, Tm.evp e xs = some vs → xs.map (fun p => (p.1, a.eval p.2)) = vs
  | [], vs, hx => by simp [Tm.evp] at hx; simp [hx]
  | (i, x) :: r, vs, hx => by
    simp only [Tm.evp] at hx
    split at hx
    · rename_i v vs' h1 h2
      simp at hx; subst hx
      simp [h.ev h1, h.evp h2]
    · simp at hx

section
variable {P : Program} {W : World} {n : Nat} {e : Tm} {ds : List Deferred} {σ σ' Fr F : List Chunk} {K : Value → List Chunk → Prop}
section ops
variable {dst : Option Tmp} {ty : TypeId} {pos : String} {aft : Array Edge} {g : Option (Nat × Bool)}

theorem Pu.build {t : TypeId} {parts : Array (Nat × Operand)} {pl : List (Nat × Nat)} {ps : List (Nat × Value)} {cs : List Value} {d : TypeDesc} {s b : Nat} {z : List Value} [h : Places P t pl] [h' : Ty P t d s b z]
    (hp : Tm.evp e parts.toList = some ps) (hf : fillL (fun i => pl[i]?) z ps = some cs) : Pu P n ⟨dst, .build t parts, ty, pos, aft, g⟩ e (.agg cs.toArray) := by
  intro ds a ha w
  obtain ⟨fs, h1, h2⟩ := h.b
  obtain ⟨zv, hz, hzc⟩ := h'.zeroValue w
  have hps : (parts.map fun (x : Nat × Operand) => (x.1, a.eval x.2)) = ps.toArray := Array.toList_inj.1 (by rw [Array.toList_map]; exact ha.evp hp)
  have hfill := fill_eq _ _ _ _ hf
  have hzz : zv.cells = z.toArray := by rw [← hzc]
  have hpl : (fun (x : Nat) => pl.toArray[x]?) = (fun (x : Nat) => pl[x]?) := by funext x; simp
  simp only [execOp, hps, Instr.build, Sem.run_bind, hz, Result.andThen_ok, run_underlying h1, h2, hzz, hpl, hfill, Sem.run_pure]
theorem SLo.alloc {t : TypeId} {d : TypeDesc} {s b : Nat} {z : List Value} [h : Ty P t d s b z] (k : ∀ b, K (.pointer (some ⟨b, 0, none⟩)) (.blk b t z :: σ)) : SLo P W n ⟨dst, .alloc t, ty, pos, aft, g⟩ e σ K := by
  intro ds a w ha hs
  obtain ⟨zv, hz, hzc⟩ := h.zeroValue w
  have hrun : (execOp a.eval ⟨dst, .alloc t, ty, pos, aft, g⟩).run P w = .ok (.value (.pointer (some ⟨w.heap.size, 0, none⟩))) (w.alloc (.cells z.toArray t (0, 0))) := by
    simp [execOp, Instr.alloc, hz, newVar, newRow, ← hzc]
  unfold Oper.wp
  rw [hrun]
  exact ⟨_, _, k w.heap.size, rfl, hs.alloc t z⟩
theorem SLo.box {t : TypeId} {x : Operand} {v : Value} {cs : List Value} (hx : Tm.ev e x = some v) (hc : v.cells = cs.toArray) (k : ∀ b, K (.pointer (some ⟨b, 0, none⟩)) (.blk b t cs :: σ)) :
    SLo P W n ⟨dst, .box t x, ty, pos, aft, g⟩ e σ K := by
  intro ds a w ha hs
  have hrun : (execOp a.eval ⟨dst, .box t x, ty, pos, aft, g⟩).run P w = .ok (.value (.pointer (some ⟨w.heap.size, 0, none⟩))) (w.alloc (.cells cs.toArray t (0, 0))) := by
    simp [execOp, Instr.box, ha.ev hx, newVar, newRow, hc]
  unfold Oper.wp
  rw [hrun]
  exact ⟨_, _, k w.heap.size, rfl, hs.alloc t cs⟩
def zerosL (z : List Value) (m : Nat) : List Value := (List.range m).map fun i => z[i % z.length]!
theorem zeros_eq (z : List Value) (m : Nat) : (Array.range m).map (fun i => (z.toArray)[i % z.toArray.size]!) = (zerosL z m).toArray := by
  apply Array.toList_inj.1
  simp [zerosL]
theorem zerosL_rep (z : List Value) (m : Nat) (hz : z ≠ []) : zerosL z (m * z.length) = (List.replicate m z).flatten := by
  have hpos : 0 < z.length := List.length_pos_iff.2 hz
  apply List.ext_getElem?
  intro i
  have hall : ∀ c ∈ List.replicate m z, c.length = z.length := fun c hc => by rw [(List.mem_replicate.1 hc).2]
  have h1 := flatten_get hall (i / z.length) (i % z.length) (Nat.mod_lt _ hpos)
  have h2 : i / z.length * z.length + i % z.length = i := by rw [Nat.mul_comm]; exact Nat.div_add_mod i z.length
  rw [h2] at h1
  rw [h1]
  simp only [zerosL, List.getElem?_map, List.getElem?_replicate]
  by_cases hi : i < m * z.length
  · have hq : i / z.length < m := (Nat.div_lt_iff_lt_mul hpos).2 hi
    have hr : i % z.length < z.length := Nat.mod_lt _ hpos
    simp [hi, hq, hr]
  · have hq : ¬ i / z.length < m := fun h => hi ((Nat.div_lt_iff_lt_mul hpos).1 h)
    simp [hi, hq]
theorem SLo.buildSlice {t el len : Nat} {parts : Array (Nat × Operand)} {ps : List (Nat × Value)} {es : List (List Value)} {d : TypeDesc} {s b s' b' : Nat} {z z' : List Value} [h : Ty P t (.slice el) s b z] [h' : Ty P el d s' b' z']
    (hpos : 0 < len * s') (hsm : len * s' ≤ 2 ^ 24) (hp : Tm.evp e parts.toList = some ps) (hes : ∀ c ∈ es, c.length = s') (hlen : es.length = len)
    (hf : fillL (fun i => some (i * s', s')) (zerosL z' (len * s')) ps = some es.flatten) (k : ∀ v, v ≠ .slice none 0 0 → K v (.row v el s' es :: σ)) :
    SLo P W n ⟨dst, .buildSlice t len parts, ty, pos, aft, g⟩ e σ K := by
  intro ds a w ha hs
  subst hlen
  obtain ⟨zv, hz, hzc⟩ := h'.zeroValue w
  have hps : (parts.map fun (x : Nat × Operand) => (x.1, a.eval x.2)) = ps.toArray := Array.toList_inj.1 (by rw [Array.toList_map]; exact ha.evp hp)
  have hfill := fill_eq _ _ _ _ hf
  have hzz : zv.cells = z'.toArray := by rw [← hzc]
  have hfl := flatten_len hes
  have hrun : (execOp a.eval ⟨dst, .buildSlice t es.length parts, ty, pos, aft, g⟩).run P w = .ok (.value (.slice (some ⟨w.heap.size, 0, none⟩) es.length es.length)) (w.alloc (.cells es.flatten.toArray el (0, 0))) := by
    rw [← zeros_eq, ← hzz] at hfill
    have hg : ¬ (es.length * s' > 2 ^ 24) := by omega
    have hn0 : ¬ (es.length * s' = 0) := by omega
    simp only [execOp, hps, Instr.buildSlice, Sem.run_bind, h.underlying, h'.sizeOf, Result.andThen_ok, Sem.run_ite, if_neg hg, if_neg hn0, hz, hfill, Sem.run_pure]
    simp [newRow]
  unfold Oper.wp
  rw [hrun]
  refine ⟨_, _, k _ (by simp), rfl, hs.allocRow el s' es.length es es.flatten.toArray hes (Nat.le_refl _) (by unfold maxLen; have := Nat.le_mul_of_pos_right es.length (Nat.pos_of_mul_pos_left hpos); omega) (by rw [← hfl]; simp) ?_⟩
  exact List.take_of_length_le (by rw [hfl]; exact Nat.le_refl _)
theorem wrap64_in {i : Int} (h1 : -9223372036854775808 ≤ i) (h2 : i ≤ 9223372036854775807) : IntKind.i64.wrap i = i := by
  exact IntWalk.i64_in _ (by omega)
theorem SLo.makeSlice {t el : Nat} {x : Operand} {k' : IntKind} {i : Int} {m : Nat} {d : TypeDesc} {s b s' b' : Nat} {z z' : List Value} [h : Ty P t (.slice el) s b z] [h' : Ty P el d s' b' z']
    (hz0 : z'.length = s') (hs0 : 0 < s') (hx : Tm.ev e x = some (.int k' i)) (hi : i = (m : Int)) (hm : m ≤ 9223372036854775807) (hb : b' * m ≤ 281474976710656)
    (k : ∀ v, v ≠ .slice none 0 0 → K v (.row v el s' (List.replicate m z') :: σ)) : SLo P W n ⟨dst, .makeSlice t x x, ty, pos, aft, g⟩ e σ K := by
  intro ds a w ha hs
  subst hi
  obtain ⟨inf, zv, hin, his, hib, hzi, hzc⟩ := h'.info
  have hzz : zv.cells = z'.toArray := by rw [← hzc]
  have hne : z' ≠ [] := by intro h0; subst h0; simp at hz0; omega
  have hbm : ((inf.bytes : Int) * (m : Int)) ≤ 281474976710656 := by
    have h0 : ((b' * m : Nat) : Int) ≤ 281474976710656 := by omega
    rw [Int.natCast_mul] at h0
    rw [hib]; exact h0
  have hmk := run_make (P := P) w t el inf zv h.u hin hzi k' k' (m : Int) (m : Int) (by omega) (by omega) hbm (by omega)
  have hcells : madeCells zv.cells ((m : Int).toNat * inf.size) = (List.replicate m z').flatten.toArray := by
    simp only [madeCells, hzz, his, Int.toNat_natCast, zeros_eq]
    rw [← hz0, zerosL_rep _ _ hne]
  rw [hcells] at hmk
  have hrun : (execOp a.eval ⟨dst, .makeSlice t x x, ty, pos, aft, g⟩).run P w = .ok (.value (.slice (some ⟨w.heap.size, 0, none⟩) m m)) (w.alloc (.cells (List.replicate m z').flatten.toArray el (0, 0))) := by
    simp only [execOp, ha.ev hx, Sem.run_bind, hmk, Result.andThen_ok, Sem.run_pure, Int.toNat_natCast]
  unfold Oper.wp
  rw [hrun]
  have hall : ∀ c ∈ List.replicate m z', c.length = s' := fun c hc => by rw [(List.mem_replicate.1 hc).2, hz0]
  have hfl := flatten_len hall
  rw [List.length_replicate] at hfl
  have := hs.allocRow el s' m (List.replicate m z') (List.replicate m z').flatten.toArray hall (by simp) (by unfold maxLen; omega) (by rw [← hfl]; simp)
    (by rw [List.length_replicate]; exact List.take_of_length_le (by rw [hfl]; exact Nat.le_refl _))
  simp only [List.length_replicate] at this
  exact ⟨_, _, k _ (by simp), rfl, this⟩
end ops

/-! ### Stores of structs -/
theorem setCell_setRow_blk {w : World} {b off : Nat} {u : Value} {c : Array Value} {t : TypeId} (h : w.heap[b]? = some (.cells c t (0, 0))) (hlt : off < c.size) (ho : u.oneCell' = true) (m : Mode) :
    (store ⟨b, off, none⟩ u m).run P w = .ok () (w.setCell ⟨b, off, none⟩ u) := by
  rw [run_store P w _ u m ho]
  simp [World.cell?, World.frozen?, h, hlt]
theorem storeCells_blk {b ty : Nat} : ∀ (vs : List Value) (i : Nat) (cells : List Value) (w : World) (σ σ' : List Chunk) (off : Nat), St W σ w → Upd (.blk b ty cells) (.blk b ty (splice cells (off + i) vs)) σ σ' → off + i + vs.length ≤ cells.length →
    (∀ v ∈ vs, v.oneCell' = true) → ∃ w', (storeCells ⟨b, off, none⟩ vs i).run P w = .ok () w' ∧ St W σ' w'
  | [], i, cells, w, σ, σ', off, hs, hu, _, _ => by
    refine ⟨w, rfl, ?_⟩
    obtain ⟨F, h1, h2⟩ := hu.split
    exact hs.perm (h1.trans h2.symm)
  | v :: r, i, cells, w, σ, σ', off, hs, hu, hl, ho => by
    obtain ⟨F, h1, h2⟩ := hu.split
    have hw := Wr.blk (b := b) (ty := ty) (off := off + i) (cells := cells) (u := v) (σ := .blk b ty cells :: F) (σ' := .blk b ty (cells.set (off + i) v) :: F) .here (by simp at hl; omega)
    have hs1 := hs.perm h1
    obtain ⟨⟨q, hq⟩, hfz, hs2⟩ := hw W w hs1
    obtain ⟨w', hr, hs3⟩ := storeCells_blk r (i + 1) (cells.set (off + i) v) (w.setCell ⟨b, off + i, none⟩ v) (.blk b ty (cells.set (off + i) v) :: F) (.blk b ty (splice (cells.set (off + i) v) (off + (i + 1)) r) :: F) off hs2 .here (by simp at hl ⊢; omega) (fun x hx => ho x (.tail _ hx))
    refine ⟨w', ?_, hs3.perm h2.symm⟩
    have hst : (store ((⟨b, off, none⟩ : Addr).add i) v).run P w = .ok () (w.setCell ⟨b, off + i, none⟩ v) := by
      rw [add_plain, run_store P w _ v _ (ho v (.head _)), hq]
      simp [hfz]
    simp only [storeCells, Sem.run_bind, hst, Result.andThen_ok, hr]
section ops
variable {dst : Option Tmp} {ty : TypeId} {pos : String} {aft : Array Edge} {g : Option (Nat × Bool)}
def onesP (W : World) (σ : List Chunk) : List Value → Prop
  | [] => True
  | v :: r => One W σ v ∧ onesP W σ r
theorem onesP.all {w : World} (hs : St W σ w) : ∀ {vs : List Value}, onesP W σ vs → ∀ v ∈ vs, v.oneCell' = true
  | _ :: _, h, _, .head _ => h.1 w hs
  | _ :: _, h, _, .tail _ hv => onesP.all hs h.2 _ hv
theorem SLo.storeN {x y : Operand} {t : TypeId} {b ty' off : Nat} {cells vs : List Value} {d : TypeDesc} {s bb : Nat} {z : List Value} [h : Ty P t d s bb z] (hx : Tm.ev e x = some (.pointer (some ⟨b, off, none⟩))) (hy : Tm.ev e y = some (.agg vs.toArray))
    (hl : vs.length = s) (ho : onesP W σ vs) (hlt : off + s ≤ cells.length) (hu : Upd (.blk b ty' cells) (.blk b ty' (splice cells off vs)) σ σ') (k : K undef σ') : SLo P W n ⟨dst, .store t x y, ty, pos, aft, g⟩ e σ K := by
  intro ds a w ha hs
  obtain ⟨w', hr, hs'⟩ := storeCells_blk (P := P) vs 0 cells w σ σ' off hs hu (by omega) (onesP.all hs ho)
  have hrun : (execOp a.eval ⟨dst, .store t x y, ty, pos, aft, g⟩).run P w = .ok .skip w' := by
    simp [execOp, ha.ev hx, ha.ev hy, Instr.storeAt, Instr.sureAddr, storeVar, h.sizeOf, Value.cells, hl, hr]
  unfold Oper.wp
  rw [hrun]
  exact ⟨undef, σ', k, rfl, hs'⟩
end ops

/-! ### append -/
def Src (W : World) (σ : List Chunk) (u : Value) (size : Nat) (ys : List (List Value)) : Prop :=
  (∀ c ∈ ys, c.length = size) ∧ ∀ w, St W σ w → (u = .slice none 0 0 ∧ ys = []) ∨ ∃ ad c, u = .slice (some ad) ys.length c ∧ ∀ j x, ys.flatten[j]? = some x → w.cell? (ad.add j) = some x
theorem flatten_at {α : Type} {size : Nat} {es : List (List α)} (h : ∀ c ∈ es, c.length = size) {j : Nat} {x : α} (hj : es.flatten[j]? = some x) : ∃ cs, 0 < size ∧ es[j / size]? = some cs ∧ cs[j % size]? = some x := by
  have hlt := (List.getElem?_eq_some_iff.1 hj).1
  rw [flatten_len h] at hlt
  have hpos : 0 < size := by
    rcases Nat.eq_zero_or_pos size with h0 | h0
    · subst h0; omega
    · exact h0
  have h1 := flatten_get h (j / size) (j % size) (Nat.mod_lt _ hpos)
  have h2 : j / size * size + j % size = j := by rw [Nat.mul_comm]; exact Nat.div_add_mod j size
  rw [h2, hj] at h1
  cases hc : es[j / size]? with
  | none => simp [hc] at h1
  | some cs => simp [hc] at h1; exact ⟨cs, hpos, rfl, h1.symm⟩
theorem el_of_flat {g off i k size : Nat} {len cap : Nat} : (Value.slice (some ⟨g, off, none⟩) len cap).el size i k = ⟨g, off + (i * size + k), none⟩ := rfl
theorem Src.row {v : Value} {ty size : Nat} {ys : List (List Value)} (hs : Sel (.row v ty size ys) σ F) (hl : ∀ c ∈ ys, c.length = size) : Src W σ v size ys := by
  refine ⟨hl, fun w h => ?_⟩
  have hr : rowSat _ _ _ _ _ := sel_sat hs h
  rcases hr.2 with h2 | ⟨g, off, cap, cur, hv, _⟩
  · exact .inl h2
  · refine .inr ⟨⟨g, off, none⟩, cap, hv, fun j x hj => ?_⟩
    obtain ⟨cs, hpos, h1, h2⟩ := flatten_at hl hj
    have := hr.cell h1 h2
    rw [hv, el_of_flat] at this
    rw [add_plain]
    have e : j / size * size + j % size = j := by rw [Nat.mul_comm]; exact Nat.div_add_mod j size
    rw [e] at this
    exact this
theorem Src.ro {v : Value} {size : Nat} {ys : List (List Value)} (hr : Ro W v size ys) : Src W σ v size ys := by
  refine ⟨hr.1, fun w h => ?_⟩
  rcases hr.2 with h2 | ⟨g, off, cap, hv, _⟩
  · exact .inl h2
  · refine .inr ⟨⟨g, off, none⟩, cap, hv, fun j x hj => ?_⟩
    obtain ⟨cs, hpos, h1, h2⟩ := flatten_at hr.1 hj
    have := hr.cell h h1 h2
    rw [hv, el_of_flat] at this
    rw [add_plain]
    have e : j / size * size + j % size = j := by rw [Nat.mul_comm]; exact Nat.div_add_mod j size
    rw [e] at this
    exact this
theorem Src.nil {size : Nat} : Src W σ (.slice none 0 0) size [] := ⟨by simp, fun _ _ => .inl ⟨rfl, rfl⟩⟩

theorem drop_take_mid {α : Type} (l xs ys : List α) (off : Nat) (h : (l.drop off).take xs.length = xs) (hsz : off + xs.length + ys.length ≤ l.length) :
    ((l.take (off + xs.length) ++ ys ++ l.drop (off + xs.length + ys.length)).drop off).take (xs.length + ys.length) = xs ++ ys := by
  have h1 : (l.take (off + xs.length)).length = off + xs.length := by simp; omega
  rw [List.append_assoc, List.drop_append_of_le_length (by omega), List.drop_take, Nat.add_sub_cancel_left, h]
  rw [← List.append_assoc, List.take_append_of_le_length (by simp)]
  exact List.take_of_length_le (by simp)
theorem grown_cap {w : World} {need old : Nat} {el : TypeId} (hne : need ≤ 9223372036854775807) : ∃ c, need ≤ c ∧ c ≤ maxLen ∧ (Question.appendCap need old el).cut (w.tape w.drawn (.appendCap need old el)) = c := by
  exact ⟨grownCap w need old el, grownCap_ge w need old el, grownCap_le_maxLen w need old el (by unfold maxLen; omega), rfl⟩
section ops
variable {dst : Option Tmp} {ty : TypeId} {pos : String} {aft : Array Edge} {g : Option (Nat × Bool)}
theorem run_src {u : Value} {size : Nat} {ys : List (List Value)} {w : World} (h : Src W σ u size ys) (hs : St W σ w) :
    (Builtin.lenOf u).run P w = .ok ys.length w ∧ (Builtin.firstCells size ys.length u).run P w = .ok ys.flatten.toArray w := by
  obtain ⟨hl, h⟩ := h
  rcases h w hs with ⟨rfl, rfl⟩ | ⟨ad, c, rfl, hc⟩
  · exact ⟨rfl, by simp [Builtin.firstCells]⟩
  · exact ⟨rfl, run_firstCells_some w size ys.length ad ys.length c ys.flatten (flatten_len hl) hc⟩
theorem SLo.append {t el : TypeId} {x y : Operand} {ts : List TypeId} {v u : Value} {size : Nat} {es ys : List (List Value)} {d' : TypeDesc} {s b b' : Nat} {z z' : List Value} [h : Ty P t (.slice el) s b z] [h' : Ty P el d' size b' z']
    (hz0 : z'.length = size) (hs0 : 0 < size) (hx : Tm.ev e x = some v) (hy : Tm.ev e y = some u) (hsel : Sel (.row v el size es) σ F) (hsrc : Src W σ u size ys)
    (ho : ∀ c ∈ ys, ∀ q ∈ c, One W σ q) (hb : (es.length + ys.length) * b' ≤ 140737488355328) (hm : es.length + ys.length ≤ 9223372036854775807)
    (k : ∀ v', (es ++ ys ≠ [] → v' ≠ .slice none 0 0) → K v' (.row v' el size (es ++ ys) :: F)) :
    SLo P W n ⟨dst, .call ⟨.builtin .append, #[x, y], (t :: t :: ts).toArray⟩, ty, pos, aft, g⟩ e σ K := by
  intro ds a w ha hs
  obtain ⟨inf, zv, hin, his, hib, hzi, hzc⟩ := h'.info
  have hzz : zv.cells = z'.toArray := by rw [← hzc]
  have hne : z' ≠ [] := by intro h0; subst h0; simp at hz0; omega
  obtain ⟨q1, q2⟩ := run_src (P := P) hsrc hs
  have hyl := hsrc.1
  have hfy := flatten_len hyl
  have hsat : rowSat w v el size es := sel_sat hsel hs
  have hperm := hsel.perm
  obtain ⟨hel, h2⟩ := hsat
  have hfe := flatten_len hel
  have hall : ∀ c ∈ es ++ ys, c.length = size := fun c hc => (List.mem_append.1 hc).elim (hel c) (hyl c)
  have hrest : St W F w := ⟨hs.below, (Own.cons_iff.1 (hs.own.perm hperm)).2.1⟩
  have key : ∀ (sLen sCap : Nat) (base : Option Addr), v = .slice base sLen sCap → sLen = es.length → (base = none → sCap = 0) → sCap ≤ maxLen →
      (∀ ad, base = some ad → ∃ g' off' cur, ad = ⟨g', off', none⟩ ∧ w.heap[g']? = some (.cells cur el (0, 0)) ∧ sLen ≤ sCap ∧ off' + sCap * size ≤ cur.size ∧ (cur.toList.drop off').take (sLen * size) = es.flatten) →
      ∃ v' w', (execOp a.eval ⟨dst, .call ⟨.builtin .append, #[x, y], (t :: t :: ts).toArray⟩, ty, pos, aft, g⟩).run P w = .ok (.value v') w' ∧ (es ++ ys ≠ [] → v' ≠ .slice none 0 0) ∧ St W (.row v' el size (es ++ ys) :: F) w' := by
    intro sLen sCap base hv hlen hbn hcm hbs
    subst hlen
    have hpre : ∀ (r : Sem Value), (do
        let (some sType, some s, some x) := ((t :: t :: ts).toArray[0]?, #[v, u][0]?, #[v, u][1]?) | stuck "append: two arguments expected"
        r : Sem Value) = r := fun r => rfl
    by_cases hroom : es.length + ys.length ≤ sCap
    · cases base with
      | none =>
        have := hbn rfl
        have hy0 : ys = [] := List.length_eq_zero_iff.1 (by omega)
        have he0 : es = [] := List.length_eq_zero_iff.1 (by omega)
        subst hy0; subst he0
        refine ⟨v, w, ?_, fun hc => (hc rfl).elim, hs.perm hperm⟩
        simp [execOp, ha.ev hx, ha.ev hy, resolve, invoke, builtin, Builtin.append_, hv, h.underlying, h'.sizeOf, q1, q2] at q1 q2 ⊢
      | some ad =>
        obtain ⟨g', off', cur, rfl, hg, hlc, hsz, ht⟩ := hbs ad rfl
        have hcapb : (es.length + ys.length) * size ≤ sCap * size := Nat.mul_le_mul_right _ hroom
        rw [Nat.add_mul] at hcapb
        have hst := run_storeCells_at (P := P) g' (off' + es.length * size) el ys.flatten 0 cur w hg (by rw [hfy]; omega) (fun q hq => by
          obtain ⟨c, hc, hqc⟩ := List.mem_flatten.1 hq
          exact ho c hc q hqc w hs)
        simp only [Nat.add_zero] at hst
        refine ⟨.slice (some ⟨g', off', none⟩) (es.length + ys.length) sCap,
          w.setRow g' (cur.toList.take (off' + es.length * size) ++ ys.flatten ++ cur.toList.drop (off' + es.length * size + ys.flatten.length)).toArray, ?_, fun _ => by simp, ?_⟩
        · simp [execOp, ha.ev hx, ha.ev hy, resolve, invoke, builtin, Builtin.append_, hv, h.underlying, h'.sizeOf, q1, q2, hroom, add_plain, hst]
        · refine hs.rewrite (c := .row v el size es) (d := .row (.slice (some ⟨g', off', none⟩) (es.length + ys.length) sCap) el size (es ++ ys)) hperm (.refl _) (g := g') (by simp [Chunk.block?, hv, Value.ownBlock]) (by simp [Chunk.block?, Value.ownBlock]) ?_
            (fun bb hbb => setRow_other w g' bb _ hbb) (by simp) rfl rfl rfl
          refine ⟨hall, .inr ⟨g', off', sCap, _, by simp, setRow_heap w g' cur _ el _ hg, by simpa using hroom, hcm, ?_, ?_⟩⟩
          · have hcs : cur.toList.length = cur.size := by simp
            simp only [List.size_toArray, List.length_append, List.length_take, List.length_drop, hcs, hfy]
            omega
          · have := drop_take_mid cur.toList es.flatten ys.flatten off' (by rw [hfe]; exact ht) (by rw [hfe, hfy]; simp; omega)
            rw [hfe, hfy] at this
            simp only [List.length_append, Nat.add_mul, List.flatten_append]
            rw [hfy]
            exact this
    · obtain ⟨c, hc1, hc2, hch⟩ := grown_cap (w := w) (need := es.length + ys.length) (old := sCap) (el := el) hm
      have hfits : ¬ (Builtin.nextslicecap (es.length + ys.length) sCap * inf.bytes > 2 ^ 48) := by
        have := growslice_fits (need := es.length + ys.length) (old := sCap) (bytes := inf.bytes) (by omega) (by rw [hib]; exact hb)
        omega
      have hmax : ¬ (9223372036854775807 < (es.length : Int) + (ys.length : Int) ∧ inf.bytes = 0) := by omega
      have hold : ∀ w', w'.heap = w.heap → (Builtin.firstCells size es.length v).run P w' = .ok es.flatten.toArray w' := by
        intro w' hw'
        subst hv
        cases base with
        | none =>
          have : es = [] := by
            rcases h2 with ⟨_, h2⟩ | ⟨_, _, _, _, h2, _⟩
            · exact h2
            · cases h2
          subst this
          simp [Builtin.firstCells]
        | some ad =>
          obtain ⟨g', off', cur, rfl, hg, hlc, hsz, ht⟩ := hbs ad rfl
          refine run_firstCells_some w' size es.length _ _ _ es.flatten hfe fun j q hj => ?_
          rw [add_plain]
          rw [← ht, List.getElem?_take] at hj
          split at hj
          · rw [List.getElem?_drop] at hj
            simp [World.cell?, hw', hg]
            simpa using hj
          · cases hj
      have hnew : (Builtin.firstCells size ys.length u).run P w.drew = .ok ys.flatten.toArray w.drew :=
        (run_src (P := P) hsrc (hs.drew (w' := w.drew) rfl rfl rfl rfl)).2
      have hzc2 : ∀ w', (zeroValue el).run P w' = .ok zv w' := fun w' => by simp [zeroValue, typeInfo, hin, hzi]
      refine ⟨.slice (some ⟨w.heap.size, 0, none⟩) (es.length + ys.length) c,
        w.drew.alloc (.cells (es.flatten.toArray ++ ys.flatten.toArray ++ Builtin.zeroCells zv.cells (c - (es.length + ys.length))) el (0, 0)), ?_, fun _ => by simp, ?_⟩
      · have hold' := hold w.drew rfl
        rw [hv] at hold'
        simp [execOp, ha.ev hx, ha.ev hy, resolve, invoke, builtin, Builtin.append_, hv, h.underlying, h'.sizeOf, q1, hroom, typeInfo, hin, hmax, hfits, Question.forced, hch, hold', hnew, hzc2, newRow]
        rw [← List.append_toArray, Array.append_assoc]
      · have hw1 : St W F w.drew := hrest.drew rfl rfl rfl rfl
        have hzl : (Builtin.zeroCells zv.cells (c - (es.length + ys.length))).size = (c - (es.length + ys.length)) * size := by
          simp [Builtin.zeroCells, hzz, hz0]
        have := hw1.allocRow el size c (es ++ ys) (es.flatten.toArray ++ ys.flatten.toArray ++ Builtin.zeroCells zv.cells (c - (es.length + ys.length))) hall (by simpa using hc1) hc2
          (by
            have e1 : (c - (es.length + ys.length)) * size + (es.length * size + ys.length * size) = c * size := by rw [← Nat.add_mul, ← Nat.add_mul]; congr 1; omega
            simp only [Array.size_append, List.size_toArray, hfe, hfy, hzl]; omega)
          (by
            have e2 : (es ++ ys).length * size = (es ++ ys).flatten.length := (flatten_len hall).symm
            have e3 : (es.flatten.toArray ++ ys.flatten.toArray ++ Builtin.zeroCells zv.cells (c - (es.length + ys.length))).toList = (es.flatten ++ ys.flatten) ++ (Builtin.zeroCells zv.cells (c - (es.length + ys.length))).toList := by simp
            rw [e2, List.flatten_append, e3]
            exact List.take_left)
        simpa using this
  have fin : ∃ v' w', (execOp a.eval ⟨dst, .call ⟨.builtin .append, #[x, y], (t :: t :: ts).toArray⟩, ty, pos, aft, g⟩).run P w = .ok (.value v') w' ∧ (es ++ ys ≠ [] → v' ≠ .slice none 0 0) ∧ St W (.row v' el size (es ++ ys) :: F) w' := by
    rcases h2 with ⟨hv, he0⟩ | ⟨g', off', cap, cur, hv, hg, hlc, hcm, hsz, ht⟩
    · exact key 0 0 none hv (by simp [he0]) (fun _ => rfl) (by unfold maxLen; omega) (by intro ad h; cases h)
    · exact key es.length cap (some ⟨g', off', none⟩) hv rfl (by intro h; cases h) hcm (fun ad h => by cases h; exact ⟨g', off', cur, rfl, hg, hlc, hsz, ht⟩)
  obtain ⟨v', w', hrun, hnn, hst⟩ := fin
  unfold Oper.wp
  rw [hrun]
  exact ⟨v', _, k v' hnn, rfl, hst⟩
end ops
end
end Go.Sl
