/- More rules: functions and nil, slices of slices, empty literals. -/
import Derived.Test.YtloeicnadchkpaaSL10
namespace Go.Sl
open Go.RowKit
section
variable {P : Program} {W : World} {n : Nat} {e : Tm} {σ σ' F : List Chunk}
variable {dst : Option Tmp} {ty : TypeId} {pos : String} {aft : Array Edge} {g : Option (Nat × Bool)} {K : Value → List Chunk → Prop}
theorem run_equalIn_funcF {t : TypeId} {p1 p2 : Array TypeId} {vr : Bool} (hu : P.underlying t = some (.func p1 p2 vr)) (f : Fn) (a1 a2 : Array Value) (w : World) : (Op.equal t (.func f a1 a2) .nilFunc).run P w = .ok false w := by
  have h : ∀ d, (Op.equalIn (d + 1) t (.func f a1 a2) .nilFunc).run P w = .ok false w := fun d => by simp [Op.equalIn, run_underlying hu]
  exact h 9999
theorem run_equalIn_funcT {t : TypeId} {p1 p2 : Array TypeId} {vr : Bool} (hu : P.underlying t = some (.func p1 p2 vr)) (w : World) : (Op.equal t .nilFunc .nilFunc).run P w = .ok true w := by
  have h : ∀ d, (Op.equalIn (d + 1) t .nilFunc .nilFunc).run P w = .ok true w := fun d => by simp [Op.equalIn, run_underlying hu]
  exact h 9999
theorem Pu.eqFuncNilF {x y : Operand} {t t' : TypeId} {f : Fn} {a1 a2 : Array Value} {p1 p2 : Array TypeId} {vr : Bool} {s b : Nat} {z : List Value} [h : Ty P t (.func p1 p2 vr) s b z] (hx : Tm.ev e x = some (.func f a1 a2)) (hy : Tm.ev e y = some .nilFunc) :
    Pu P n ⟨dst, .binOp .eql t x y t', ty, pos, aft, g⟩ e (.bool false) :=
  Pu.binop hx hy rfl fun w => by simp only [binOp, Sem.run_bind, run_equalIn_funcF h.u, Result.andThen_ok, Sem.run_pure]
theorem Pu.eqFuncNilT {x y : Operand} {t t' : TypeId} {p1 p2 : Array TypeId} {vr : Bool} {s b : Nat} {z : List Value} [h : Ty P t (.func p1 p2 vr) s b z] (hx : Tm.ev e x = some .nilFunc) (hy : Tm.ev e y = some .nilFunc) :
    Pu P n ⟨dst, .binOp .eql t x y t', ty, pos, aft, g⟩ e (.bool true) :=
  Pu.binop hx hy rfl fun w => by simp only [binOp, Sem.run_bind, run_equalIn_funcT h.u, Result.andThen_ok, Sem.run_pure]
theorem Pu.nePtrNil {x y : Operand} {t t' el : TypeId} {p : Option Addr} {s b : Nat} {z : List Value} [h : Ty P t (.pointer el) s b z] (hx : Tm.ev e x = some (.pointer p)) (hy : Tm.ev e y = some (.pointer none)) :
    Pu P n ⟨dst, .binOp .neq t x y t', ty, pos, aft, g⟩ e (.bool (!p.isNone)) :=
  Pu.binop hx hy rfl fun w => by
    have hp : P.underlying t = some (.pointer (P.pointee t)) := by simp [Program.pointee, h.u]
    simpa using run_neq_pointer_nil w t p hp
/-- A nil slice is taken for an owned one. -/
theorem SLo.nilRow {o : Oper} (ty' size : Nat) (h : SLo P W n o e (.row (.slice none 0 0) ty' size [] :: σ) K) : SLo P W n o e σ K :=
  fun ds a w ha hs => h ds a w ha (hs.addNil ty' size)
theorem SLo.buildSlice0 {t el : Nat} {parts : Array (Nat × Operand)} {d : TypeDesc} {s b s' b' : Nat} {z z' : List Value} [h : Ty P t (.slice el) s b z] [h' : Ty P el d s' b' z']
    (hp : parts.toList = []) (k : ∀ v, v ≠ .slice none 0 0 → K v (.row v el s' [] :: σ)) : SLo P W n ⟨dst, .buildSlice t 0 parts, ty, pos, aft, g⟩ e σ K := by
  intro ds a w ha hs
  have hps : parts = #[] := Array.toList_inj.1 (by simpa using hp)
  subst hps
  have hrun : (execOp a.eval ⟨dst, .buildSlice t 0 #[], ty, pos, aft, g⟩).run P w = .ok (.value (.slice (some ⟨w.heap.size, 0, none⟩) 0 0)) (w.alloc (.cells #[] el (0, 0))) := by
    simp only [execOp, Instr.buildSlice, Sem.run_bind, h.underlying, h'.sizeOf, Result.andThen_ok, Sem.run_ite]
    simp [newRow, Instr.fill, show (Array.range 0 : Array Nat) = #[] from Array.toList_inj.1 (by simp)]
  unfold Oper.wp
  rw [hrun]
  have := hs.allocRow el s' 0 [] #[] (by simp) (by simp) (by unfold maxLen; omega) (by simp) (by simp)
  exact ⟨_, _, k _ (by simp), rfl, this⟩
theorem sliced_eq {g off len cap lo size : Nat} : ∃ off', sliced (some ⟨g, off, none⟩) lo len cap size = .slice (some ⟨g, off', none⟩) (len - lo) (cap - lo) ∧ (lo = cap ∧ off' = off ∨ off' = off + lo * size) := by
  unfold sliced
  by_cases h : cap = lo
  · exact ⟨off, by rw [if_pos h], .inl ⟨h.symm, rfl⟩⟩
  · refine ⟨off + lo * size, ?_, .inr rfl⟩
    rw [if_neg h, Option.map_some, add_plain]
theorem SLo.slice {t el : TypeId} {x y : Operand} {v : Value} {k' : IntKind} {lo size : Nat} {es : List (List Value)} {d : TypeDesc} {s b b' : Nat} {z z' : List Value} [h : Ty P t (.slice el) s b z] [h' : Ty P el d size b' z']
    (hx : Tm.ev e x = some v) (hy : Tm.ev e y = some (.int k' (lo : Int))) (hsel : Sel (.row v el size es) σ F) (hlo : lo ≤ es.length) (hl0 : 0 < es.length)
    (k : ∀ v', v' ≠ .slice none 0 0 → K v' (.row v' el size (es.drop lo) :: F)) : SLo P W n ⟨dst, .slice t x (some y) none none, ty, pos, aft, g⟩ e σ K := by
  intro ds a w ha hs
  have hsat : rowSat w v el size es := sel_sat hsel hs
  have hperm := hsel.perm
  obtain ⟨hel, h2⟩ := hsat
  rcases h2 with ⟨_, h0⟩ | ⟨g', off, cap, cur, rfl, hg, hlc, hcm, hsz, ht⟩
  · rw [h0] at hl0; simp at hl0
  obtain ⟨off', hsl, hoff⟩ := sliced_eq (g := g') (off := off) (len := es.length) (cap := cap) (lo := lo) (size := size)
  have hpe : P.underlying t = some (.slice (P.elem t)) := by simp [Program.elem, h.u]
  have hee : P.elem t = el := by simp [Program.elem, h.u]
  have hrun : (execOp a.eval ⟨dst, .slice t x (some y) none none, ty, pos, aft, g⟩).run P w = .ok (.value (.slice (some ⟨g', off', none⟩) (es.length - lo) (cap - lo))) w := by
    have h1 := run_slice_l (P := P) (w := w) t (some ⟨g', off, none⟩) es.length cap hpe k' (lo : Int) (by omega) (by omega)
    rw [hee, h'.sizeOf] at h1
    simp only [Result.andThen_ok, Int.toNat_natCast, hsl] at h1
    simp only [execOp, ha.ev hx, Option.map_some, Option.map_none, ha.ev hy, run_sliceAt_slice (P := P) (w := w) t _ _ _ _ hpe, h1, Sem.run_bind, Result.andThen_ok, Sem.run_pure]
  unfold Oper.wp
  rw [hrun]
  refine ⟨_, _, k _ (by simp), rfl, ?_⟩
  have hp2 := hs.perm hperm
  obtain ⟨q1, q2, q3⟩ := Own.cons_iff.1 hp2.own
  refine ⟨hp2.below, Own.cons_iff.2 ⟨⟨fun c hc => hel c (List.mem_of_mem_drop hc), .inr ⟨g', off', cap - lo, cur, by rw [List.length_drop], hg, by rw [List.length_drop]; omega, by omega, ?_, ?_⟩⟩, q2, fun b hb => q3 b (by simpa [Chunk.block?, Value.ownBlock] using hb)⟩⟩
  · rcases hoff with ⟨rfl, rfl⟩ | rfl
    · simp; exact Nat.le_trans (Nat.le_add_right _ _) hsz
    · rw [Nat.sub_mul]
      have : lo * size ≤ cap * size := Nat.mul_le_mul_right _ (by omega)
      omega
  · rw [List.length_drop]
    rcases hoff with ⟨rfl, rfl⟩ | rfl
    · have : es.length - lo = 0 := by omega
      have hd : es.drop lo = [] := List.drop_eq_nil_of_le (by omega)
      rw [hd, this]
      simp
    · have hfd : (es.drop lo).flatten = es.flatten.drop (lo * size) := by
        have h1 : es.flatten = (es.take lo).flatten ++ (es.drop lo).flatten := by rw [← List.flatten_append, List.take_append_drop]
        have h2 : (es.take lo).flatten.length = lo * size := by
          rw [flatten_len (fun c hc => hel c (List.mem_of_mem_take hc)), List.length_take, Nat.min_eq_left hlo]
        rw [h1, ← h2, List.drop_left]
      rw [hfd, ← ht, List.drop_take, List.drop_drop, Nat.sub_mul]
end
end Go.Sl
