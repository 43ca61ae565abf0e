/- More rules: comparisons with nil, of bools; shifts and masks. -/
import Derived.Test.YtloeicnadchkpaaSL6
import Derived.Lib.SliceRun
namespace Go.Sl
open Go.RowKit

section
variable {P : Program} {W : World} {n : Nat} {e : Tm} {ds : List Deferred} {σ σ' Fr F : List Chunk}
section ops
variable {dst : Option Tmp} {ty : TypeId} {pos : String} {aft : Array Edge} {g : Option (Nat × Bool)}
def plainV : Value → Bool
  | .nilIface | .agg _ => false
  | _ => true
theorem run_eqGuard {op : BinOp} {t : TypeId} {x y : Operand} {a b : Value} (ha : plainV a = true) (w : World) : (eqGuard op t x y a b).run P w = .ok () w := by
  unfold eqGuard
  cases a <;> simp [plainV] at ha <;> cases b <;> cases op <;> simp
theorem Pu.binop {op : BinOp} {x y : Operand} {t t' : TypeId} {a b r : Value} (hx : Tm.ev e x = some a) (hy : Tm.ev e y = some b) (ha : plainV a = true)
    (hr : ∀ w, (binOp op t a b).run P w = .ok r w) : Pu P n ⟨dst, .binOp op t x y t', ty, pos, aft, g⟩ e r := fun ds ac hac w => by
  simp only [execOp, hac.ev hx, hac.ev hy, Sem.run_bind, run_eqGuard ha, hr, Result.andThen_ok, Sem.run_pure]
theorem Pu.eqNilT {x y : Operand} {t t' el : TypeId} {s b : Nat} {z : List Value} [h : Ty P t (.slice el) s b z] (hx : Tm.ev e x = some (.slice none 0 0)) (hy : Tm.ev e y = some (.slice none 0 0)) :
    Pu P n ⟨dst, .binOp .eql t x y t', ty, pos, aft, g⟩ e (.bool true) :=
  Pu.binop hx hy rfl fun w => by simpa using Lib.run_eql_slice_nil w t el none 0 0 0 0 h.u
theorem Pu.neNilF {x y : Operand} {t t' el : TypeId} {s b : Nat} {z : List Value} [h : Ty P t (.slice el) s b z] (hx : Tm.ev e x = some (.slice none 0 0)) (hy : Tm.ev e y = some (.slice none 0 0)) :
    Pu P n ⟨dst, .binOp .neq t x y t', ty, pos, aft, g⟩ e (.bool false) :=
  Pu.binop hx hy rfl fun w => by simpa using run_neq_slice_nil_any w t el none 0 0 0 0 h.u
theorem len_some {v : Value} {m : Nat} (hl : Len W σ v m) (hne : v ≠ .slice none 0 0) {w : World} (hs : St W σ w) : ∃ ad c, v = .slice (some ad) m c := by
  obtain ⟨a, c, rfl, _, h⟩ := hl w hs
  cases a with
  | none => obtain ⟨rfl, rfl⟩ := h rfl; exact absurd rfl hne
  | some ad => exact ⟨ad, c, rfl⟩
theorem Rd.eqNilF {x y : Operand} {t t' el : TypeId} {v : Value} {m s b : Nat} {z : List Value} [h : Ty P t (.slice el) s b z] (hx : Tm.ev e x = some v) (hy : Tm.ev e y = some (.slice none 0 0)) (hl : Len W σ v m) (hne : v ≠ .slice none 0 0) :
    Rd P W n ⟨dst, .binOp .eql t x y t', ty, pos, aft, g⟩ e σ (.bool false) := fun ds ac hac w hs => by
  obtain ⟨ad, c, rfl⟩ := len_some hl hne hs
  exact Pu.binop hx hy rfl (fun w => by simpa using Lib.run_eql_slice_nil w t el (some ad) m c 0 0 h.u) ds ac hac w
theorem Rd.neNilT {x y : Operand} {t t' el : TypeId} {v : Value} {m s b : Nat} {z : List Value} [h : Ty P t (.slice el) s b z] (hx : Tm.ev e x = some v) (hy : Tm.ev e y = some (.slice none 0 0)) (hl : Len W σ v m) (hne : v ≠ .slice none 0 0) :
    Rd P W n ⟨dst, .binOp .neq t x y t', ty, pos, aft, g⟩ e σ (.bool true) := fun ds ac hac w hs => by
  obtain ⟨ad, c, rfl⟩ := len_some hl hne hs
  exact Pu.binop hx hy rfl (fun w => by simpa using run_neq_slice_nil_any w t el (some ad) m c 0 0 h.u) ds ac hac w
theorem Pu.eqPtrNil {x y : Operand} {t t' el : TypeId} {p : Option Addr} {s b : Nat} {z : List Value} [h : Ty P t (.pointer el) s b z] (hx : Tm.ev e x = some (.pointer p)) (hy : Tm.ev e y = some (.pointer none)) :
    Pu P n ⟨dst, .binOp .eql t x y t', ty, pos, aft, g⟩ e (.bool p.isNone) :=
  Pu.binop hx hy rfl fun w => by
    have hp : P.underlying t = some (.pointer (P.pointee t)) := by simp [Program.pointee, h.u]
    simpa using run_eql_pointer_nil w t p hp
theorem Pu.eqBool {x y : Operand} {t t' : TypeId} {p q : Bool} {s b : Nat} {z : List Value} [h : Ty P t .bool s b z] (hx : Tm.ev e x = some (.bool p)) (hy : Tm.ev e y = some (.bool q)) :
    Pu P n ⟨dst, .binOp .eql t x y t', ty, pos, aft, g⟩ e (.bool (p == q)) :=
  Pu.binop hx hy rfl fun w => by simpa using run_eql_bool w t p q h.u
theorem SLo.buildSlice1 {K : Value → List Chunk → Prop} {t el : Nat} {parts : Array (Nat × Operand)} {ps : List (Nat × Value)} {cs : List Value} {d : TypeDesc} {s b s' b' : Nat} {z z' : List Value} [h : Ty P t (.slice el) s b z] [h' : Ty P el d s' b' z']
    (hpos : Nat.blt 0 s' = true) (hsm : Nat.ble s' 1000 = true) (hp : Tm.evp e parts.toList = some ps) (hf : fillL (fun i => some (i * s', s')) (zerosL z' (1 * s')) ps = some cs) (hl : cs.length = s')
    (k : ∀ v, v ≠ .slice none 0 0 → K v (.row v el s' [cs] :: σ)) : SLo P W n ⟨dst, .buildSlice t 1 parts, ty, pos, aft, g⟩ e σ K :=
  SLo.buildSlice (es := [cs]) (by have := Nat.blt_eq ▸ hpos; omega) (by have := Nat.le_of_ble_eq_true hsm; omega) hp (by simpa using hl) rfl (by simpa using hf) k
/-- The cells of a value, known where the chunks are owned. -/
def Cel (W : World) (σ : List Chunk) (v : Value) (cs : List Value) : Prop := ∀ w, St W σ w → v.cells = cs.toArray
theorem Cel.agg {cs : List Value} : Cel W σ (.agg cs.toArray) cs := fun _ _ => rfl
theorem Cel.one {v : Value} (h : One W σ v) : Cel W σ v [v] := fun w hs => by
  have := h w hs
  cases v <;> first | rfl | simp [Value.oneCell'] at this
inductive CellsW (W : World) (σ : List Chunk) : List (Nat × Value) → List (Nat × List Value) → Prop
  | nil : CellsW W σ [] []
  | cons {i : Nat} {v : Value} {cs : List Value} {r : List (Nat × Value)} {r' : List (Nat × List Value)} : Cel W σ v cs → CellsW W σ r r' → CellsW W σ ((i, v) :: r) ((i, cs) :: r')
def fillC (pl : Nat → Option (Nat × Nat)) (z : List Value) : List (Nat × List Value) → Option (List Value)
  | [] => some z
  | (i, vs) :: r => match pl i with
    | none => none
    | some (off, size) => if vs.length = size ∧ off + vs.length ≤ z.length then fillC pl (splice z off vs) r else none
theorem fillC_eq {pl : Nat → Option (Nat × Nat)} {w : World} (hs : St W σ w) : ∀ {ps : List (Nat × Value)} {cps : List (Nat × List Value)} (_ : CellsW W σ ps cps) (z : List Value), fillC pl z cps = fillL pl z ps
  | _, _, .nil, z => rfl
  | _, _, .cons (i := i) hc hr, z => by
    have h := hc w hs
    simp only [fillC, fillL]
    cases pl i with
    | none => rfl
    | some p => obtain ⟨off, size⟩ := p; simp only [h]; rw [fillC_eq hs hr]
theorem Rd.build {t : TypeId} {parts : Array (Nat × Operand)} {pl : List (Nat × Nat)} {ps : List (Nat × Value)} {cps : List (Nat × List Value)} {cs : List Value} {d : TypeDesc} {s b : Nat} {z : List Value} [h : Places P t pl] [h' : Ty P t d s b z]
    (hp : Tm.evp e parts.toList = some ps) (hc : CellsW W σ ps cps) (hf : fillC (fun i => pl[i]?) z cps = some cs) : Rd P W n ⟨dst, .build t parts, ty, pos, aft, g⟩ e σ (.agg cs.toArray) :=
  fun ds a ha w hs => Pu.build (P := P) (n := n) (e := e) hp (by rw [← fillC_eq hs hc]; exact hf) ds a ha w
theorem SLo.buildSliceC {K : Value → List Chunk → Prop} {t el len : Nat} {parts : Array (Nat × Operand)} {ps : List (Nat × Value)} {cps : List (Nat × List Value)} {es : List (List Value)} {d : TypeDesc} {s b s' b' : Nat} {z z' : List Value} [h : Ty P t (.slice el) s b z] [h' : Ty P el d s' b' z']
    (hpos : 0 < len * s') (hsm : len * s' ≤ 2 ^ 24) (hp : Tm.evp e parts.toList = some ps) (hc : CellsW W σ ps cps) (hes : ∀ c ∈ es, c.length = s') (hlen : es.length = len)
    (hf : fillC (fun i => some (i * s', s')) (zerosL z' (len * s')) cps = some es.flatten) (k : ∀ v, v ≠ .slice none 0 0 → K v (.row v el s' es :: σ)) :
    SLo P W n ⟨dst, .buildSlice t len parts, ty, pos, aft, g⟩ e σ K := by
  intro ds a w ha hs
  exact SLo.buildSlice (P := P) (n := n) (e := e) hpos hsm hp hes hlen (by rw [← fillC_eq hs hc]; exact hf) k ds a w ha hs
theorem SLo.boxC {K : Value → List Chunk → Prop} {t : TypeId} {x : Operand} {v : Value} {cs : List Value} (hx : Tm.ev e x = some v) (hc : Cel W σ v cs) (k : ∀ b, K (.pointer (some ⟨b, 0, none⟩)) (.blk b t cs :: σ)) :
    SLo P W n ⟨dst, .box t x, ty, pos, aft, g⟩ e σ K := by
  intro ds a w ha hs
  exact SLo.box (P := P) (n := n) (e := e) hx (hc w hs) k ds a w ha hs
end ops
theorem Ent.appR {l : List Chunk} : Ent (l ++ F) F := by
  induction l with
  | nil => exact .refl
  | cons c l ih => exact .skip ih
end
end Go.Sl
namespace Go.Sl
theorem ij0 : (0 : Int) = ((0 : Nat) : Int) := rfl
theorem ij1 : (1 : Int) = ((1 : Nat) : Int) := rfl
theorem ij2 : (2 : Int) = ((2 : Nat) : Int) := rfl
theorem ij3 : (3 : Int) = ((3 : Nat) : Int) := rfl
theorem ij4 : (4 : Int) = ((4 : Nat) : Int) := rfl
theorem ij5 : (5 : Int) = ((5 : Nat) : Int) := rfl
end Go.Sl
