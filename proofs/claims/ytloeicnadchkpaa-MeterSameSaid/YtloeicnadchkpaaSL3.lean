/- Rules for single operations. -/
import Derived.Test.YtloeicnadchkpaaSL2
import Derived.Laws.Sem
import Derived.Laws.Entries
import Derived.Laws.Cells
import Derived.Laws.Pointers
import Derived.Laws.Small
import Derived.Laws.Cover3
import Derived.WalkSpells
namespace Go.Sl
open Go.RowKit

class Ty (P : Program) (t : TypeId) (d : outParam TypeDesc) (size bytes : outParam Nat) (zero : outParam (List Value)) : Prop where
  u : P.underlying t = some d
  info : ∃ i z, P.info? t = some i ∧ i.size = size ∧ i.bytes = bytes ∧ i.zero = some z ∧ z.cells.toList = zero
class Fld (P : Program) (t : TypeId) (i : Nat) (off : outParam Nat) (ft : outParam TypeId) : Prop where
  f : ∃ fs f, P.underlying t = some (.struct fs) ∧ fs[i]? = some f ∧ f.offset = off ∧ f.type = ft ∧ P.cellsOf ft ≠ 0 ∧ (P.info? ft).isSome = true

section
variable {P : Program} {W : World} {n : Nat} {e : Tm} {ds : List Deferred} {σ Fr : List Chunk} {K : Tm → List Deferred → List Chunk → Prop}

theorem Ty.underlying {t : TypeId} {d : TypeDesc} {s b : Nat} {z : List Value} (h : Ty P t d s b z) (w : World) : (underlying t).run P w = .ok d w := run_underlying h.u w
theorem Ty.sizeOf {t : TypeId} {d : TypeDesc} {s b : Nat} {z : List Value} (h : Ty P t d s b z) (w : World) : (sizeOf t).run P w = .ok s w := by
  obtain ⟨i, z, hi, hs, _⟩ := h.info
  simp [Go.sizeOf, typeInfo, hi, hs]
theorem Ty.bytesOf {t : TypeId} {d : TypeDesc} {s b : Nat} {z : List Value} (h : Ty P t d s b z) : ∃ i, P.info? t = some i ∧ i.bytes = b := by
  obtain ⟨i, z, hi, _, hb, _⟩ := h.info
  exact ⟨i, hi, hb⟩
theorem Ty.zeroValue {t : TypeId} {d : TypeDesc} {s b : Nat} {z : List Value} (h : Ty P t d s b z) (w : World) : ∃ v, (zeroValue t).run P w = .ok v w ∧ v.cells.toList = z := by
  obtain ⟨i, v, hi, _, _, hv, hz⟩ := h.info
  exact ⟨v, by simp [Go.zeroValue, typeInfo, hi, hv], hz⟩

/-! ### What an operation yields: in every world; where chunks are owned -/
def Pu (P : Program) (n : Nat) (o : Oper) (e : Tm) (v : Value) : Prop := ∀ ds a, Agree n e ds a → ∀ w, (execOp a.eval o).run P w = .ok (.value v) w
def Rd (P : Program) (W : World) (n : Nat) (o : Oper) (e : Tm) (σ : List Chunk) (v : Value) : Prop := ∀ ds a, Agree n e ds a → ∀ w, St W σ w → (execOp a.eval o).run P w = .ok (.value v) w
theorem Pu.rd {o : Oper} {v : Value} (h : Pu P n o e v) : Rd P W n o e σ v := fun ds a ha w _ => h ds a ha w
theorem Rd.slo {o : Oper} {v : Value} {K : Value → List Chunk → Prop} (h : Rd P W n o e σ v) (k : K v σ) : SLo P W n o e σ K := by
  intro ds a w ha hs
  unfold Oper.wp
  rw [h ds a ha w hs]
  exact ⟨v, σ, k, rfl, hs⟩

def Flag.quiet : Flag → Bool
  | .eff _ => false
  | _ => true
theorem SLl.nil (h : K e ds σ) : SLl P W n Fr K [] e ds σ := h
section rules
variable {d : Nat} {op : Op} {ty : TypeId} {pos : String} {aft : Array Edge} {g' g : Option (Nat × Bool)} {r : List Item}
theorem SLl.skip {f : Flag} (hw : wantedBy e g = some false) (hd : Nat.blt d n = true) (k : SLl P W n Fr K r ((d, undef) :: e) ds σ) : SLl P W n Fr K (⟨⟨some d, op, ty, pos, aft, g'⟩, g, f⟩ :: r) e ds σ :=
  ⟨hd, .inl ⟨hw, k⟩⟩
theorem SLl.pu {f : Flag} {v : Value} (hq : f.quiet = true) (hw : wantedBy e g = some true) (hd : Nat.blt d n = true)
    (h : Pu P n ⟨some d, op, ty, pos, aft, g'⟩ e v) (k : SLl P W n Fr K r ((d, v) :: e) ds σ) : SLl P W n Fr K (⟨⟨some d, op, ty, pos, aft, g'⟩, g, f⟩ :: r) e ds σ := by
  refine ⟨hd, .inr ⟨hw, ?_⟩⟩
  cases f with
  | seq => exact .inl (Rd.slo h.rd k)
  | free => exact ⟨v, fun a w ha => h ds a ha w, k⟩
  | take => exact ⟨v, fun a w ha _ => h ds a ha w, k⟩
  | eff b => simp [Flag.quiet] at hq
theorem SLl.rdSeq {v : Value} (hw : wantedBy e g = some true) (hd : Nat.blt d n = true)
    (h : Rd P W n ⟨some d, op, ty, pos, aft, g'⟩ e σ v) (k : SLl P W n Fr K r ((d, v) :: e) ds σ) : SLl P W n Fr K (⟨⟨some d, op, ty, pos, aft, g'⟩, g, .seq⟩ :: r) e ds σ :=
  ⟨hd, .inr ⟨hw, .inl (Rd.slo h k)⟩⟩
theorem SLl.rdTake {v : Value} (hw : wantedBy e g = some true) (hd : Nat.blt d n = true)
    (h : Rd P W n ⟨some d, op, ty, pos, aft, g'⟩ e Fr v) (k : SLl P W n Fr K r ((d, v) :: e) ds σ) : SLl P W n Fr K (⟨⟨some d, op, ty, pos, aft, g'⟩, g, .take⟩ :: r) e ds σ :=
  ⟨hd, .inr ⟨hw, v, fun a w ha hs => h ds a ha w hs, k⟩⟩
theorem SLl.seq (hw : wantedBy e g = some true) (hd : Nat.blt d n = true)
    (h : SLo P W n ⟨some d, op, ty, pos, aft, g'⟩ e σ (fun v σ' => SLl P W n Fr K r ((d, v) :: e) ds σ')) : SLl P W n Fr K (⟨⟨some d, op, ty, pos, aft, g'⟩, g, .seq⟩ :: r) e ds σ :=
  ⟨hd, .inr ⟨hw, .inl h⟩⟩
theorem SLl.seq0 (hw : wantedBy e g = some true)
    (h : SLo P W n ⟨none, op, ty, pos, aft, g'⟩ e σ (fun _ σ' => SLl P W n Fr K r e ds σ')) : SLl P W n Fr K (⟨⟨none, op, ty, pos, aft, g'⟩, g, .seq⟩ :: r) e ds σ :=
  ⟨rfl, .inr ⟨hw, .inl h⟩⟩
theorem SLl.eff {needs : Bool} (hw : wantedBy e g = some true) (hd : Nat.blt d n = true)
    (h : SLo P W n ⟨some d, op, ty, pos, aft, g'⟩ e σ (fun v σ' => (needs = true → Ent σ' Fr) ∧ SLl P W n Fr K r ((d, v) :: e) ds σ')) : SLl P W n Fr K (⟨⟨some d, op, ty, pos, aft, g'⟩, g, .eff needs⟩ :: r) e ds σ :=
  ⟨hd, .inr ⟨hw, h⟩⟩
theorem SLl.eff0 {needs : Bool} (hw : wantedBy e g = some true)
    (h : SLo P W n ⟨none, op, ty, pos, aft, g'⟩ e σ (fun _ σ' => (needs = true → Ent σ' Fr) ∧ SLl P W n Fr K r e ds σ')) : SLl P W n Fr K (⟨⟨none, op, ty, pos, aft, g'⟩, g, .eff needs⟩ :: r) e ds σ :=
  ⟨rfl, .inr ⟨hw, h⟩⟩
theorem SLl.defer {c : Call} {v : Deferred} (hw : wantedBy e g = some true)
    (hr : ∀ ds a, Agree n e ds a → ∀ w, (resolve a.eval c ty).run P w = .ok v w) (k : SLl P W n Fr K r e (v :: ds) σ) :
    SLl P W n Fr K (⟨⟨none, .defer c, ty, pos, aft, g'⟩, g, .seq⟩ :: r) e ds σ :=
  ⟨rfl, .inr ⟨hw, .inr ⟨c, v, rfl, fun a ha w => hr ds a ha w, k⟩⟩⟩
end rules

section ops
variable {dst : Option Tmp} {ty : TypeId} {pos : String} {aft : Array Edge} {g : Option (Nat × Bool)}

theorem Pu.move {x : Operand} {v : Value} (h : Tm.ev e x = some v) : Pu P n ⟨dst, .move x, ty, pos, aft, g⟩ e v := fun ds a ha w => by
  simp [execOp, ha.ev h]
theorem Pu.assign {x : Operand} {v : Value} (h : Tm.ev e x = some v) : Pu P n ⟨dst, .assign x, ty, pos, aft, g⟩ e v := fun ds a ha w => by
  simp [execOp, ha.ev h]
theorem Pu.pickT {c x y : Operand} {v : Value} (hc : Tm.ev e c = some (.bool true)) (h : Tm.ev e x = some v) : Pu P n ⟨dst, .pick c x y, ty, pos, aft, g⟩ e v := fun ds a ha w => by
  simp [execOp, ha.ev h, ha.ev hc, asBool]
theorem Pu.pickF {c x y : Operand} {v : Value} (hc : Tm.ev e c = some (.bool false)) (h : Tm.ev e y = some v) : Pu P n ⟨dst, .pick c x y, ty, pos, aft, g⟩ e v := fun ds a ha w => by
  simp [execOp, ha.ev h, ha.ev hc, asBool]
theorem Pu.not {x : Operand} {t : TypeId} {b : Bool} (h : Tm.ev e x = some (.bool b)) : Pu P n ⟨dst, .unOp .not t x, ty, pos, aft, g⟩ e (.bool !b) := fun ds a ha w => by
  simp [execOp, ha.ev h, Op.unary]
theorem Pu.nilCheck {x : Operand} {ad : Addr} (h : Tm.ev e x = some (.pointer (some ad))) : Pu P n ⟨dst, .nilCheck x, ty, pos, aft, g⟩ e (.pointer (some ad)) := fun ds a ha w => by
  simp [execOp, ha.ev h]
theorem Pu.nilCheckF {x : Operand} {f : FuncId} {a1 a2 : Array Value} (h : Tm.ev e x = some (.func (.func f) a1 a2)) : Pu P n ⟨dst, .nilCheck x, ty, pos, aft, g⟩ e (.func (.func f) a1 a2) := fun ds a ha w => by
  simp [execOp, ha.ev h]
theorem Pu.extract {x : Operand} {i : Nat} {vs : List Value} {v : Value} (h : Tm.ev e x = some (.tuple vs.toArray)) (hi : vs[i]? = some v) : Pu P n ⟨dst, .extract x i, ty, pos, aft, g⟩ e v := fun ds a ha w => by
  simp [execOp, ha.ev h, Instr.extract, hi]
theorem Pu.makeFunc {fn : Fn} {first captured : Array Operand} {vs us : List Value} (h1 : Tm.evs e first.toList = some vs) (h2 : Tm.evs e captured.toList = some us) :
    Pu P n ⟨dst, .makeFunc fn first captured, ty, pos, aft, g⟩ e (.func fn vs.toArray us.toArray) := fun ds a ha w => by
  have e1 : first.map a.eval = vs.toArray := Array.toList_inj.1 (by rw [Array.toList_map]; exact ha.evs h1)
  have e2 : captured.map a.eval = us.toArray := Array.toList_inj.1 (by rw [Array.toList_map]; exact ha.evs h2)
  simp [execOp, Instr.makeFunc, e1, e2]

/-! Integers. -/
theorem Pu.int {op : BinOp} {x y : Operand} {t t' : TypeId} {k : IntKind} {i j r : Int} (hx : Tm.ev e x = some (.int k i)) (hy : Tm.ev e y = some (.int k j))
    (ho : op ≠ .shl ∧ op ≠ .shr ∧ op ≠ .eql ∧ op ≠ .neq) (hr : ∀ w, (binOp op t (.int k i) (.int k j)).run P w = .ok (.int k r) w) : Pu P n ⟨dst, .binOp op t x y t', ty, pos, aft, g⟩ e (.int k r) := fun ds a ha w => by
  have hg : (eqGuard op t x y (.int k i) (.int k j)).run P w = .ok () w := by
    unfold eqGuard; cases op <;> simp
  simp only [execOp, ha.ev hx, ha.ev hy, Sem.run_bind, hg, hr, Result.andThen_ok, Sem.run_pure]
theorem run_add {t : TypeId} {k : IntKind} {i j r : Int} (h : k.wrap (i + j) = r) (w : World) : (binOp .add t (.int k i) (.int k j)).run P w = .ok (.int k r) w := by
  subst h; simp [binOp, Op.intArith]
theorem run_sub {t : TypeId} {k : IntKind} {i j r : Int} (h : k.wrap (i - j) = r) (w : World) : (binOp .sub t (.int k i) (.int k j)).run P w = .ok (.int k r) w := by
  subst h; simp [binOp, Op.intArith]
theorem run_mul {t : TypeId} {k : IntKind} {i j r : Int} (h : k.wrap (i * j) = r) (w : World) : (binOp .mul t (.int k i) (.int k j)).run P w = .ok (.int k r) w := by
  subst h; simp [binOp, Op.intArith]
theorem run_rem {t : TypeId} {k : IntKind} {i j r : Int} (h0 : j ≠ 0) (h : i.tmod j = r) (w : World) : (binOp .rem t (.int k i) (.int k j)).run P w = .ok (.int k r) w := by
  subst h; simp [binOp, Op.intDiv, h0]
theorem run_quo {t : TypeId} {k : IntKind} {i j r : Int} (h0 : j ≠ 0) (h : k.wrap (i.tdiv j) = r) (w : World) : (binOp .quo t (.int k i) (.int k j)).run P w = .ok (.int k r) w := by
  subst h; simp [binOp, Op.intDiv, h0]
theorem Pu.add {x y : Operand} {t t' : TypeId} {k : IntKind} {i j r : Int} (hx : Tm.ev e x = some (.int k i)) (hy : Tm.ev e y = some (.int k j)) (hr : k.wrap (i + j) = r) :
    Pu P n ⟨dst, .binOp .add t x y t', ty, pos, aft, g⟩ e (.int k r) := .int hx hy (by simp) (run_add hr)
theorem Pu.sub {x y : Operand} {t t' : TypeId} {k : IntKind} {i j r : Int} (hx : Tm.ev e x = some (.int k i)) (hy : Tm.ev e y = some (.int k j)) (hr : k.wrap (i - j) = r) :
    Pu P n ⟨dst, .binOp .sub t x y t', ty, pos, aft, g⟩ e (.int k r) := .int hx hy (by simp) (run_sub hr)
theorem Pu.mul {x y : Operand} {t t' : TypeId} {k : IntKind} {i j r : Int} (hx : Tm.ev e x = some (.int k i)) (hy : Tm.ev e y = some (.int k j)) (hr : k.wrap (i * j) = r) :
    Pu P n ⟨dst, .binOp .mul t x y t', ty, pos, aft, g⟩ e (.int k r) := .int hx hy (by simp) (run_mul hr)
theorem Pu.rem {x y : Operand} {t t' : TypeId} {k : IntKind} {i j r : Int} (hx : Tm.ev e x = some (.int k i)) (hy : Tm.ev e y = some (.int k j)) (h0 : j ≠ 0) (hr : i.tmod j = r) :
    Pu P n ⟨dst, .binOp .rem t x y t', ty, pos, aft, g⟩ e (.int k r) := .int hx hy (by simp) (run_rem h0 hr)
theorem Pu.quo {x y : Operand} {t t' : TypeId} {k : IntKind} {i j r : Int} (hx : Tm.ev e x = some (.int k i)) (hy : Tm.ev e y = some (.int k j)) (h0 : j ≠ 0) (hr : k.wrap (i.tdiv j) = r) :
    Pu P n ⟨dst, .binOp .quo t x y t', ty, pos, aft, g⟩ e (.int k r) := .int hx hy (by simp) (run_quo h0 hr)
def cmpP : BinOp → Int → Int → Prop
  | .eql, a, b => a = b | .neq, a, b => a ≠ b | .lss, a, b => a < b | .leq, a, b => a ≤ b | .gtr, a, b => b < a | .geq, a, b => b ≤ a
  | _, _, _ => False
instance (op : BinOp) (a b : Int) : Decidable (cmpP op a b) := by cases op <;> unfold cmpP <;> infer_instance
def isCmp : BinOp → Bool
  | .eql | .neq | .lss | .leq | .gtr | .geq => true
  | _ => false
theorem Pu.cmp {op : BinOp} {x y : Operand} {t t' : TypeId} {k : IntKind} {i j : Int} (hc : isCmp op = true) (hx : Tm.ev e x = some (.int k i)) (hy : Tm.ev e y = some (.int k j)) :
    Pu P n ⟨dst, .binOp op t x y t', ty, pos, aft, g⟩ e (.bool (decide (cmpP op i j))) := fun ds a ha w => by
  have hg : (eqGuard op t x y (.int k i) (.int k j)).run P w = .ok () w := by
    unfold eqGuard; cases op <;> simp
  have hb : (binOp op t (.int k i) (.int k j)).run P w = .ok (.bool (decide (cmpP op i j))) w := by
    cases op <;> simp [isCmp] at hc <;> simp [binOp, Op.intCmp, cmpP, bne] <;> by_cases h : i = j <;> simp [h]
  simp only [execOp, ha.ev hx, ha.ev hy, Sem.run_bind, hg, hb, Result.andThen_ok, Sem.run_pure]
theorem Pu.convInt {x : Operand} {s d : TypeId} {sk : TypeDesc} {k k' : IntKind} {i r : Int} {z1 z2 z3 z4 : Nat} {q1 q2 : List Value} [h1 : Ty P s sk z1 z2 q1] [h2 : Ty P d (.int k) z3 z4 q2] (hx : Tm.ev e x = some (.int k' i)) (hr : k.wrap i = r) :
    Pu P n ⟨dst, .convert s d x, ty, pos, aft, g⟩ e (.int k r) := fun ds a ha w => by
  subst hr
  simp [execOp, ha.ev hx, convert, h1.underlying, h2.underlying, Conv.intToInt]
theorem Pu.max2 {x y : Operand} {ts : Array TypeId} {k : IntKind} {i j r : Int} (hx : Tm.ev e x = some (.int k i)) (hy : Tm.ev e y = some (.int k j)) (hr : max i j = r) :
    Pu P n ⟨dst, .call ⟨.builtin .max, #[x, y], ts⟩, ty, pos, aft, g⟩ e (.int k r) := fun ds a ha w => by
  have : (if j > i then j else i) = r := by rw [← hr, Int.max_def]; split <;> split <;> omega
  simp [execOp, ha.ev hx, ha.ev hy, resolve, invoke, builtin, Builtin.max_, Builtin.max2, this]
theorem Pu.min2 {x y : Operand} {ts : Array TypeId} {k : IntKind} {i j r : Int} (hx : Tm.ev e x = some (.int k i)) (hy : Tm.ev e y = some (.int k j)) (hr : min i j = r) :
    Pu P n ⟨dst, .call ⟨.builtin .min, #[x, y], ts⟩, ty, pos, aft, g⟩ e (.int k r) := fun ds a ha w => by
  have : (if j < i then j else i) = r := by rw [← hr, Int.min_def]; split <;> split <;> omega
  simp [execOp, ha.ev hx, ha.ev hy, resolve, invoke, builtin, Builtin.min_, Builtin.min2, this]
end ops
end
end Go.Sl
