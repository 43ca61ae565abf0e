/- Floats by their bits: real.Bits, the reference's Bits, Same of both; SameInts. -/
import Derived.Test.YtloeicnadchkpaaMSame
import Derived.Laws.Externs
namespace Go.Sl
open Go.Proofs Go.RowKit

section
variable {W : World} {n : Nat} {e : Tm} {σ : List Chunk} {dst : Option Tmp} {ty : TypeId} {pos : String} {aft : Array Edge} {g : Option (Nat × Bool)}
theorem Pu.neqFloat {P : Program} {x y : Operand} {t t' : TypeId} {k : FloatKind} {a b : Nat} (hx : Tm.ev e x = some (.float k a)) (hy : Tm.ev e y = some (.float k b)) :
    Pu P n ⟨dst, .binOp .neq t x y t', ty, pos, aft, g⟩ e (.bool (k.format.order a b != some .eq)) :=
  Pu.binop hx hy rfl fun w => by simp [Go.binOp, Op.floatCmp]
set_option maxRecDepth 100000 in
theorem find108 : Extern.find Try.f108 = some Extern.MathFloatBits.float64bits := by kernel_rfl
theorem Pu.float64bits {x : Operand} {ts : Array TypeId} {a : Nat} (hx : Tm.ev e x = some (.float .f64 a)) :
    Pu Try.prog n ⟨dst, .call ⟨.value (.func 108), #[x], ts⟩, ty, pos, aft, g⟩ e (.int .u64 a) := fun ds ac ha w => by
  have h := run_callFunc_extern (P := Try.prog) (f := 108) Try.func108 (by kernel_rfl) (by kernel_rfl) (by kernel_rfl) find108 #[.float .f64 a] w
  have he : (Extern.MathFloatBits.float64bits #[.float .f64 a]).run Try.prog w = .ok (.int .u64 a) w := rfl
  rw [he] at h
  simp only [Result.andThen_ok] at h
  have hf : ac.eval (.func 108) = .func (.func 108) #[] #[] := rfl
  simp only [execOp, resolve, Deferred.ofValue, hf, Sem.run_bind, Sem.run_pure, Result.andThen_ok, invoke]
  simp [ha.ev hx, h]
end
attribute [local irreducible] SLc SLl SLo SLf Pu Rd
def fbits (x : Nat) : Int := if (FloatKind.f64.format.order x x != some .eq) = true then 9221120237041090561 else x
theorem Bits106_ok (W : World) (F : List Chunk) (x : Nat) : SLf Try.prog W 106 [.float .f64 x] F (fun v σ => v = .int .u64 (fbits x) ∧ σ = F) := by
  refine SLf.enter Try.func106 rfl (Nat.le_of_ble_eq_true rfl) ?_
  (repeat' (first | (first | refine SLl.nil ?_ | ((show SLl _ _ _ _ _ (⟨⟨_, _, _, _, _, _⟩, _, _⟩ :: _) _ _ _); refine SLl.ev rfl rfl rfl rfl ?_)) | (first | refine SLc.seq ?_ | refine SLc.region rfl ?_)))
  refine SLl.pu rfl rfl rfl (Pu.neqFloat rfl rfl) ?_
  unfold fbits
  cases (FloatKind.f64.format.order x x != some .eq) with
  | true =>
    (repeat' (first | (first | refine SLl.nil ?_ | ((show SLl _ _ _ _ _ (⟨⟨_, _, _, _, _, _⟩, _, _⟩ :: _) _ _ _); refine SLl.ev rfl rfl rfl rfl ?_)) | (first | refine SLc.seq ?_ | refine SLc.region rfl ?_ | refine SLc.condT rfl ?_ | refine SLc.ret ?_)))
    (refine And.intro rfl (Exists.intro _ (Exists.intro _ (And.intro rfl (And.intro ?_ (And.intro ?_ rfl))))); (· (repeat' (exact Ent.refl))); (try rfl))
  | false =>
    (repeat' (first | (first | refine SLl.nil ?_ | ((show SLl _ _ _ _ _ (⟨⟨_, _, _, _, _, _⟩, _, _⟩ :: _) _ _ _); refine SLl.ev rfl rfl rfl rfl ?_)) | (first | refine SLc.seq ?_ | refine SLc.region rfl ?_ | refine SLc.condF rfl ?_ | refine SLc.skip ?_)))
    refine SLl.pu rfl rfl rfl (Pu.float64bits rfl) ?_
    (repeat' (first | (first | refine SLl.nil ?_ | ((show SLl _ _ _ _ _ (⟨⟨_, _, _, _, _, _⟩, _, _⟩ :: _) _ _ _); refine SLl.ev rfl rfl rfl rfl ?_)) | (refine SLc.ret ?_)))
    (refine And.intro rfl (Exists.intro _ (Exists.intro _ (And.intro rfl (And.intro ?_ (And.intro ?_ rfl))))); (· (repeat' (exact Ent.refl))); (try rfl))
theorem Bits107_ok (W : World) (F : List Chunk) (x : Nat) : SLf Try.prog W 107 [.float .f64 x] F (fun v σ => v = .int .u64 (fbits x) ∧ σ = F) := by
  refine SLf.enter Try.func107 rfl (Nat.le_of_ble_eq_true rfl) ?_
  (repeat' (first | (first | refine SLl.nil ?_ | ((show SLl _ _ _ _ _ (⟨⟨_, _, _, _, _, _⟩, _, _⟩ :: _) _ _ _); refine SLl.ev rfl rfl rfl rfl ?_)) | (first | refine SLc.seq ?_ | refine SLc.region rfl ?_)))
  refine SLl.pu rfl rfl rfl (Pu.neqFloat rfl rfl) ?_
  unfold fbits
  cases (FloatKind.f64.format.order x x != some .eq) with
  | true =>
    (repeat' (first | (first | refine SLl.nil ?_ | ((show SLl _ _ _ _ _ (⟨⟨_, _, _, _, _, _⟩, _, _⟩ :: _) _ _ _); refine SLl.ev rfl rfl rfl rfl ?_)) | (first | refine SLc.seq ?_ | refine SLc.region rfl ?_ | refine SLc.condT rfl ?_ | refine SLc.ret ?_)))
    (refine And.intro rfl (Exists.intro _ (Exists.intro _ (And.intro rfl (And.intro ?_ (And.intro ?_ rfl))))); (· (repeat' (exact Ent.refl))); (try rfl))
  | false =>
    (repeat' (first | (first | refine SLl.nil ?_ | ((show SLl _ _ _ _ _ (⟨⟨_, _, _, _, _, _⟩, _, _⟩ :: _) _ _ _); refine SLl.ev rfl rfl rfl rfl ?_)) | (first | refine SLc.seq ?_ | refine SLc.region rfl ?_ | refine SLc.condF rfl ?_ | refine SLc.skip ?_)))
    refine SLl.pu rfl rfl rfl (Pu.float64bits rfl) ?_
    (repeat' (first | (first | refine SLl.nil ?_ | ((show SLl _ _ _ _ _ (⟨⟨_, _, _, _, _, _⟩, _, _⟩ :: _) _ _ _); refine SLl.ev rfl rfl rfl rfl ?_)) | (refine SLc.ret ?_)))
    (refine And.intro rfl (Exists.intro _ (Exists.intro _ (And.intro rfl (And.intro ?_ (And.intro ?_ rfl))))); (· (repeat' (exact Ent.refl))); (try rfl))
theorem FSame102_ok (W : World) (F : List Chunk) (x y : Nat) : SLf Try.prog W 102 [.float .f64 x, .float .f64 y] F (fun v σ => v = .bool (decide (fbits x = fbits y)) ∧ σ = F) := by
  refine SLf.enter Try.func102 rfl (Nat.le_of_ble_eq_true rfl) ?_
  (repeat' (first | (first | refine SLl.nil ?_ | ((show SLl _ _ _ _ _ (⟨⟨_, _, _, _, _, _⟩, _, _⟩ :: _) _ _ _); refine SLl.ev rfl rfl rfl rfl ?_)) | (first | refine SLc.seq ?_ | refine SLc.region rfl ?_)))
  refine SLl.seq rfl rfl (SLo.call plain106 rfl (SLf.mono (Bits106_ok W _ x) ?_))
  rintro v σ ⟨rfl, rfl⟩
  (repeat' ((((show SLl _ _ _ _ _ (⟨⟨_, _, _, _, _, _⟩, _, _⟩ :: _) _ _ _); refine SLl.ev rfl rfl rfl rfl ?_))))
  refine SLl.seq rfl rfl (SLo.call plain106 rfl (SLf.mono (Bits106_ok W _ y) ?_))
  rintro v σ ⟨rfl, rfl⟩
  (repeat' (first | (first | refine SLl.nil ?_ | ((show SLl _ _ _ _ _ (⟨⟨_, _, _, _, _, _⟩, _, _⟩ :: _) _ _ _); first | refine SLl.ev rfl rfl rfl rfl ?_ | ((show SLl _ _ _ _ _ (⟨⟨_, .binOp _ _ _ _ _, _, _, _, _⟩, _, _⟩ :: _) _ _ _); ((refine SLl.cmp rfl rfl rfl rfl rfl rfl ?_ ?_ <;> intro hq <;> simp only [cmpP] at hq <;> try (fail)))))) | (refine SLc.ret ?_)))
  · refine And.intro rfl (Exists.intro _ (Exists.intro _ (And.intro rfl (And.intro .refl (And.intro (by rw [decide_eq_true (by assumption)]; rfl) rfl)))))
  · refine And.intro rfl (Exists.intro _ (Exists.intro _ (And.intro rfl (And.intro .refl (And.intro (by rw [decide_eq_false (by assumption)]; rfl) rfl)))))
theorem FSame104_ok (W : World) (F : List Chunk) (x y : Nat) : SLf Try.prog W 104 [.float .f64 x, .float .f64 y] F (fun v σ => v = .bool (decide (fbits x = fbits y)) ∧ σ = F) := by
  refine SLf.enter Try.func104 rfl (Nat.le_of_ble_eq_true rfl) ?_
  (repeat' (first | (first | refine SLl.nil ?_ | ((show SLl _ _ _ _ _ (⟨⟨_, _, _, _, _, _⟩, _, _⟩ :: _) _ _ _); refine SLl.ev rfl rfl rfl rfl ?_)) | (first | refine SLc.seq ?_ | refine SLc.region rfl ?_)))
  refine SLl.seq rfl rfl (SLo.call plain107 rfl (SLf.mono (Bits107_ok W _ x) ?_))
  rintro v σ ⟨rfl, rfl⟩
  (repeat' ((((show SLl _ _ _ _ _ (⟨⟨_, _, _, _, _, _⟩, _, _⟩ :: _) _ _ _); refine SLl.ev rfl rfl rfl rfl ?_))))
  refine SLl.seq rfl rfl (SLo.call plain107 rfl (SLf.mono (Bits107_ok W _ y) ?_))
  rintro v σ ⟨rfl, rfl⟩
  (repeat' (first | (first | refine SLl.nil ?_ | ((show SLl _ _ _ _ _ (⟨⟨_, _, _, _, _, _⟩, _, _⟩ :: _) _ _ _); first | refine SLl.ev rfl rfl rfl rfl ?_ | ((show SLl _ _ _ _ _ (⟨⟨_, .binOp _ _ _ _ _, _, _, _, _⟩, _, _⟩ :: _) _ _ _); ((refine SLl.cmp rfl rfl rfl rfl rfl rfl ?_ ?_ <;> intro hq <;> simp only [cmpP] at hq <;> try (fail)))))) | (refine SLc.ret ?_)))
  · refine And.intro rfl (Exists.intro _ (Exists.intro _ (And.intro rfl (And.intro .refl (And.intro (by rw [decide_eq_true (by assumption)]; rfl) rfl)))))
  · refine And.intro rfl (Exists.intro _ (Exists.intro _ (And.intro rfl (And.intro .refl (And.intro (by rw [decide_eq_false (by assumption)]; rfl) rfl)))))
theorem SameInts_ok (W : World) (F : List Chunk) (av bv : Value) (a b : List Int) (ha : Rs W F av 1 (ints a)) (hb : Rs W F bv 1 (ints b)) (hlb : b.length ≤ 140737488355328) :
    SLf Try.prog W 103 [av, bv] F (fun v σ => v = .bool (decide (a = b)) ∧ σ = F) := by
  have hal := @ints_len a
  have hbl := @ints_len b
  refine SLf.enter Try.func103 rfl (Nat.le_of_ble_eq_true rfl) ?_
  (repeat' (first | (first | refine SLl.nil ?_ | ((show SLl _ _ _ _ _ (⟨⟨_, _, _, _, _, _⟩, _, _⟩ :: _) _ _ _); first | refine SLl.ev rfl rfl rfl rfl ?_ | ((show SLl _ _ _ _ _ (⟨⟨_, .call ⟨.builtin .len, _, _⟩, _, _, _, _⟩, _, _⟩ :: _) _ _ _); refine SLl.rdSeq rfl rfl (Rd.len rfl (by ((apply Len.rs; exact Rs.mono (by assumption) (by (repeat' (exact Ent.refl))))))) ?_) | ((show SLl _ _ _ _ _ (⟨⟨_, .binOp _ _ _ _ _, _, _, _, _⟩, _, _⟩ :: _) _ _ _); ((refine SLl.cmp rfl rfl rfl rfl rfl rfl ?_ ?_ <;> intro hq <;> simp only [cmpP] at hq <;> try (fail)))))) | (first | refine SLc.seq ?_ | refine SLc.region rfl ?_ | refine SLc.condT rfl ?_ | refine SLc.condF rfl ?_ | refine SLc.block ?_ | refine SLc.skip ?_ | refine SLc.ret ?_)))
  · have hne : a ≠ b := fun h => by subst h; omega
    refine And.intro rfl (Exists.intro _ (Exists.intro _ (And.intro rfl (And.intro .refl (And.intro (by rw [decide_eq_false hne]; rfl) rfl)))))
  · refine SLc.loop (ι := Nat) (fun k => [(5, .int .i64 k), (1, bv), (0, av)]) (fun _ => F) (fun k => k ≤ a.length ∧ ∀ i, i < k → a[i]? = b[i]?) (fun k => a.length - k) 0 ⟨Nat.zero_le _, by omega⟩ (by (repeat' (first | exact trivial | apply And.intro | rfl))) .refl ?_
    rintro k ⟨hk, heq⟩
    by_cases hlt : k < a.length
    · have hx : a[k]? = some a[k] := List.getElem?_eq_getElem hlt
      have hy : b[k]? = some (b[k]'(by omega)) := List.getElem?_eq_getElem (by omega)
      generalize a[k] = x at hx
      generalize b[k]'(by omega) = y at hy
      have hxc := ints_at hx
      have hyc := ints_at hy
      (repeat' (first | (first | refine SLl.nil ?_ | ((show SLl _ _ _ _ _ (⟨⟨_, _, _, _, _, _⟩, _, _⟩ :: _) _ _ _); first | refine SLl.ev rfl rfl rfl rfl ?_ | ((show SLl _ _ _ _ _ (⟨⟨_, .call ⟨.builtin .len, _, _⟩, _, _, _, _⟩, _, _⟩ :: _) _ _ _); refine SLl.rdSeq rfl rfl (Rd.len rfl (by ((apply Len.rs; exact Rs.mono (by assumption) (by (repeat' (exact Ent.refl))))))) ?_) | ((show SLl _ _ _ _ _ (⟨⟨_, .binOp _ _ _ _ _, _, _, _, _⟩, _, _⟩ :: _) _ _ _); ((refine SLl.cmp rfl rfl rfl rfl rfl rfl ?_ ?_ <;> intro hq <;> simp only [cmpP] at hq <;> try ((exfalso; omega))))))) | (first | refine SLc.seq ?_ | refine SLc.region rfl ?_ | refine SLc.condT rfl ?_ | refine SLc.block ?_ | refine SLc.skip ?_)))
      refine SLc.drawsI _ (List.replicate 9 .take) mixed (by kernel_rfl) .refl ?_
      (repeat' (first | (first | refine SLl.nil ?_ | ((show SLl _ _ _ _ _ (⟨⟨_, _, _, _, _, _⟩, _, _⟩ :: _) _ _ _); first | refine SLl.ev rfl rfl rfl rfl ?_ | ((show SLl _ _ _ _ _ (⟨⟨_, .load _ _, _, _, _, _⟩, _, _⟩ :: _) _ _ _); (refine SLl.rdTake rfl rfl (Rd.load rfl rfl (by ((apply Reads.rs; (· exact Rs.mono (by assumption) (by (repeat' (exact Ent.refl)))); (· (assumption)); (· rfl))))) ?_)) | ((show SLl _ _ _ _ _ (⟨⟨_, .indexAddr _ _ _, _, _, _, _⟩, _, _⟩ :: _) _ _ _); (refine SLl.rdTake rfl rfl (Rd.indexAddr rfl rfl (by ((apply Len.rs; exact Rs.mono (by assumption) (by (repeat' (exact Ent.refl)))))) (by (rfl)) (by omega)) ?_)) | ((show SLl _ _ _ _ _ (⟨⟨_, .binOp _ _ _ _ _, _, _, _, _⟩, _, _⟩ :: _) _ _ _); (first | refine SLl.pu rfl rfl rfl (Pu.add rfl rfl (IntWalk.i64_in _ (by omega))) ?_ | (refine SLl.cmp rfl rfl rfl rfl rfl rfl ?_ ?_ <;> intro hq <;> simp only [cmpP] at hq <;> try (fail)))))) | (first | refine SLc.seq ?_ | refine SLc.region rfl ?_ | refine SLc.condT rfl ?_ | refine SLc.condF rfl ?_ | refine SLc.skip ?_ | refine SLc.ret ?_)))
      · (repeat' (fail))
        have hne : a ≠ b := fun h => by subst h; rw [hx] at hy; cases hy; omega
        refine And.intro rfl (Exists.intro _ (Exists.intro _ (And.intro rfl (And.intro .refl (And.intro (by rw [decide_eq_false hne]; rfl) rfl)))))
      · (repeat' (fail))
        refine And.intro rfl (Exists.intro (k + 1) (And.intro ⟨by omega, fun i hi => ?_⟩ (And.intro (by omega) (And.intro (by (repeat' (first | exact trivial | apply And.intro | rfl))) .refl))))
        by_cases h : i = k
        · subst h; rw [hx, hy]; congr 1; omega
        · exact heq i (by omega)
    · have he : a = b := List.ext_getElem? fun i => by
        rcases Nat.lt_or_ge i k with h | h
        · exact heq i h
        · rw [List.getElem?_eq_none (by omega), List.getElem?_eq_none (by omega)]
      (repeat' (first | (first | refine SLl.nil ?_ | ((show SLl _ _ _ _ _ (⟨⟨_, _, _, _, _, _⟩, _, _⟩ :: _) _ _ _); first | refine SLl.ev rfl rfl rfl rfl ?_ | ((show SLl _ _ _ _ _ (⟨⟨_, .call ⟨.builtin .len, _, _⟩, _, _, _, _⟩, _, _⟩ :: _) _ _ _); refine SLl.rdSeq rfl rfl (Rd.len rfl (by ((apply Len.rs; exact Rs.mono (by assumption) (by (repeat' (exact Ent.refl))))))) ?_) | ((show SLl _ _ _ _ _ (⟨⟨_, .binOp _ _ _ _ _, _, _, _, _⟩, _, _⟩ :: _) _ _ _); ((refine SLl.cmp rfl rfl rfl rfl rfl rfl ?_ ?_ <;> intro hq <;> simp only [cmpP] at hq <;> try ((exfalso; omega))))))) | (first | refine SLc.seq ?_ | refine SLc.region rfl ?_ | refine SLc.condF rfl ?_ | refine SLc.exit ?_ | refine SLc.ret ?_)))
      refine And.intro rfl (Exists.intro _ (Exists.intro _ (And.intro rfl (And.intro .refl (And.intro (by rw [decide_eq_true he]; rfl) rfl)))))
end Go.Sl
