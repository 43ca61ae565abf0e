/- Helpers: what is kept beside a lock; arrays; bits; where two ways meet. -/
import Derived.Test.YtloeicnadchkpaaStays
import Derived.Test.YtloeicnadchkpaaLaw16
namespace Go.Sl
open Go.Proofs
section
variable {P : Program} {W : World} {n : Nat} {e : Tm} {ds : List Deferred} {σ : List Chunk}
theorem SLc.join {c : Code} {R' : Tm → List Deferred → List Chunk → Prop} {Q : Post} (R : Tm → List Deferred → List Chunk → Prop) (h : SLc P W n c e ds σ (thenQ R Q)) (hr : ∀ e ds σ, R e ds σ → R' e ds σ) : SLc P W n c e ds σ (thenQ R' Q) :=
  SLc.post h fun x e ds σ hq => by
    cases x with
    | normal => exact hr _ _ _ hq
    | _ => exact hq
variable {dst : Option Tmp} {ty : TypeId} {pos : String} {aft : Array Edge} {g : Option (Nat × Bool)}
theorem Pu.shrAny {x y : Operand} {t t' : TypeId} {k yk : IntKind} {i : Int} {j : Nat} (hx : Tm.ev e x = some (.int k i)) (hy : Tm.ev e y = some (.int yk (j : Int))) : Pu P n ⟨dst, .binOp .shr t x y t', ty, pos, aft, g⟩ e (.int k (i / 2 ^ min j k.bits)) :=
  Pu.binop hx hy rfl fun w => by
    rw [Go.binOp_shr, Go.shift_shr_any k yk i (j : Int) (by omega)]
    rfl
theorem Pu.andAny {x y : Operand} {t t' : TypeId} {k : IntKind} {i j : Int} (hx : Tm.ev e x = some (.int k i)) (hy : Tm.ev e y = some (.int k j)) : Pu P n ⟨dst, .binOp .and t x y t', ty, pos, aft, g⟩ e (.int k (bits .and k i j)) :=
  Pu.binop hx hy rfl fun w => by
    rw [Go.binOp_and, Go.intBits_and]
    rfl
theorem Pu.remI {x y : Operand} {t t' : TypeId} {k : IntKind} {i j : Int} (hx : Tm.ev e x = some (.int k i)) (hy : Tm.ev e y = some (.int k j)) (h0 : j ≠ 0) : Pu P n ⟨dst, .binOp .rem t x y t', ty, pos, aft, g⟩ e (.int k (i.tmod j)) :=
  Pu.rem hx hy h0 rfl
end
attribute [local irreducible] SLc SLl SLo SLf Pu Rd

theorem SLf.to {P : Program} {W : World} {f : FuncId} {args : List Value} {σ : List Chunk} {R R' : Value → List Chunk → Prop} (h : SLf P W f args σ R) (hr : ∀ v σ, R v σ → ∃ σ', Ent σ σ' ∧ R' v σ') : SLf P W f args σ R' := by
  unfold SLf at h ⊢
  exact fun w hw => (h w hw).mono fun _ _ ⟨v, σ', h1, h2, h3⟩ => by
    obtain ⟨σ2, h4, h5⟩ := hr _ _ h2
    exact ⟨v, σ2, h1, h5, h3.ent h4⟩
theorem Ent.in2 {c1 c2 : Chunk} {l F : List Chunk} : Ent (c1 :: c2 :: (l ++ F)) (l ++ (c1 :: c2 :: F)) := .trans (.cons .here .into) .into
theorem Ent.out {c : Chunk} {l F : List Chunk} : Ent (l ++ (c :: F)) (c :: (l ++ F)) := .perm List.perm_middle
theorem Ent.out2 {c1 c2 : Chunk} {l F : List Chunk} : Ent (l ++ (c1 :: c2 :: F)) (c1 :: c2 :: (l ++ F)) := .trans .out (.cons .here .out)
theorem Take_in (W : World) (c1 c2 : Chunk) (F : List Chunk) (lb sb : Nat) (qv : Value) {L L' : Lck} {id : Int} {bv : Bool} (h : takeM L id = (bv, L')) (hn : qv = .slice none 0 0 → L.queue = []) (hl : L.queue.length ≤ 100000) :
    SLf Try.prog W 41 [ptr lb, .int .i64 id] (c1 :: c2 :: (lockC lb sb qv L ++ F)) (fun r σ => ∃ qv', r = .bool bv ∧ (qv' = .slice none 0 0 → L'.queue = []) ∧ σ = c1 :: c2 :: (lockC lb sb qv' L' ++ F)) := by
  refine SLf.ent .in2 (SLf.to (Take_at W (c1 :: c2 :: F) lb sb qv h hn (Nat.ble_eq_true_of_le hl)) ?_)
  rintro v σ ⟨q, rfl, h, rfl⟩
  exact ⟨_, .out2, q, rfl, h, rfl⟩
theorem Leave_in (W : World) (c : Chunk) (F : List Chunk) (lb sb : Nat) (qv pv lv : Value) {L L' : Lck} {m m' : Sch} {id : Int} {bv : Bool} (h : leaveM L m id = (bv, L', m')) (hn : qv = .slice none 0 0 → L.queue = []) (hl : L.queue.length ≤ 100000) :
    SLf Try.prog W 39 [ptr lb, .int .i64 id] (c :: (lockC lb sb qv L ++ (schC sb pv lv m ++ F))) (fun r σ => ∃ qv', r = .bool bv ∧ (qv' = .slice none 0 0 → L'.queue = []) ∧ σ = c :: (lockC lb sb qv' L' ++ (schC sb pv lv m' ++ F))) := by
  refine SLf.ent (.trans .into (.left _ .into)) (SLf.to (Leave_at W (c :: F) lb sb qv pv lv h hn (Nat.ble_eq_true_of_le hl)) ?_)
  rintro v σ ⟨q, rfl, h, rfl⟩
  exact ⟨_, .trans (.left _ .out) .out, q, rfl, h, rfl⟩
theorem Owner_in (W : World) (c : Chunk) (F : List Chunk) (lb sb : Nat) (qv : Value) (L : Lck) : SLf Try.prog W 40 [ptr lb] (c :: (lockC lb sb qv L ++ F)) (fun r σ => r = .int .i64 (ownerM L) ∧ σ = c :: (lockC lb sb qv L ++ F)) := by
  refine SLf.ent .into (SLf.to (Owner_ok W (c :: F) lb sb qv L) ?_)
  rintro v σ ⟨rfl, rfl⟩
  exact ⟨_, .out, rfl, rfl⟩
theorem Queue_in (W : World) (c : Chunk) (F : List Chunk) (lb sb : Nat) (qv : Value) (L : Lck) (hn : qv = .slice none 0 0 → L.queue = []) (hl : L.queue.length ≤ 1000000) :
    SLf Try.prog W 42 [ptr lb] (c :: (lockC lb sb qv L ++ F)) (fun r σ => σ = c :: .row r 3 1 (ints L.queue) :: (lockC lb sb qv L ++ F)) := by
  refine SLf.ent .into (SLf.to (Queue_ok W (c :: F) lb sb qv L hn hl) ?_)
  rintro v σ rfl
  exact ⟨_, .trans (.cons .here .out) (.cons (.there .here) .refl), rfl⟩
theorem Pu.indexArr1 {P : Program} {n : Nat} {e : Tm} {dst : Option Tmp} {ty : TypeId} {pos : String} {aft : Array Edge} {g : Option (Nat × Bool)} {x y : Operand} {t el : TypeId} {bk m j : Nat} {k : IntKind} {i : Int} {s b b' : Nat} {z z' : List Value} {d : TypeDesc} [h : Ty P t (.array m el) s b z] [h' : Ty P el d 1 b' z']
    (hx : Tm.ev e x = some (.pointer (some ⟨bk, 0, none⟩))) (hy : Tm.ev e y = some (.int k i)) (hj : i = (j : Int)) (hlt : j < m) :
    Pu P n ⟨dst, .indexAddr t x y, ty, pos, aft, g⟩ e (.pointer (some ⟨bk, j, none⟩)) := by
  have := Pu.indexArr (P := P) (n := n) (dst := dst) (ty := ty) (pos := pos) (aft := aft) (g := g) (h' := h') (h := h) hx hy hj hlt
  rwa [Nat.zero_add, Nat.mul_one] at this
theorem Stay16 (W : World) (F : List Chunk) : SLf Try.prog W 37 [] F (fun v σ => v = .int .i64 2 ∧ σ = F) := by
  refine SLf.enter Try.func37 rfl (Nat.le_of_ble_eq_true rfl) ?_
  (repeat' (first | (first | refine SLl.nil ?_ | ((show SLl _ _ _ _ _ (⟨⟨_, _, _, _, _, _⟩, _, _⟩ :: _) _ _ _); refine SLl.ev rfl rfl rfl rfl ?_)) | (first | refine SLc.seq ?_ | refine SLc.region rfl ?_ | refine SLc.ret ?_)))
  exact And.intro rfl (Exists.intro _ (Exists.intro _ (And.intro rfl (And.intro .refl (And.intro rfl rfl)))))
theorem Ent.swp {a b F : List Chunk} : Ent (a ++ (b ++ F)) (b ++ (a ++ F)) := .perm (List.perm_append_comm_assoc _ _ _)
end Go.Sl
