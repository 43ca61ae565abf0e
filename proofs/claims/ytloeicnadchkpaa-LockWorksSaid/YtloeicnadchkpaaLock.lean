/- lock: the contracts. -/
import Derived.Test.YtloeicnadchkpaaSched
import Derived.Test.YtloeicnadchkpaaReach
namespace Go.Sl
open Go.Proofs
attribute [local irreducible] SLc SLl SLo SLf Pu Rd

theorem intsL_one {l : List Int} : ∀ c ∈ ints l, c.length = 1 := fun c hc => by obtain ⟨x, _, rfl⟩ := List.mem_map.1 hc; rfl
theorem intsL_ones {W : World} {σ : List Chunk} {l : List Int} : ∀ c ∈ ints l, ∀ q ∈ c, One W σ q := fun c hc q hq => by
  obtain ⟨x, _, rfl⟩ := List.mem_map.1 hc
  simp only [List.mem_singleton] at hq
  subst hq
  exact One.lit rfl
theorem Index_ok (W : World) (F : List Chunk) (qv : Value) (q : List Int) (id : Int) (hq : Rs W F qv 1 (ints q)) (hl : q.length ≤ 1000000) :
    SLf Try.prog W 98 [qv, .int .i64 id] F (fun r σ => (∃ i : Int, r = .int .i64 i ∧ (0 ≤ i ↔ id ∈ q)) ∧ σ = F) := by
  have hil := @ints_len q
  refine SLf.enter Try.func98 rfl (Nat.le_of_ble_eq_true rfl) ?_
  (repeat' (first | (first | refine SLl.nil ?_ | ((show SLl _ _ _ _ _ (⟨⟨_, _, _, _, _, _⟩, _, _⟩ :: _) _ _ _); first | refine SLl.ev rfl rfl rfl rfl ?_ | ((show SLl _ _ _ _ _ (⟨⟨_, .call ⟨.builtin .len, _, _⟩, _, _, _, _⟩, _, _⟩ :: _) _ _ _); refine SLl.rdSeq rfl rfl (Rd.len rfl (by ((apply Len.rs; exact Rs.mono (by assumption) (by (repeat' (exact Ent.refl))))))) ?_))) | (first | refine SLc.seq ?_ | refine SLc.region rfl ?_ | refine SLc.block ?_)))
  refine SLc.loop (ι := Nat) (fun k => [(8, .int .i64 k), (7, .int .i64 (ints q).length), (1, .int .i64 id), (0, qv)]) (fun _ => F) (fun k => k ≤ q.length ∧ ∀ j x, j < k → q[j]? = some x → x ≠ id) (fun k => q.length - k) 0 ⟨Nat.zero_le _, by omega⟩ (by (repeat' (first | exact trivial | apply And.intro | rfl))) .refl ?_
  rintro k ⟨hk, hno⟩
  by_cases hlt : k < q.length
  · have hx : q[k]? = some q[k] := List.getElem?_eq_getElem hlt
    generalize q[k] = x at hx
    have hxc := ints_at hx
    (repeat' (first | (first | refine SLl.nil ?_ | ((show SLl _ _ _ _ _ (⟨⟨_, _, _, _, _, _⟩, _, _⟩ :: _) _ _ _); first | refine SLl.ev rfl rfl rfl rfl ?_ | ((show SLl _ _ _ _ _ (⟨⟨_, .load _ _, _, _, _, _⟩, _, _⟩ :: _) _ _ _); (refine SLl.rdSeq rfl rfl (Rd.load rfl rfl (by ((apply Reads.rs; (· exact Rs.mono (by assumption) (by (repeat' (exact Ent.refl)))); (· (assumption)); (· rfl))))) ?_)) | ((show SLl _ _ _ _ _ (⟨⟨_, .indexAddr _ _ _, _, _, _, _⟩, _, _⟩ :: _) _ _ _); (refine SLl.rdSeq rfl rfl (Rd.indexAddr rfl rfl (by ((apply Len.rs; exact Rs.mono (by assumption) (by (repeat' (exact Ent.refl)))))) (by (rfl)) (by omega)) ?_)) | ((show SLl _ _ _ _ _ (⟨⟨_, .binOp _ _ _ _ _, _, _, _, _⟩, _, _⟩ :: _) _ _ _); (first | refine SLl.pu rfl rfl rfl (Pu.add rfl rfl (IntWalk.i64_in _ (by omega))) ?_ | (refine SLl.cmp rfl rfl rfl rfl rfl rfl ?_ ?_ <;> intro hq <;> simp only [cmpP] at hq <;> try ((exfalso; omega))))))) | (first | refine SLc.seq ?_ | refine SLc.region rfl ?_ | refine SLc.condT rfl ?_ | refine SLc.condF rfl ?_ | refine SLc.block ?_ | refine SLc.skip ?_ | refine SLc.ret ?_)))
    · refine And.intro rfl (Exists.intro _ (Exists.intro _ (And.intro rfl (And.intro .refl (And.intro (Exists.intro _ (And.intro rfl ?_)) rfl)))))
      have hxid : x = id := by omega
      subst hxid
      exact ⟨fun _ => List.mem_of_getElem? hx, fun _ => by omega⟩
    · refine And.intro rfl (Exists.intro (k + 1) (And.intro ⟨by omega, ?_⟩ (And.intro (by omega) (And.intro (by (repeat' (first | exact trivial | apply And.intro | rfl))) .refl))))
      intro j y hj hy
      by_cases hjk : j = k
      · subst hjk; rw [hx] at hy; cases hy; omega
      · exact hno j y (by omega) hy
  · (repeat' (first | (first | refine SLl.nil ?_ | ((show SLl _ _ _ _ _ (⟨⟨_, _, _, _, _, _⟩, _, _⟩ :: _) _ _ _); first | refine SLl.ev rfl rfl rfl rfl ?_ | ((show SLl _ _ _ _ _ (⟨⟨_, .binOp _ _ _ _ _, _, _, _, _⟩, _, _⟩ :: _) _ _ _); ((refine SLl.cmp rfl rfl rfl rfl rfl rfl ?_ ?_ <;> intro hq <;> simp only [cmpP] at hq <;> try ((exfalso; omega))))))) | (first | refine SLc.seq ?_ | refine SLc.region rfl ?_ | refine SLc.condF rfl ?_ | refine SLc.exit ?_ | refine SLc.ret ?_)))
    refine And.intro rfl (Exists.intro _ (Exists.intro _ (And.intro rfl (And.intro .refl (And.intro (Exists.intro _ (And.intro rfl ?_)) rfl)))))
    refine ⟨fun h => by omega, fun h => ?_⟩
    obtain ⟨j, hj⟩ := List.mem_iff_getElem?.1 h
    exact absurd rfl (hno j id (by have := (List.getElem?_eq_some_iff.1 hj).1; omega) hj)
theorem Contains_ok (W : World) (F : List Chunk) (qv : Value) (q : List Int) (id : Int) (hq : Rs W F qv 1 (ints q)) (hl : q.length ≤ 1000000) :
    SLf Try.prog W 82 [qv, .int .i64 id] F (fun r σ => r = .bool (decide (id ∈ q)) ∧ σ = F) := by
  refine SLf.enter Try.func82 rfl (Nat.le_of_ble_eq_true rfl) ?_
  (repeat' (first | (first | refine SLl.nil ?_ | ((show SLl _ _ _ _ _ (⟨⟨_, _, _, _, _, _⟩, _, _⟩ :: _) _ _ _); refine SLl.ev rfl rfl rfl rfl ?_)) | (first | refine SLc.seq ?_ | refine SLc.region rfl ?_)))
  refine SLl.seq rfl rfl (SLo.call plain98 rfl (SLf.mono (Index_ok W F qv q id hq hl) ?_))
  rintro v σ ⟨⟨i, rfl, hi⟩, rfl⟩
  (repeat' (first | (first | refine SLl.nil ?_ | ((show SLl _ _ _ _ _ (⟨⟨_, _, _, _, _, _⟩, _, _⟩ :: _) _ _ _); first | refine SLl.ev rfl rfl rfl rfl ?_ | ((show SLl _ _ _ _ _ (⟨⟨_, .binOp _ _ _ _ _, _, _, _, _⟩, _, _⟩ :: _) _ _ _); ((refine SLl.cmp rfl rfl rfl rfl rfl rfl ?_ ?_ <;> intro hq <;> simp only [cmpP] at hq <;> try (fail)))))) | (refine SLc.ret ?_)))
  · exact And.intro rfl (Exists.intro _ (Exists.intro _ (And.intro rfl (And.intro .refl (And.intro (by rw [decide_eq_true (hi.1 (by omega))]; rfl) rfl)))))
  · exact And.intro rfl (Exists.intro _ (Exists.intro _ (And.intro rfl (And.intro .refl (And.intro (by rw [decide_eq_false (fun h => by have := hi.2 h; omega)]; rfl) rfl)))))
theorem Clone_ok (W : World) (F : List Chunk) (qv : Value) (q : List Int) (hq : Rs W F qv 1 (ints q)) (hn : qv = .slice none 0 0 → q = []) (hl : q.length ≤ 1000000) :
    SLf Try.prog W 83 [qv] F (fun r σ => σ = .row r 3 1 (ints q) :: F) := by
  have hil := @ints_len q
  refine SLf.enter Try.func83 rfl (Nat.le_of_ble_eq_true rfl) ?_
  by_cases hnil : qv = .slice none 0 0
  · subst hnil
    have := hn rfl
    subst this
    (repeat' (first | (first | refine SLl.nil ?_ | ((show SLl _ _ _ _ _ (⟨⟨_, _, _, _, _, _⟩, _, _⟩ :: _) _ _ _); first | refine SLl.ev rfl rfl rfl rfl ?_ | ((show SLl _ _ _ _ _ (⟨⟨_, .binOp _ _ _ _ _, _, _, _, _⟩, _, _⟩ :: _) _ _ _); (refine SLl.pu rfl rfl rfl (Pu.eqNilT rfl rfl) ?_)))) | (first | refine SLc.seq ?_ | refine SLc.region rfl ?_ | refine SLc.condT rfl ?_ | refine SLc.ret ?_)))
    exact And.intro rfl (Exists.intro _ (Exists.intro _ (And.intro rfl (And.intro (.nil .refl) rfl))))
  · (repeat' (first | (first | refine SLl.nil ?_ | ((show SLl _ _ _ _ _ (⟨⟨_, _, _, _, _, _⟩, _, _⟩ :: _) _ _ _); first | refine SLl.ev rfl rfl rfl rfl ?_ | ((show SLl _ _ _ _ _ (⟨⟨_, .binOp _ _ _ _ _, _, _, _, _⟩, _, _⟩ :: _) _ _ _); (refine SLl.rdSeq rfl rfl (Rd.eqNilF rfl rfl (by ((apply Len.rs; exact Rs.mono (by assumption) (by (repeat' (exact Ent.refl)))))) (by assumption)) ?_)))) | (first | refine SLc.seq ?_ | refine SLc.region rfl ?_ | refine SLc.condF rfl ?_ | refine SLc.skip ?_)))
    refine SLl.seq rfl rfl (SLo.buildSlice0 rfl ?_)
    intro nv hnv
    (repeat' ((((show SLl _ _ _ _ _ (⟨⟨_, _, _, _, _, _⟩, _, _⟩ :: _) _ _ _); refine SLl.ev rfl rfl rfl rfl ?_))))
    refine SLl.seq rfl rfl (SLo.append (es := []) (ys := ints q) (by rfl) (by omega) rfl rfl .here (Src.rs (hq.mono (.skip .refl))) intsL_ones (by simp only [List.length_nil]; omega) (by simp only [List.length_nil]; omega) ?_)
    intro cv hcv
    (repeat' (first | (first | refine SLl.nil ?_ | ((show SLl _ _ _ _ _ (⟨⟨_, _, _, _, _, _⟩, _, _⟩ :: _) _ _ _); refine SLl.ev rfl rfl rfl rfl ?_)) | (refine SLc.ret ?_)))
    exact And.intro rfl (Exists.intro _ (Exists.intro _ (And.intro rfl (And.intro .refl rfl))))
structure Lck where
  taken : Bool
  owner : Int
  queue : List Int
/-- The memory of a lock. -/
def lockC (lb sb : Nat) (qv : Value) (L : Lck) : List Chunk := [.blk lb 134 [ptr sb, .bool L.taken, .int .i64 L.owner, qv], .row qv 3 1 (ints L.queue)]
theorem LNew_ok (W : World) (F : List Chunk) (sb : Nat) : SLf Try.prog W 38 [ptr sb] F (fun r σ => ∃ lb, r = ptr lb ∧ σ = lockC lb sb (.slice none 0 0) ⟨false, 0, []⟩ ++ F) := by
  refine SLf.enter Try.func38 rfl (Nat.le_of_ble_eq_true rfl) ?_
  (repeat' (first | (first | refine SLl.nil ?_ | ((show SLl _ _ _ _ _ (⟨⟨_, _, _, _, _, _⟩, _, _⟩ :: _) _ _ _); first | refine SLl.ev rfl rfl rfl rfl ?_ | ((show SLl _ _ _ _ _ (⟨⟨_, .box _ _, _, _, _, _⟩, _, _⟩ :: _) _ _ _); refine SLl.seq rfl rfl (SLo.boxC rfl (by (exact Cel.agg)) ?_); intro b) | ((show SLl _ _ _ _ _ (⟨⟨_, .build _ _, _, _, _, _⟩, _, _⟩ :: _) _ _ _); refine SLl.rdSeq rfl rfl (Rd.build rfl (by (repeat (first | exact CellsW.nil | (apply CellsW.cons; (· (exact Cel.one (by (exact One.lit rfl)))))))) (by rfl)) ?_))) | (first | refine SLc.seq ?_ | refine SLc.region rfl ?_ | refine SLc.ret ?_)))
  exact And.intro rfl (Exists.intro _ (Exists.intro _ (And.intro rfl (And.intro (.cons .here (.nil .refl)) (Exists.intro b (And.intro rfl rfl))))))
def ownerM (L : Lck) : Int := if L.taken then L.owner else -1
theorem Owner_ok (W : World) (F : List Chunk) (lb sb : Nat) (qv : Value) (L : Lck) : SLf Try.prog W 40 [ptr lb] (lockC lb sb qv L ++ F) (fun r σ => r = .int .i64 (ownerM L) ∧ σ = lockC lb sb qv L ++ F) := by
  refine SLf.enter Try.func40 rfl (Nat.le_of_ble_eq_true rfl) ?_
  simp only [lockC, List.cons_append, List.nil_append]
  obtain ⟨tk, ow, q⟩ := L
  cases tk
  all_goals
    (repeat' (first | (first | refine SLl.nil ?_ | ((show SLl _ _ _ _ _ (⟨⟨_, _, _, _, _, _⟩, _, _⟩ :: _) _ _ _); first | refine SLl.ev rfl rfl rfl rfl ?_ | ((show SLl _ _ _ _ _ (⟨⟨_, .load _ _, _, _, _, _⟩, _, _⟩ :: _) _ _ _); (refine SLl.rdSeq rfl rfl (Rd.load rfl rfl (by ((apply Reads.blk; (· (repeat (apply Sel.here))); (· rfl))))) ?_)) | ((show SLl _ _ _ _ _ (⟨⟨_, .fieldAddr _ _ _, _, _, _, _⟩, _, _⟩ :: _) _ _ _); (refine SLl.pu rfl rfl rfl (Pu.fieldAddr rfl) ?_)) | ((show SLl _ _ _ _ _ (⟨⟨_, .binOp _ _ _ _ _, _, _, _, _⟩, _, _⟩ :: _) _ _ _); (refine SLl.pu rfl rfl rfl (Pu.eqPtrNil rfl rfl) ?_)))) | (first | refine SLc.seq ?_ | refine SLc.region rfl ?_ | refine SLc.condT rfl ?_ | refine SLc.condF rfl ?_ | refine SLc.block ?_ | refine SLc.skip ?_ | refine SLc.ret ?_)))
    exact And.intro rfl (Exists.intro _ (Exists.intro _ (And.intro rfl (And.intro .refl (And.intro rfl rfl)))))
theorem Queue_ok (W : World) (F : List Chunk) (lb sb : Nat) (qv : Value) (L : Lck) (hn : qv = .slice none 0 0 → L.queue = []) (hl : L.queue.length ≤ 1000000) :
    SLf Try.prog W 42 [ptr lb] (lockC lb sb qv L ++ F) (fun r σ => σ = .row r 3 1 (ints L.queue) :: (lockC lb sb qv L ++ F)) := by
  refine SLf.enter Try.func42 rfl (Nat.le_of_ble_eq_true rfl) ?_
  simp only [lockC, List.cons_append, List.nil_append]
  (repeat' (first | (first | refine SLl.nil ?_ | ((show SLl _ _ _ _ _ (⟨⟨_, _, _, _, _, _⟩, _, _⟩ :: _) _ _ _); first | refine SLl.ev rfl rfl rfl rfl ?_ | ((show SLl _ _ _ _ _ (⟨⟨_, .load _ _, _, _, _, _⟩, _, _⟩ :: _) _ _ _); (refine SLl.rdSeq rfl rfl (Rd.load rfl rfl (by ((apply Reads.blk; (· (repeat (apply Sel.here))); (· rfl))))) ?_)) | ((show SLl _ _ _ _ _ (⟨⟨_, .fieldAddr _ _ _, _, _, _, _⟩, _, _⟩ :: _) _ _ _); (refine SLl.pu rfl rfl rfl (Pu.fieldAddr rfl) ?_)) | ((show SLl _ _ _ _ _ (⟨⟨_, .binOp _ _ _ _ _, _, _, _, _⟩, _, _⟩ :: _) _ _ _); (refine SLl.pu rfl rfl rfl (Pu.eqPtrNil rfl rfl) ?_)))) | (first | refine SLc.seq ?_ | refine SLc.region rfl ?_ | refine SLc.condF rfl ?_ | refine SLc.skip ?_)))
  refine SLl.seq rfl rfl (SLo.call plain83 rfl (SLf.mono (Clone_ok W _ qv L.queue (Rs.row (.there .here) intsL_one) hn hl) ?_))
  rintro v σ rfl
  (repeat' (first | (first | refine SLl.nil ?_ | ((show SLl _ _ _ _ _ (⟨⟨_, _, _, _, _, _⟩, _, _⟩ :: _) _ _ _); refine SLl.ev rfl rfl rfl rfl ?_)) | (refine SLc.ret ?_)))
  exact And.intro rfl (Exists.intro _ (Exists.intro _ (And.intro rfl (And.intro .refl rfl))))
def takeM (L : Lck) (id : Int) : Bool × Lck :=
  if L.taken then (if L.owner = id then (true, L) else if id ∈ L.queue then (false, L) else (false, { L with queue := L.queue ++ [id] })) else (true, { L with taken := true, owner := id })
theorem Take_ok (W : World) (F : List Chunk) (lb sb : Nat) (qv : Value) (L : Lck) (id : Int) (hn : qv = .slice none 0 0 → L.queue = []) (hl : L.queue.length ≤ 100000) :
    SLf Try.prog W 41 [ptr lb, .int .i64 id] (lockC lb sb qv L ++ F) (fun r σ => ∃ qv', r = .bool (takeM L id).1 ∧ (qv' = .slice none 0 0 → (takeM L id).2.queue = []) ∧ σ = lockC lb sb qv' (takeM L id).2 ++ F) := by
  have hil := @ints_len L.queue
  refine SLf.enter Try.func41 rfl (Nat.le_of_ble_eq_true rfl) ?_
  simp only [lockC, List.cons_append, List.nil_append]
  obtain ⟨tk, ow, q⟩ := L
  dsimp only at hn hl hil ⊢
  cases tk with
  | false =>
    (repeat' (first | (first | refine SLl.nil ?_ | ((show SLl _ _ _ _ _ (⟨⟨_, _, _, _, _, _⟩, _, _⟩ :: _) _ _ _); first | refine SLl.ev rfl rfl rfl rfl ?_ | ((show SLl _ _ _ _ _ (⟨⟨_, .load _ _, _, _, _, _⟩, _, _⟩ :: _) _ _ _); (refine SLl.rdSeq rfl rfl (Rd.load rfl rfl (by ((apply Reads.blk; (· (repeat (apply Sel.here))); (· rfl))))) ?_)) | ((show SLl _ _ _ _ _ (⟨⟨_, .fieldAddr _ _ _, _, _, _, _⟩, _, _⟩ :: _) _ _ _); (refine SLl.pu rfl rfl rfl (Pu.fieldAddr rfl) ?_)) | ((show SLl _ _ _ _ _ (⟨⟨_, .binOp _ _ _ _ _, _, _, _, _⟩, _, _⟩ :: _) _ _ _); (refine SLl.pu rfl rfl rfl (Pu.eqPtrNil rfl rfl) ?_)) | ((show SLl _ _ _ _ _ (⟨⟨_, .store _ _ _, _, _, _, _⟩, _, _⟩ :: _) _ _ _); ((refine SLl.seq0 rfl (SLo.store rfl rfl rfl (by (exact One.lit rfl)) (by ((apply Wr.blk; (· (repeat (apply Upd.here))); (· exact Nat.le_of_ble_eq_true rfl)))) ?_)))))) | (first | refine SLc.seq ?_ | refine SLc.region rfl ?_ | refine SLc.condT rfl ?_ | refine SLc.condF rfl ?_ | refine SLc.block ?_ | refine SLc.ret ?_)))
    exact And.intro rfl (Exists.intro _ (Exists.intro _ (And.intro rfl (And.intro .refl (Exists.intro qv (And.intro rfl (And.intro hn rfl)))))))
  | true =>
    by_cases ho : ow = id
    · have ht : takeM ⟨true, ow, q⟩ id = (true, ⟨true, ow, q⟩) := by simp [takeM, ho]
      rw [ht]
      (repeat' (first | (first | refine SLl.nil ?_ | ((show SLl _ _ _ _ _ (⟨⟨_, _, _, _, _, _⟩, _, _⟩ :: _) _ _ _); first | refine SLl.ev rfl rfl rfl rfl ?_ | ((show SLl _ _ _ _ _ (⟨⟨_, .load _ _, _, _, _, _⟩, _, _⟩ :: _) _ _ _); (refine SLl.rdSeq rfl rfl (Rd.load rfl rfl (by ((apply Reads.blk; (· (repeat (apply Sel.here))); (· rfl))))) ?_)) | ((show SLl _ _ _ _ _ (⟨⟨_, .fieldAddr _ _ _, _, _, _, _⟩, _, _⟩ :: _) _ _ _); (refine SLl.pu rfl rfl rfl (Pu.fieldAddr rfl) ?_)) | ((show SLl _ _ _ _ _ (⟨⟨_, .binOp _ _ _ _ _, _, _, _, _⟩, _, _⟩ :: _) _ _ _); (first | (refine SLl.cmp rfl rfl rfl rfl rfl rfl ?_ ?_ <;> intro hq <;> simp only [cmpP] at hq <;> try ((exfalso; omega))) | refine SLl.pu rfl rfl rfl (Pu.eqPtrNil rfl rfl) ?_)))) | (first | refine SLc.seq ?_ | refine SLc.region rfl ?_ | refine SLc.condT rfl ?_ | refine SLc.condF rfl ?_ | refine SLc.block ?_ | refine SLc.ret ?_)))
      exact And.intro rfl (Exists.intro _ (Exists.intro _ (And.intro rfl (And.intro .refl (Exists.intro qv (And.intro rfl (And.intro hn rfl)))))))
    · (repeat' (first | (first | refine SLl.nil ?_ | ((show SLl _ _ _ _ _ (⟨⟨_, _, _, _, _, _⟩, _, _⟩ :: _) _ _ _); first | refine SLl.ev rfl rfl rfl rfl ?_ | ((show SLl _ _ _ _ _ (⟨⟨_, .load _ _, _, _, _, _⟩, _, _⟩ :: _) _ _ _); (refine SLl.rdSeq rfl rfl (Rd.load rfl rfl (by ((apply Reads.blk; (· (repeat (apply Sel.here))); (· rfl))))) ?_)) | ((show SLl _ _ _ _ _ (⟨⟨_, .fieldAddr _ _ _, _, _, _, _⟩, _, _⟩ :: _) _ _ _); (refine SLl.pu rfl rfl rfl (Pu.fieldAddr rfl) ?_)) | ((show SLl _ _ _ _ _ (⟨⟨_, .binOp _ _ _ _ _, _, _, _, _⟩, _, _⟩ :: _) _ _ _); (first | (refine SLl.cmp rfl rfl rfl rfl rfl rfl ?_ ?_ <;> intro hq <;> simp only [cmpP] at hq <;> try ((exfalso; omega))) | refine SLl.pu rfl rfl rfl (Pu.eqPtrNil rfl rfl) ?_)))) | (first | refine SLc.seq ?_ | refine SLc.region rfl ?_ | refine SLc.condF rfl ?_ | refine SLc.block ?_ | refine SLc.skip ?_)))
      refine SLl.seq rfl rfl (SLo.call plain82 rfl (SLf.mono (Contains_ok W _ qv q id (Rs.row (.there .here) intsL_one) (by omega)) ?_))
      rintro v σ ⟨rfl, rfl⟩
      by_cases hm : id ∈ q
      · have ht : takeM ⟨true, ow, q⟩ id = (false, ⟨true, ow, q⟩) := by simp [takeM, ho, hm]
        rw [ht, decide_eq_true hm]
        (repeat' (first | (first | refine SLl.nil ?_ | ((show SLl _ _ _ _ _ (⟨⟨_, _, _, _, _, _⟩, _, _⟩ :: _) _ _ _); refine SLl.ev rfl rfl rfl rfl ?_)) | (first | refine SLc.seq ?_ | refine SLc.region rfl ?_ | refine SLc.condF rfl ?_ | refine SLc.skip ?_ | refine SLc.ret ?_)))
        exact And.intro rfl (Exists.intro _ (Exists.intro _ (And.intro rfl (And.intro .refl (Exists.intro qv (And.intro rfl (And.intro hn rfl)))))))
      · have ht : takeM ⟨true, ow, q⟩ id = (false, ⟨true, ow, q ++ [id]⟩) := by simp [takeM, ho, hm]
        rw [ht, decide_eq_false hm]
        (repeat' (first | (first | refine SLl.nil ?_ | ((show SLl _ _ _ _ _ (⟨⟨_, _, _, _, _, _⟩, _, _⟩ :: _) _ _ _); first | refine SLl.ev rfl rfl rfl rfl ?_ | ((show SLl _ _ _ _ _ (⟨⟨_, .load _ _, _, _, _, _⟩, _, _⟩ :: _) _ _ _); (refine SLl.rdSeq rfl rfl (Rd.load rfl rfl (by ((apply Reads.blk; (· (repeat (apply Sel.here))); (· rfl))))) ?_)) | ((show SLl _ _ _ _ _ (⟨⟨_, .fieldAddr _ _ _, _, _, _, _⟩, _, _⟩ :: _) _ _ _); (refine SLl.pu rfl rfl rfl (Pu.fieldAddr rfl) ?_)))) | (first | refine SLc.region rfl ?_ | refine SLc.condT rfl ?_)))
        refine SLl.seq rfl rfl (SLo.buildSliceE (ints [id]) (by decide) (by decide) rfl (by (repeat (first | exact CellsW.nil | (apply CellsW.cons; (· (exact Cel.one (by (exact One.lit rfl)))))))) (by simp [ints]) rfl (by rfl) ?_)
        intro nv hnv
        refine SLl.seq rfl rfl (SLo.append (es := ints q) (ys := ints [id]) (by rfl) (by omega) rfl rfl (by (repeat (first | apply Sel.here | apply Sel.there))) (Src.row .here intsL_one) intsL_ones (by simp only [ints_len, List.length_singleton] at *; omega) (by simp only [ints_len, List.length_singleton] at *; omega) ?_)
        intro qv' hqv'
        (repeat' (first | (first | refine SLl.nil ?_ | ((show SLl _ _ _ _ _ (⟨⟨_, _, _, _, _, _⟩, _, _⟩ :: _) _ _ _); first | refine SLl.ev rfl rfl rfl rfl ?_ | ((show SLl _ _ _ _ _ (⟨⟨_, .fieldAddr _ _ _, _, _, _, _⟩, _, _⟩ :: _) _ _ _); (refine SLl.pu rfl rfl rfl (Pu.fieldAddr rfl) ?_)) | ((show SLl _ _ _ _ _ (⟨⟨_, .store _ _ _, _, _, _, _⟩, _, _⟩ :: _) _ _ _); ((refine SLl.seq0 rfl (SLo.store rfl rfl rfl (by (exact One.len (by ((apply Len.row; (· (repeat (apply Sel.here)))))))) (by ((apply Wr.blk; (· (repeat (first | apply Upd.here | apply Upd.there))); (· exact Nat.le_of_ble_eq_true rfl)))) ?_)))))) | (first | refine SLc.seq ?_ | refine SLc.region rfl ?_ | refine SLc.ret ?_)))
        refine And.intro rfl (Exists.intro _ (Exists.intro _ (And.intro rfl (And.intro ?_ (Exists.intro qv' (And.intro rfl (And.intro (fun h => absurd h (hqv' (by simp [ints]))) rfl)))))))
        exact .cons (by (repeat (first | apply Sel.here | apply Sel.there))) (Ent.row (by simp [ints]) (.skip .refl))
end Go.Sl
