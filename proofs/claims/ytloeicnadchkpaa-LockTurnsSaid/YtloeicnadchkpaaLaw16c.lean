/- backstitchlaw16.LockTurns: the walk. -/
import Derived.Test.YtloeicnadchkpaaStays
import Derived.Test.YtloeicnadchkpaaLaw16
namespace Go.Sl
open Go.Proofs
attribute [local irreducible] SLc SLl SLo SLf Pu Rd

theorem SLf.to {P : Program} {W : World} {f : FuncId} {args : List Value} {σ : List Chunk} {R R' : Value → List Chunk → Prop} (h : SLf P W f args σ R) (hr : ∀ v σ, R v σ → ∃ σ', Ent σ σ' ∧ R' v σ') : SLf P W f args σ R' := by
  unfold SLf at h ⊢
  exact fun w hw => (h w hw).mono fun _ _ ⟨v, σ', h1, h2, h3⟩ => by
    obtain ⟨σ2, h4, h5⟩ := hr _ _ h2
    exact ⟨v, σ2, h1, h5, h3.ent h4⟩
theorem Ent.in2 {c1 c2 : Chunk} {l F : List Chunk} : Ent (c1 :: c2 :: (l ++ F)) (l ++ (c1 :: c2 :: F)) := .trans (.cons .here .into) .into
theorem Ent.out {c : Chunk} {l F : List Chunk} : Ent (l ++ (c :: F)) (c :: (l ++ F)) := .perm List.perm_middle
theorem Ent.out2 {c1 c2 : Chunk} {l F : List Chunk} : Ent (l ++ (c1 :: c2 :: F)) (c1 :: c2 :: (l ++ F)) := .trans .out (.cons .here .out)
theorem Take_in (W : World) (c1 c2 : Chunk) (F : List Chunk) (lb sb : Nat) (qv : Value) {L L' : Lck} {id : Int} {bv : Bool} (h : takeM L id = (bv, L')) (hn : qv = .slice none 0 0 → L.queue = []) (hl : L.queue.length ≤ 100000) :
    SLf Try.prog W 41 [ptr lb, .int .i64 id] (c1 :: c2 :: (lockC lb sb qv L ++ F)) (fun r σ => ∃ qv', r = .bool bv ∧ (qv' = .slice none 0 0 → L'.queue = []) ∧ σ = c1 :: c2 :: (lockC lb sb qv' L' ++ F)) := by
  refine SLf.ent .in2 (SLf.to (Take_at W (c1 :: c2 :: F) lb sb qv h hn (Nat.ble_eq_true_of_le hl)) ?_)
  rintro v σ ⟨q, rfl, h, rfl⟩
  exact ⟨_, .out2, q, rfl, h, rfl⟩
theorem Leave_in (W : World) (c : Chunk) (F : List Chunk) (lb sb : Nat) (qv pv lv : Value) {L L' : Lck} {m m' : Sch} {id : Int} {bv : Bool} (h : leaveM L m id = (bv, L', m')) (hn : qv = .slice none 0 0 → L.queue = []) (hl : L.queue.length ≤ 100000) :
    SLf Try.prog W 39 [ptr lb, .int .i64 id] (c :: (lockC lb sb qv L ++ (schC sb pv lv m ++ F))) (fun r σ => ∃ qv', r = .bool bv ∧ (qv' = .slice none 0 0 → L'.queue = []) ∧ σ = c :: (lockC lb sb qv' L' ++ (schC sb pv lv m' ++ F))) := by
  refine SLf.ent (.trans .into (.left _ .into)) (SLf.to (Leave_at W (c :: F) lb sb qv pv lv h hn (Nat.ble_eq_true_of_le hl)) ?_)
  rintro v σ ⟨q, rfl, h, rfl⟩
  exact ⟨_, .trans (.left _ .out) .out, q, rfl, h, rfl⟩
theorem Owner_in (W : World) (c : Chunk) (F : List Chunk) (lb sb : Nat) (qv : Value) (L : Lck) : SLf Try.prog W 40 [ptr lb] (c :: (lockC lb sb qv L ++ F)) (fun r σ => r = .int .i64 (ownerM L) ∧ σ = c :: (lockC lb sb qv L ++ F)) := by
  refine SLf.ent .into (SLf.to (Owner_ok W (c :: F) lb sb qv L) ?_)
  rintro v σ ⟨rfl, rfl⟩
  exact ⟨_, .out, rfl, rfl⟩
theorem Queue_in (W : World) (c : Chunk) (F : List Chunk) (lb sb : Nat) (qv : Value) (L : Lck) (hn : qv = .slice none 0 0 → L.queue = []) (hl : L.queue.length ≤ 1000000) :
    SLf Try.prog W 42 [ptr lb] (c :: (lockC lb sb qv L ++ F)) (fun r σ => σ = c :: .row r 3 1 (ints L.queue) :: (lockC lb sb qv L ++ F)) := by
  refine SLf.ent .into (SLf.to (Queue_ok W (c :: F) lb sb qv L hn hl) ?_)
  rintro v σ rfl
  exact ⟨_, .trans (.cons .here .out) (.cons (.there .here) .refl), rfl⟩
theorem Pu.indexArr1 {P : Program} {n : Nat} {e : Tm} {dst : Option Tmp} {ty : TypeId} {pos : String} {aft : Array Edge} {g : Option (Nat × Bool)} {x y : Operand} {t el : TypeId} {bk m j : Nat} {k : IntKind} {i : Int} {s b b' : Nat} {z z' : List Value} {d : TypeDesc} [h : Ty P t (.array m el) s b z] [h' : Ty P el d 1 b' z']
    (hx : Tm.ev e x = some (.pointer (some ⟨bk, 0, none⟩))) (hy : Tm.ev e y = some (.int k i)) (hj : i = (j : Int)) (hlt : j < m) :
    Pu P n ⟨dst, .indexAddr t x y, ty, pos, aft, g⟩ e (.pointer (some ⟨bk, j, none⟩)) := by
  have := Pu.indexArr (P := P) (n := n) (dst := dst) (ty := ty) (pos := pos) (aft := aft) (g := g) (h' := h') (h := h) hx hy hj hlt
  rwa [Nat.zero_add, Nat.mul_one] at this
theorem Stay16 (W : World) (F : List Chunk) : SLf Try.prog W 37 [] F (fun v σ => v = .int .i64 2 ∧ σ = F) := by
  refine SLf.enter Try.func37 rfl (Nat.le_of_ble_eq_true rfl) ?_
  (repeat' (first | (first | refine SLl.nil ?_ | ((show SLl _ _ _ _ _ (⟨⟨_, _, _, _, _, _⟩, _, _⟩ :: _) _ _ _); refine SLl.ev rfl rfl rfl rfl ?_)) | (first | refine SLc.seq ?_ | refine SLc.region rfl ?_ | refine SLc.ret ?_)))
  exact And.intro rfl (Exists.intro _ (Exists.intro _ (And.intro rfl (And.intro .refl (And.intro rfl rfl)))))
/-- The lock of those who asked, in their order. -/
def lkOf (o : Int) : List Int → Lck
  | [] => ⟨false, o, []⟩
  | x :: r => ⟨true, x, r⟩
theorem lkOf_take {o : Int} {Q : List Int} {id : Int} (h : id ∉ Q) : ∃ o', takeM (lkOf o Q) id = (decide (Q = []), lkOf o' (Q ++ [id])) := by
  cases Q with
  | nil => exact ⟨0, rfl⟩
  | cons x r =>
    have h1 : x ≠ id := fun e => h (by simp [e])
    have h2 : id ∉ r := fun e => h (by simp [e])
    exact ⟨0, by simp [takeM, lkOf, h1, h2]⟩
theorem lkOf_again {o x : Int} {r : List Int} {id : Int} (h : id ∈ x :: r) : takeM (lkOf o (x :: r)) id = (decide (x = id), lkOf o (x :: r)) := by
  by_cases h1 : x = id
  · simp [takeM, lkOf, h1]
  · have h2 : id ∈ r := by rcases List.mem_cons.1 h with e | e; (exact absurd e.symm h1); exact e
    simp [takeM, lkOf, h1, h2]
theorem lkOf_leave {o x : Int} {r : List Int} (m : Sch) : ∃ m', leaveM (lkOf o (x :: r)) m x = (true, lkOf x r, m') := by
  cases r with
  | nil => exact ⟨m, by simp [leaveM, lkOf]⟩
  | cons y s => exact ⟨(wakeM m y).2, by simp [leaveM, lkOf]⟩
theorem lkOf_not {o x : Int} {r : List Int} (m : Sch) (h : x ∉ r) : leaveM (lkOf o r) m x = (false, lkOf o r, m) := by
  cases r with
  | nil => rfl
  | cons y s =>
    have : y ≠ x := fun e => h (by simp [e])
    simp [leaveM, lkOf, this]
theorem lkOf_queue {o : Int} {Q : List Int} : (lkOf o Q).queue.length = Q.length - 1 := by cases Q <;> simp [lkOf]
theorem lkOf_queue_nil {o : Int} {x : Int} : (lkOf o [x]).queue = [] := rfl
/-- Who asked. -/
def askedV (Q : List Int) : List Value := (List.range 20).map fun i : Nat => .bool (decide ((i : Int) ∈ Q))
theorem askedV_at {Q : List Int} {k : Nat} (h : k < 20) : (askedV Q)[k]? = some (.bool (decide ((k : Int) ∈ Q))) := by simp [askedV, h]
theorem askedV_len {Q : List Int} : (askedV Q).length = 20 := by simp [askedV]
theorem askedV_set {Q : List Int} {k : Nat} : (askedV Q).set k (.bool true) = askedV (Q ++ [(k : Int)]) := by
  apply List.ext_getElem?
  intro i
  rw [List.getElem?_set]
  by_cases h : k = i
  · subst h
    by_cases hk : k < 20
    · rw [if_pos rfl, askedV_at hk]; simp [askedV_len, hk]
    · rw [if_pos rfl]; simp [askedV, hk]
  · rw [if_neg h]
    by_cases hi : i < 20
    · rw [askedV_at hi, askedV_at hi]
      have : (i : Int) ≠ (k : Int) := by omega
      simp [this]
    · simp [askedV, hi]
theorem askedV_nil : askedV [] = [.bool false, .bool false, .bool false, .bool false, .bool false, .bool false, .bool false, .bool false, .bool false, .bool false, .bool false, .bool false, .bool false, .bool false, .bool false, .bool false, .bool false, .bool false, .bool false, .bool false] := rfl
set_option maxHeartbeats 2000000 in
theorem Turns16 (W : World) (uv : Value) (U : List Nat) (hu : Rs W [] uv 1 (u8L U)) (hU : ∀ x ∈ U, x < 256) (hUl : U.length ≤ 140737488355328) : SLf Try.prog W 21 [uv] [] (fun v _ => v = .bool true) := by
  have hul := @u8L_len U
  refine SLf.enter Try.func21 rfl (Nat.le_of_ble_eq_true rfl) ?_
  (repeat' (first | (first | refine SLl.nil ?_ | ((show SLl _ _ _ _ _ (⟨⟨_, _, _, _, _, _⟩, _, _⟩ :: _) _ _ _); refine SLl.ev rfl rfl rfl rfl ?_)) | (first | refine SLc.seq ?_ | refine SLc.region rfl ?_)))
  refine SLl.seq rfl rfl (SLo.call plain34 rfl (SLf.mono (Awake16 W []) ?_))
  rintro v σ ⟨rfl, rfl⟩
  (repeat' (first | (first | refine SLl.nil ?_ | ((show SLl _ _ _ _ _ (⟨⟨_, _, _, _, _, _⟩, _, _⟩ :: _) _ _ _); first | refine SLl.ev rfl rfl rfl rfl ?_ | ((show SLl _ _ _ _ _ (⟨⟨_, .call ⟨.builtin .len, _, _⟩, _, _, _, _⟩, _, _⟩ :: _) _ _ _); refine SLl.rdSeq rfl rfl (Rd.len rfl (by ((apply Len.rs; exact Rs.mono (by assumption) (by (repeat' (exact Ent.refl))))))) ?_) | ((show SLl _ _ _ _ _ (⟨⟨_, .binOp _ _ _ _ _, _, _, _, _⟩, _, _⟩ :: _) _ _ _); ((refine SLl.cmp rfl rfl rfl rfl rfl rfl ?_ ?_ <;> intro hq <;> simp only [cmpP] at hq <;> try (fail)))))) | (first | refine SLc.seq ?_ | refine SLc.region rfl ?_ | refine SLc.condT rfl ?_ | refine SLc.condF rfl ?_ | refine SLc.skip ?_ | refine SLc.ret ?_)))
  · refine And.intro rfl (Exists.intro _ (Exists.intro [] (And.intro rfl (And.intro .drop rfl))))
  refine SLl.seq rfl rfl (SLo.call plain35 rfl (SLf.mono (New_ok W [] (.slice none 0 0) [] Rs.nil (by simp)) ?_))
  rintro v σ2 ⟨sb, pv, rfl, rfl⟩
  (repeat' (first | (first | refine SLl.nil ?_ | ((show SLl _ _ _ _ _ (⟨⟨_, _, _, _, _, _⟩, _, _⟩ :: _) _ _ _); refine SLl.ev rfl rfl rfl rfl ?_)) | (first | refine SLc.seq ?_ | refine SLc.region rfl ?_ | refine SLc.block ?_)))
  refine SLc.loop (ι := Nat × Value) (fun s => [(4, .int .i64 s.1), (3, ptr sb), (0, uv)]) (fun s => schC sb pv s.2 (stays 37 s.1) ++ []) (fun s => s.1 ≤ 20) (fun s => 20 - s.1) (0, .slice none 0 0) (Nat.zero_le _) (by (repeat' (first | exact trivial | apply And.intro | rfl))) .refl ?_
  rintro ⟨i, lv⟩ hi
  dsimp only at hi ⊢
  by_cases hlt : i < 20
  · (repeat' (first | (first | refine SLl.nil ?_ | ((show SLl _ _ _ _ _ (⟨⟨_, _, _, _, _, _⟩, _, _⟩ :: _) _ _ _); first | refine SLl.ev rfl rfl rfl rfl ?_ | ((show SLl _ _ _ _ _ (⟨⟨_, .binOp _ _ _ _ _, _, _, _, _⟩, _, _⟩ :: _) _ _ _); ((refine SLl.cmp rfl rfl rfl rfl rfl rfl ?_ ?_ <;> intro hq <;> simp only [cmpP] at hq <;> try ((exfalso; omega))))))) | (first | refine SLc.seq ?_ | refine SLc.region rfl ?_ | refine SLc.condT rfl ?_ | refine SLc.block ?_ | refine SLc.skip ?_)))
    refine SLl.seq rfl rfl (SLo.call plain36 rfl (SLf.mono (Go_ok W [] sb pv lv (stays 37 i) (.func 37) #[] #[] (by rw [stays_len]; omega)) ?_))
    rintro v σ2 ⟨lv', rfl, rfl⟩
    rw [stays_add]
    (repeat' (first | (first | refine SLl.nil ?_ | ((show SLl _ _ _ _ _ (⟨⟨_, _, _, _, _, _⟩, _, _⟩ :: _) _ _ _); first | refine SLl.ev rfl rfl rfl rfl ?_ | ((show SLl _ _ _ _ _ (⟨⟨_, .binOp _ _ _ _ _, _, _, _, _⟩, _, _⟩ :: _) _ _ _); (refine SLl.pu rfl rfl rfl (Pu.add rfl rfl (IntWalk.i64_in _ (by omega))) ?_)))) | (refine SLc.region rfl ?_)))
    exact And.intro rfl (Exists.intro (i + 1, lv') (And.intro (by dsimp only; omega) (And.intro (by dsimp only; omega) (And.intro (by (repeat' (first | exact trivial | apply And.intro | rfl))) .refl))))
  obtain rfl : i = 20 := by omega
  (repeat' (first | (first | refine SLl.nil ?_ | ((show SLl _ _ _ _ _ (⟨⟨_, _, _, _, _, _⟩, _, _⟩ :: _) _ _ _); first | refine SLl.ev rfl rfl rfl rfl ?_ | ((show SLl _ _ _ _ _ (⟨⟨_, .binOp _ _ _ _ _, _, _, _, _⟩, _, _⟩ :: _) _ _ _); ((refine SLl.cmp rfl rfl rfl rfl rfl rfl ?_ ?_ <;> intro hq <;> simp only [cmpP] at hq <;> try ((exfalso; omega))))))) | (first | refine SLc.seq ?_ | refine SLc.region rfl ?_ | refine SLc.condF rfl ?_ | refine SLc.exit ?_)))
  refine SLl.seq rfl rfl (SLo.call plain45 rfl (SLf.mono (RunStays W [] sb pv lv 37 20 100 (by decide) (by decide) (by decide) plain37 (Stay16 W)) ?_))
  rintro v σ2 ⟨lw, rfl, rfl⟩
  generalize staysW 37 20 = m0
  (repeat' (first | (first | refine SLl.nil ?_ | ((show SLl _ _ _ _ _ (⟨⟨_, _, _, _, _, _⟩, _, _⟩ :: _) _ _ _); refine SLl.ev rfl rfl rfl rfl ?_)) | (first | refine SLc.seq ?_ | refine SLc.region rfl ?_)))
  refine SLl.seq rfl rfl (SLo.call plain38 rfl (SLf.mono (LNew_ok W _ sb) ?_))
  rintro v σ2 ⟨lb, rfl, rfl⟩
  (repeat' (first | (first | refine SLl.nil ?_ | ((show SLl _ _ _ _ _ (⟨⟨_, _, _, _, _, _⟩, _, _⟩ :: _) _ _ _); first | refine SLl.ev rfl rfl rfl rfl ?_ | ((show SLl _ _ _ _ _ (⟨⟨_, .binOp _ _ _ _ _, _, _, _, _⟩, _, _⟩ :: _) _ _ _); (refine SLl.pu rfl rfl rfl (Pu.eqPtrNil rfl rfl) ?_)) | ((show SLl _ _ _ _ _ (⟨⟨_, .alloc _, _, _, _, _⟩, _, _⟩ :: _) _ _ _); refine SLl.seq rfl rfl (SLo.alloc ?_); intro b))) | (first | refine SLc.seq ?_ | refine SLc.region rfl ?_ | refine SLc.condF rfl ?_ | refine SLc.block ?_ | refine SLc.skip ?_)))
  refine SLc.loop (ι := (Nat × List Int) × (Value × Value) × Int) (fun s => [(8, .int .i64 s.1.1), (7, s.2.1.1), (6, ptr b), (5, ptr lb), (3, ptr sb), (0, uv)]) (fun s => .blk b 111 (askedV s.1.2) :: .row s.2.1.1 3 1 (ints s.1.2) :: (lockC lb sb s.2.1.2 (lkOf s.2.2 s.1.2) ++ (schC sb pv lw m0 ++ []))) (fun s => s.1.1 ≤ U.length ∧ s.1.2.length ≤ s.1.1 ∧ s.1.2.Nodup ∧ (s.2.1.2 = .slice none 0 0 → (lkOf s.2.2 s.1.2).queue = [])) (fun s => U.length - s.1.1) ((0, []), (.slice none 0 0, .slice none 0 0), 0) ⟨Nat.zero_le _, Nat.zero_le _, List.nodup_nil, fun _ => rfl⟩ (by (repeat' (first | exact trivial | apply And.intro | rfl))) ?_ ?_
  · exact .cons .here (.nil .refl)
  rintro ⟨⟨k, Q⟩, ⟨qv, lq⟩, o⟩ ⟨hk, hQk, hQn, hlq⟩
  dsimp only at hk hQk hQn hlq ⊢
  have hQl := @ints_len Q
  by_cases hlt : k < U.length
  · have hx : U[k]? = some U[k] := List.getElem?_eq_getElem hlt
    have hx2 := hU _ (List.getElem_mem hlt)
    generalize U[k] = x at hx hx2
    have hxc := u8L_at hx
    (repeat' (first | (first | refine SLl.nil ?_ | ((show SLl _ _ _ _ _ (⟨⟨_, _, _, _, _, _⟩, _, _⟩ :: _) _ _ _); first | refine SLl.ev rfl rfl rfl rfl ?_ | ((show SLl _ _ _ _ _ (⟨⟨_, .load _ _, _, _, _, _⟩, _, _⟩ :: _) _ _ _); (refine SLl.rdSeq rfl rfl (Rd.load rfl rfl (by ((apply Reads.rs; (· exact Rs.mono (by assumption) (by (repeat' (exact Ent.drop)))); (· (assumption)); (· rfl))))) ?_)) | ((show SLl _ _ _ _ _ (⟨⟨_, .indexAddr _ _ _, _, _, _, _⟩, _, _⟩ :: _) _ _ _); (refine SLl.rdSeq rfl rfl (Rd.indexAddr rfl rfl (by ((apply Len.rs; exact Rs.mono (by assumption) (by (repeat' (exact Ent.drop)))))) (by (rfl)) (by omega)) ?_)) | ((show SLl _ _ _ _ _ (⟨⟨_, .call ⟨.builtin .len, _, _⟩, _, _, _, _⟩, _, _⟩ :: _) _ _ _); refine SLl.rdSeq rfl rfl (Rd.len rfl (by ((apply Len.rs; exact Rs.mono (by assumption) (by (repeat' (exact Ent.drop))))))) ?_) | ((show SLl _ _ _ _ _ (⟨⟨_, .binOp _ _ _ _ _, _, _, _, _⟩, _, _⟩ :: _) _ _ _); ((refine SLl.cmp rfl rfl rfl rfl rfl rfl ?_ ?_ <;> intro hq <;> simp only [cmpP] at hq <;> try ((exfalso; omega))))))) | (first | refine SLc.seq ?_ | refine SLc.region rfl ?_ | refine SLc.condT rfl ?_ | refine SLc.block ?_ | refine SLc.skip ?_)))
    refine SLl.pu rfl rfl rfl (Pu.remN (j := 20) rfl rfl (by omega)) ?_
    (repeat' (fail))
    refine SLl.pu rfl rfl rfl (Pu.convInt rfl (IntWalk.i64_in _ (by omega))) ?_
    have hid : x % 20 < 20 := Nat.mod_lt _ (by omega)
    generalize x % 20 = id at hid
    have hA := askedV_at (Q := Q) hid
    have hAl := @askedV_len Q
    have hA2 := @askedV_set Q id
    have hqlen := @lkOf_queue o Q
    by_cases hm : (id : Int) ∈ Q
    · rw [decide_eq_true hm] at hA
      cases Q with
      | nil => exact absurd hm List.not_mem_nil
      | cons y r =>
        have hy0 : (ints (y :: r))[0]? = some [.int .i64 y] := rfl
        have hyl : (ints (y :: r)).length = r.length + 1 := by simp [ints]
        generalize hA0 : askedV (y :: r) = A at *
        (repeat' (first | (first | refine SLl.nil ?_ | ((show SLl _ _ _ _ _ (⟨⟨_, _, _, _, _, _⟩, _, _⟩ :: _) _ _ _); refine SLl.ev rfl rfl rfl rfl ?_)) | (first | refine SLc.seq ?_ | refine SLc.region rfl ?_)))
        refine SLl.seq rfl rfl (SLo.call plain41 rfl (SLf.mono (Take_in W _ _ _ lb sb lq (lkOf_again hm) hlq (by omega)) ?_))
        rintro v σ2 ⟨lq', rfl, hlq', rfl⟩
        generalize hC0 : ints (y :: r) = C at *
        by_cases hy : y = (id : Int)
        all_goals
          first | rw [decide_eq_true hy] | rw [decide_eq_false hy]
          (repeat' (first | (first | refine SLl.nil ?_ | ((show SLl _ _ _ _ _ (⟨⟨_, _, _, _, _, _⟩, _, _⟩ :: _) _ _ _); first | refine SLl.ev rfl rfl rfl rfl ?_ | ((show SLl _ _ _ _ _ (⟨⟨_, .load _ _, _, _, _, _⟩, _, _⟩ :: _) _ _ _); (refine SLl.rdSeq rfl rfl (Rd.load rfl rfl (by ((apply Reads.row; (· (repeat (first | apply Sel.here | apply Sel.there))); (· (assumption)); (· rfl))))) ?_)) | ((show SLl _ _ _ _ _ (⟨⟨_, .indexAddr _ _ _, _, _, _, _⟩, _, _⟩ :: _) _ _ _); (refine SLl.rdSeq rfl rfl (Rd.indexAddr rfl rfl (by ((apply Len.row; (· (repeat (first | apply Sel.here | apply Sel.there)))))) (by (exact ij0)) (by omega)) ?_)) | ((show SLl _ _ _ _ _ (⟨⟨_, .call ⟨.builtin .len, _, _⟩, _, _, _, _⟩, _, _⟩ :: _) _ _ _); refine SLl.rdSeq rfl rfl (Rd.len rfl (by ((apply Len.row; (· (repeat (first | apply Sel.here | apply Sel.there))))))) ?_) | ((show SLl _ _ _ _ _ (⟨⟨_, .binOp _ _ _ _ _, _, _, _, _⟩, _, _⟩ :: _) _ _ _); (first | (refine SLl.cmp rfl rfl rfl rfl rfl rfl ?_ ?_ <;> intro hq <;> simp only [cmpP] at hq <;> try ((exfalso; omega))) | refine SLl.pu rfl rfl rfl (Pu.neBool rfl rfl) ?_)))) | (first | refine SLc.seq ?_ | refine SLc.region rfl ?_ | refine SLc.condF rfl ?_ | refine SLc.skip ?_)))
          refine SLl.pu rfl rfl rfl (Pu.indexArr1 rfl rfl rfl hid) ?_
          refine SLl.rdSeq rfl rfl (Rd.load rfl rfl (Reads.blk .here hA)) ?_
          (repeat' (first | (first | refine SLl.nil ?_ | ((show SLl _ _ _ _ _ (⟨⟨_, _, _, _, _, _⟩, _, _⟩ :: _) _ _ _); first | refine SLl.ev rfl rfl rfl rfl ?_ | ((show SLl _ _ _ _ _ (⟨⟨_, .binOp _ _ _ _ _, _, _, _, _⟩, _, _⟩ :: _) _ _ _); (refine SLl.pu rfl rfl rfl (Pu.add rfl rfl (IntWalk.i64_in _ (by omega))) ?_)))) | (first | refine SLc.region rfl ?_ | refine SLc.condF rfl ?_ | refine SLc.skip ?_)))
          subst hA0 hC0
          exact And.intro rfl (Exists.intro ((k + 1, y :: r), (qv, lq'), o) (And.intro ⟨by dsimp only; omega, by dsimp only; omega, hQn, hlq'⟩ (And.intro (by dsimp only; omega) (And.intro (by (repeat' (first | exact trivial | apply And.intro | rfl))) .refl))))
    · rw [decide_eq_false hm] at hA
      obtain ⟨o', ht⟩ := lkOf_take (o := o) hm
      generalize askedV Q = A at *
      (repeat' (first | (first | refine SLl.nil ?_ | ((show SLl _ _ _ _ _ (⟨⟨_, _, _, _, _, _⟩, _, _⟩ :: _) _ _ _); refine SLl.ev rfl rfl rfl rfl ?_)) | (first | refine SLc.seq ?_ | refine SLc.region rfl ?_)))
      refine SLl.seq rfl rfl (SLo.call plain41 rfl (SLf.mono (Take_in W _ _ _ lb sb lq ht hlq (by omega)) ?_))
      rintro v σ2 ⟨lq', rfl, hlq', rfl⟩
      have key : (decide (Q = []) = true ∧ (ints Q).length = 0) ∨ (decide (Q = []) = false ∧ (ints Q).length ≠ 0 ∧ ∃ y, (ints Q)[0]? = some [.int .i64 y] ∧ y ≠ (id : Int)) := by
        cases Q with
        | nil => exact .inl ⟨rfl, rfl⟩
        | cons y r => exact .inr ⟨rfl, by simp [ints], y, rfl, fun e => hm (by simp [e])⟩
      generalize decide (Q = []) = bq at key
      generalize hC0 : ints Q = C at *
      rcases key with ⟨rfl, hC⟩ | ⟨rfl, hC, y, hy0, hyn⟩
      all_goals
        (repeat' (first | (first | refine SLl.nil ?_ | ((show SLl _ _ _ _ _ (⟨⟨_, _, _, _, _, _⟩, _, _⟩ :: _) _ _ _); first | refine SLl.ev rfl rfl rfl rfl ?_ | ((show SLl _ _ _ _ _ (⟨⟨_, .load _ _, _, _, _, _⟩, _, _⟩ :: _) _ _ _); (refine SLl.rdSeq rfl rfl (Rd.load rfl rfl (by ((apply Reads.row; (· (repeat (first | apply Sel.here | apply Sel.there))); (· (assumption)); (· rfl))))) ?_)) | ((show SLl _ _ _ _ _ (⟨⟨_, .indexAddr _ _ _, _, _, _, _⟩, _, _⟩ :: _) _ _ _); (refine SLl.rdSeq rfl rfl (Rd.indexAddr rfl rfl (by ((apply Len.row; (· (repeat (first | apply Sel.here | apply Sel.there)))))) (by (exact ij0)) (by omega)) ?_)) | ((show SLl _ _ _ _ _ (⟨⟨_, .call ⟨.builtin .len, _, _⟩, _, _, _, _⟩, _, _⟩ :: _) _ _ _); refine SLl.rdSeq rfl rfl (Rd.len rfl (by ((apply Len.row; (· (repeat (first | apply Sel.here | apply Sel.there))))))) ?_) | ((show SLl _ _ _ _ _ (⟨⟨_, .binOp _ _ _ _ _, _, _, _, _⟩, _, _⟩ :: _) _ _ _); (first | (refine SLl.cmp rfl rfl rfl rfl rfl rfl ?_ ?_ <;> intro hq <;> simp only [cmpP] at hq <;> try ((exfalso; omega))) | refine SLl.pu rfl rfl rfl (Pu.neBool rfl rfl) ?_)) | refine SLl.skip rfl rfl ?_)) | (first | refine SLc.seq ?_ | refine SLc.region rfl ?_ | refine SLc.condF rfl ?_ | refine SLc.skip ?_)))
        refine SLl.pu rfl rfl rfl (Pu.indexArr1 rfl rfl rfl hid) ?_
        refine SLl.rdSeq rfl rfl (Rd.load rfl rfl (Reads.blk .here hA)) ?_
        (repeat' (first | (first | refine SLl.nil ?_ | ((show SLl _ _ _ _ _ (⟨⟨_, _, _, _, _, _⟩, _, _⟩ :: _) _ _ _); refine SLl.ev rfl rfl rfl rfl ?_)) | (first | refine SLc.seq ?_ | refine SLc.region rfl ?_ | refine SLc.condT rfl ?_)))
        refine SLl.pu rfl rfl rfl (Pu.indexArr1 rfl rfl rfl hid) ?_
        refine SLl.seq0 rfl (SLo.store rfl rfl rfl (One.lit rfl) (Wr.blk .here (by rw [hAl]; exact hid)) ?_)
        rw [hA2]
        (repeat' (first | (first | refine SLl.nil ?_ | ((show SLl _ _ _ _ _ (⟨⟨_, _, _, _, _, _⟩, _, _⟩ :: _) _ _ _); refine SLl.ev rfl rfl rfl rfl ?_)) | (refine SLc.region rfl ?_)))
        refine SLl.seq rfl rfl (SLo.buildSliceE (ints [(id : Int)]) (by decide) (by decide) rfl (by (repeat (first | exact CellsW.nil | (apply CellsW.cons; (· (exact Cel.one (by (exact One.lit rfl)))))))) (by simp [ints]) rfl (by rfl) ?_)
        intro nv hnv
        subst hC0
        refine SLl.seq rfl rfl (SLo.append (es := ints Q) (ys := ints [(id : Int)]) (by rfl) (by omega) rfl rfl (by (repeat (first | apply Sel.here | apply Sel.there))) (Src.row .here intsL_one) intsL_ones (by simp only [ints_len, List.length_singleton] at *; omega) (by simp only [ints_len, List.length_singleton] at *; omega) ?_)
        intro qv' hqv'
        (repeat' (first | (first | refine SLl.nil ?_ | ((show SLl _ _ _ _ _ (⟨⟨_, _, _, _, _, _⟩, _, _⟩ :: _) _ _ _); first | refine SLl.ev rfl rfl rfl rfl ?_ | ((show SLl _ _ _ _ _ (⟨⟨_, .binOp _ _ _ _ _, _, _, _, _⟩, _, _⟩ :: _) _ _ _); (refine SLl.pu rfl rfl rfl (Pu.add rfl rfl (IntWalk.i64_in _ (by omega))) ?_)))) | (refine SLc.region rfl ?_)))
        refine And.intro rfl (Exists.intro ((k + 1, Q ++ [(id : Int)]), (qv', lq'), o') (And.intro ⟨by dsimp only; omega, by dsimp only; rw [List.length_append, List.length_singleton]; omega, ?_, hlq'⟩ (And.intro (by dsimp only; omega) (And.intro (by (repeat' (first | exact trivial | apply And.intro | rfl))) ?_))))
        · exact List.nodup_append.2 ⟨hQn, by simp, fun a ha b hb => by rw [List.mem_singleton] at hb; subst hb; exact fun e => hm (e ▸ ha)⟩
        · exact .cons (by (repeat (first | apply Sel.here | apply Sel.there))) (Ent.row (by simp [ints]) (.skip .refl))
  · (repeat' (first | (first | refine SLl.nil ?_ | ((show SLl _ _ _ _ _ (⟨⟨_, _, _, _, _, _⟩, _, _⟩ :: _) _ _ _); first | refine SLl.ev rfl rfl rfl rfl ?_ | ((show SLl _ _ _ _ _ (⟨⟨_, .call ⟨.builtin .len, _, _⟩, _, _, _, _⟩, _, _⟩ :: _) _ _ _); refine SLl.rdSeq rfl rfl (Rd.len rfl (by ((apply Len.rs; exact Rs.mono (by assumption) (by (repeat' (exact Ent.drop))))))) ?_) | ((show SLl _ _ _ _ _ (⟨⟨_, .binOp _ _ _ _ _, _, _, _, _⟩, _, _⟩ :: _) _ _ _); ((refine SLl.cmp rfl rfl rfl rfl rfl rfl ?_ ?_ <;> intro hq <;> simp only [cmpP] at hq <;> try ((exfalso; omega))))))) | (first | refine SLc.seq ?_ | refine SLc.region rfl ?_ | refine SLc.condF rfl ?_ | refine SLc.block ?_ | refine SLc.exit ?_)))
    refine SLc.loop (ι := (Nat × Value) × Int × Sch) (fun s => [(10, .int .i64 s.1.1), (7, qv), (5, ptr lb)]) (fun s => .row qv 3 1 (ints Q) :: (lockC lb sb s.1.2 (lkOf s.2.1 (Q.drop s.1.1)) ++ (schC sb pv lw s.2.2 ++ []))) (fun s => s.1.1 ≤ Q.length ∧ (s.1.2 = .slice none 0 0 → (lkOf s.2.1 (Q.drop s.1.1)).queue = [])) (fun s => Q.length - s.1.1) ((0, lq), o, m0) ⟨Nat.zero_le _, hlq⟩ (by (repeat' (first | exact trivial | apply And.intro | rfl))) (.skip .refl) ?_
    clear hlq
    rintro ⟨⟨i, q⟩, w, m⟩ ⟨hi, hqn⟩
    dsimp only at hi hqn ⊢
    by_cases hlt : i < Q.length
    · have hx : Q[i]? = some Q[i] := List.getElem?_eq_getElem hlt
      have hdr : Q.drop i = Q[i] :: Q.drop (i + 1) := List.drop_eq_getElem_cons hlt
      have hn1 : Q[i] ∉ Q.drop (i + 1) := by
        have := hQn.sublist (List.drop_sublist i Q)
        rw [hdr] at this
        exact (List.nodup_cons.1 this).1
      rw [hdr] at hqn ⊢
      have hdl : (Q.drop (i + 1)).length = Q.length - (i + 1) := List.length_drop
      generalize Q[i] = x at hx hn1 hqn ⊢
      generalize hr0 : Q.drop (i + 1) = r at hn1 hdl hqn ⊢
      have hxc := ints_at hx
      have hrl := @ints_len r
      have hlk : (lkOf w (x :: r)).queue = r := rfl
      obtain ⟨m', hm'⟩ := lkOf_leave (o := w) (x := x) (r := r) m
      generalize hC0 : ints Q = C at *
      (repeat' (first | (first | refine SLl.nil ?_ | ((show SLl _ _ _ _ _ (⟨⟨_, _, _, _, _, _⟩, _, _⟩ :: _) _ _ _); first | refine SLl.ev rfl rfl rfl rfl ?_ | ((show SLl _ _ _ _ _ (⟨⟨_, .call ⟨.builtin .len, _, _⟩, _, _, _, _⟩, _, _⟩ :: _) _ _ _); refine SLl.rdSeq rfl rfl (Rd.len rfl (by ((apply Len.row; (· (repeat (apply Sel.here))))))) ?_) | ((show SLl _ _ _ _ _ (⟨⟨_, .binOp _ _ _ _ _, _, _, _, _⟩, _, _⟩ :: _) _ _ _); ((refine SLl.cmp rfl rfl rfl rfl rfl rfl ?_ ?_ <;> intro hq <;> simp only [cmpP] at hq <;> try ((exfalso; omega))))))) | (first | refine SLc.seq ?_ | refine SLc.region rfl ?_ | refine SLc.condT rfl ?_ | refine SLc.block ?_ | refine SLc.skip ?_)))
      refine SLc.draws [.row qv 3 1 C] [(0, .take), (2, .take), (3, .take), (4, .take), (5, .take), (1, .eff true), (6, .take), (7, .take), (8, .take), (11, .take), (12, .take), (13, .take), (14, .take), (15, .take), (9, .eff true), (10, .eff true), (16, .take), (17, .take), (18, .take), (19, .take), (20, .take), (21, .take), (22, .take), (23, .take), (24, .eff true), (25, .take), (26, .take), (27, .take), (28, .take), (29, .take), (30, .take), (31, .take), (32, .take), (33, .eff true), (34, .take)] mixed (by kernel_rfl) (.cons .here .drop) ?_
      (repeat' ((((show SLl _ _ _ _ _ (⟨⟨_, _, _, _, _, _⟩, _, _⟩ :: _) _ _ _); first | refine SLl.ev rfl rfl rfl rfl ?_ | ((show SLl _ _ _ _ _ (⟨⟨_, .load _ _, _, _, _, _⟩, _, _⟩ :: _) _ _ _); (refine SLl.rdTake rfl rfl (Rd.load rfl rfl (by ((apply Reads.row; (· (repeat (apply Sel.here))); (· (assumption)); (· rfl))))) ?_)) | ((show SLl _ _ _ _ _ (⟨⟨_, .indexAddr _ _ _, _, _, _, _⟩, _, _⟩ :: _) _ _ _); (refine SLl.rdTake rfl rfl (Rd.indexAddr rfl rfl (by ((apply Len.row; (· (repeat (apply Sel.here)))))) (by (rfl)) (by omega)) ?_))))))
      refine SLl.eff rfl rfl (SLo.call plain40 rfl (SLf.mono (Owner_in W _ _ lb sb q _) ?_))
      rintro v σ2 ⟨rfl, rfl⟩
      rw [show ownerM (lkOf w (x :: r)) = x from rfl]
      refine And.intro (fun _ => .cons .here .drop) ?_
      (repeat' ((((show SLl _ _ _ _ _ (⟨⟨_, _, _, _, _, _⟩, _, _⟩ :: _) _ _ _); first | refine SLl.ev rfl rfl rfl rfl ?_ | ((show SLl _ _ _ _ _ (⟨⟨_, .call ⟨.builtin .len, _, _⟩, _, _, _, _⟩, _, _⟩ :: _) _ _ _); refine SLl.rdTake rfl rfl (Rd.len rfl (by ((apply Len.row; (· (repeat (apply Sel.here))))))) ?_) | ((show SLl _ _ _ _ _ (⟨⟨_, .binOp _ _ _ _ _, _, _, _, _⟩, _, _⟩ :: _) _ _ _); (first | refine SLl.pu rfl rfl rfl (Pu.sub rfl rfl (IntWalk.i64_in _ (by omega))) ?_ | (refine SLl.cmp rfl rfl rfl rfl rfl rfl ?_ ?_ <;> intro hq <;> simp only [cmpP] at hq <;> try ((exfalso; omega)))))))))
      refine SLl.eff rfl rfl (SLo.call plain42 rfl (SLf.mono (Queue_in W _ _ lb sb q _ hqn (by rw [hlk]; omega)) ?_))
      rintro v σ2 rfl
      rw [hlk]
      refine And.intro (fun _ => .cons .here .drop) ?_
      refine SLl.eff rfl rfl (Rd.slo (Rd.len rfl (Len.row (.there .here))) ?_)
      refine And.intro (fun _ => .cons .here .drop) ?_
      (repeat' ((((show SLl _ _ _ _ _ (⟨⟨_, _, _, _, _, _⟩, _, _⟩ :: _) _ _ _); first | refine SLl.ev rfl rfl rfl rfl ?_ | ((show SLl _ _ _ _ _ (⟨⟨_, .load _ _, _, _, _, _⟩, _, _⟩ :: _) _ _ _); (refine SLl.rdTake rfl rfl (Rd.load rfl rfl (by ((apply Reads.row; (· (repeat (apply Sel.here))); (· (assumption)); (· rfl))))) ?_)) | ((show SLl _ _ _ _ _ (⟨⟨_, .indexAddr _ _ _, _, _, _, _⟩, _, _⟩ :: _) _ _ _); (refine SLl.rdTake rfl rfl (Rd.indexAddr rfl rfl (by ((apply Len.row; (· (repeat (apply Sel.here)))))) (by (rfl)) (by omega)) ?_)) | ((show SLl _ _ _ _ _ (⟨⟨_, .binOp _ _ _ _ _, _, _, _, _⟩, _, _⟩ :: _) _ _ _); ((refine SLl.cmp rfl rfl rfl rfl rfl rfl ?_ ?_ <;> intro hq <;> simp only [cmpP] at hq <;> try ((exfalso; omega)))))))))
      refine SLl.eff rfl rfl (SLo.call plain39 rfl (SLf.ent (.cons .here (.skip .refl)) (SLf.mono (Leave_in W _ _ lb sb q pv lw hm' hqn (by rw [hlk]; omega)) ?_)))
      rintro v2 σ2 ⟨q2, rfl, hq2, rfl⟩
      refine And.intro (fun _ => .cons .here .drop) ?_
      (repeat' ((((show SLl _ _ _ _ _ (⟨⟨_, _, _, _, _, _⟩, _, _⟩ :: _) _ _ _); first | refine SLl.ev rfl rfl rfl rfl ?_ | ((show SLl _ _ _ _ _ (⟨⟨_, .load _ _, _, _, _, _⟩, _, _⟩ :: _) _ _ _); (refine SLl.rdTake rfl rfl (Rd.load rfl rfl (by ((apply Reads.row; (· (repeat (apply Sel.here))); (· (assumption)); (· rfl))))) ?_)) | ((show SLl _ _ _ _ _ (⟨⟨_, .indexAddr _ _ _, _, _, _, _⟩, _, _⟩ :: _) _ _ _); (refine SLl.rdTake rfl rfl (Rd.indexAddr rfl rfl (by ((apply Len.row; (· (repeat (apply Sel.here)))))) (by (rfl)) (by omega)) ?_))))))
      refine SLl.eff rfl rfl (SLo.call plain39 rfl (SLf.mono (Leave_in W _ _ lb sb q2 pv lw (lkOf_not m' hn1) hq2 (by rw [lkOf_queue]; omega)) ?_))
      rintro v3 σ2 ⟨q3, rfl, hq3, rfl⟩
      refine And.intro (fun _ => .cons .here .drop) ?_
      (repeat' (first | (first | refine SLl.nil ?_ | ((show SLl _ _ _ _ _ (⟨⟨_, _, _, _, _, _⟩, _, _⟩ :: _) _ _ _); first | refine SLl.ev rfl rfl rfl rfl ?_ | ((show SLl _ _ _ _ _ (⟨⟨_, .binOp _ _ _ _ _, _, _, _, _⟩, _, _⟩ :: _) _ _ _); (refine SLl.pu rfl rfl rfl (Pu.add rfl rfl (IntWalk.i64_in _ (by omega))) ?_)))) | (first | refine SLc.region rfl ?_ | refine SLc.condF rfl ?_ | refine SLc.skip ?_)))
      refine And.intro rfl (Exists.intro ((i + 1, q3), x, m') (And.intro ⟨by dsimp only; omega, by dsimp only; rw [hr0]; exact hq3⟩ (And.intro (by dsimp only; omega) (And.intro (by (repeat' (first | exact trivial | apply And.intro | rfl))) ?_))))
      dsimp only
      rw [hr0]
      exact .refl
    · obtain rfl : i = Q.length := by omega
      rw [List.drop_length]
      (repeat' (first | (first | refine SLl.nil ?_ | ((show SLl _ _ _ _ _ (⟨⟨_, _, _, _, _, _⟩, _, _⟩ :: _) _ _ _); first | refine SLl.ev rfl rfl rfl rfl ?_ | ((show SLl _ _ _ _ _ (⟨⟨_, .call ⟨.builtin .len, _, _⟩, _, _, _, _⟩, _, _⟩ :: _) _ _ _); refine SLl.rdSeq rfl rfl (Rd.len rfl (by ((apply Len.row; (· (repeat (apply Sel.here))))))) ?_) | ((show SLl _ _ _ _ _ (⟨⟨_, .binOp _ _ _ _ _, _, _, _, _⟩, _, _⟩ :: _) _ _ _); ((refine SLl.cmp rfl rfl rfl rfl rfl rfl ?_ ?_ <;> intro hq <;> simp only [cmpP] at hq <;> try ((exfalso; omega))))))) | (first | refine SLc.seq ?_ | refine SLc.region rfl ?_ | refine SLc.condF rfl ?_ | refine SLc.exit ?_)))
      refine SLl.seq rfl rfl (SLo.call plain40 rfl (SLf.mono (Owner_in W _ _ lb sb q _) ?_))
      rintro v σ2 ⟨rfl, rfl⟩
      rw [show ownerM (lkOf w []) = -1 from rfl]
      (repeat' (first | (first | refine SLl.nil ?_ | ((show SLl _ _ _ _ _ (⟨⟨_, _, _, _, _, _⟩, _, _⟩ :: _) _ _ _); first | refine SLl.ev rfl rfl rfl rfl ?_ | ((show SLl _ _ _ _ _ (⟨⟨_, .binOp _ _ _ _ _, _, _, _, _⟩, _, _⟩ :: _) _ _ _); ((refine SLl.cmp rfl rfl rfl rfl rfl rfl ?_ ?_ <;> intro hq <;> simp only [cmpP] at hq <;> try (exact (hq trivial).elim)))))) | (refine SLc.ret ?_)))
      exact And.intro rfl (Exists.intro _ (Exists.intro [] (And.intro rfl (And.intro .drop rfl))))
end Go.Sl
