/- backstitchlaw16.LockPlays: the walk. -/
import Derived.Test.YtloeicnadchkpaaLock3
import Derived.Test.YtloeicnadchkpaaRefLock
namespace Go.Sl
open Go.Proofs
attribute [local irreducible] SLc SLl SLo SLf Pu Rd

theorem Leave_in2 (W : World) (c1 c2 : Chunk) (F : List Chunk) (lb sb : Nat) (qv pv lv : Value) {L L' : Lck} {m m' : Sch} {id : Int} {bv : Bool} (h : leaveM L m id = (bv, L', m')) (hn : qv = .slice none 0 0 → L.queue = []) (hl : L.queue.length ≤ 100000) :
    SLf Try.prog W 39 [ptr lb, .int .i64 id] (c1 :: c2 :: (lockC lb sb qv L ++ (schC sb pv lv m ++ F))) (fun r σ => ∃ qv', r = .bool bv ∧ (qv' = .slice none 0 0 → L'.queue = []) ∧ σ = c1 :: c2 :: (lockC lb sb qv' L' ++ (schC sb pv lv m' ++ F))) := by
  refine SLf.ent (.trans .in2 (.left _ .in2)) (SLf.to (Leave_at W (c1 :: c2 :: F) lb sb qv pv lv h hn (Nat.ble_eq_true_of_le hl)) ?_)
  rintro v σ ⟨q, rfl, h, rfl⟩
  exact ⟨_, .trans (.left _ .out2) .out2, q, rfl, h, rfl⟩
theorem Owner_in3 (W : World) (c1 c2 c3 : Chunk) (F : List Chunk) (lb sb : Nat) (qv : Value) (L : Lck) : SLf Try.prog W 40 [ptr lb] (c1 :: c2 :: c3 :: (lockC lb sb qv L ++ F)) (fun r σ => r = .int .i64 (ownerM L) ∧ σ = c1 :: c2 :: c3 :: (lockC lb sb qv L ++ F)) := by
  refine SLf.ent (.trans (.cons .here .in2) .into) (SLf.to (Owner_ok W (c1 :: c2 :: c3 :: F) lb sb qv L) ?_)
  rintro v σ ⟨rfl, rfl⟩
  exact ⟨_, .trans .out (.cons .here .out2), rfl, rfl⟩
theorem Queue_in2 (W : World) (c1 c2 : Chunk) (F : List Chunk) (lb sb : Nat) (qv : Value) (L : Lck) (hn : qv = .slice none 0 0 → L.queue = []) (hl : L.queue.length ≤ 1000000) :
    SLf Try.prog W 42 [ptr lb] (c1 :: c2 :: (lockC lb sb qv L ++ F)) (fun r σ => σ = .row r 3 1 (ints L.queue) :: c1 :: c2 :: (lockC lb sb qv L ++ F)) := by
  refine SLf.ent .in2 (SLf.to (Queue_ok W (c1 :: c2 :: F) lb sb qv L hn hl) ?_)
  rintro v σ rfl
  exact ⟨_, .cons .here .out2, rfl⟩
theorem Waiting_in2 (W : World) (c1 c2 : Chunk) (G F : List Chunk) (sb : Nat) (pv lv : Value) (m : Sch) (hm : SchOk m) :
    SLf Try.prog W 56 [ptr sb] (c1 :: c2 :: (G ++ (schC sb pv lv m ++ F))) (fun r σ => σ = .row r 3 1 (natL (waitN m)) :: c1 :: c2 :: (G ++ (schC sb pv lv m ++ F))) := by
  refine SLf.ent (.trans .in2 (.trans (.left _ .in2) .swp)) (SLf.to (Waiting_ok W (G ++ (c1 :: c2 :: F)) sb pv lv m hm) ?_)
  rintro v σ rfl
  exact ⟨_, .cons .here (.trans .swp (.trans (.left _ .out2) .out2)), rfl⟩
theorem RLeave_x (W : World) (F : List Chunk) (rb : Nat) (qv : Value) (o : Int) (q : List Int) (id : Int) (hl : q.length ≤ 100000) :
    SLf Try.prog W 78 [ptr rb, .int .i64 id] (.blk rb 124 [.int .i64 o, qv] :: .row qv 3 1 (ints q) :: F) (fun r σ => ∃ qv', r = .bool (rleaveM o q id).1 ∧ σ = .blk rb 124 [.int .i64 (rleaveM o q id).2.1, qv'] :: .row qv' 3 1 (ints (rleaveM o q id).2.2) :: F) := RLeave_ok W F rb qv o q id hl
theorem wrap9 (i : Int) : 0 ≤ (i.tmod 9 + 9).tmod 9 ∧ (i.tmod 9 + 9).tmod 9 < 9 ∧ -9 < i.tmod 9 ∧ i.tmod 9 < 9 := by
  have h1 := Int.tmod_lt_of_pos i (b := 9) (by omega)
  have h2 := Int.lt_tmod_of_pos i (b := 9) (by omega)
  rw [Int.tmod_eq_emod_of_nonneg (a := i.tmod 9 + 9) (by omega)]
  omega
/-- What holds of a lock: who has it and who stands there are numbers not below nought. -/
structure LckOk (L : Lck) : Prop where
  owner : L.taken = true → 0 ≤ L.owner
  queue : ∀ x ∈ L.queue, 0 ≤ x
theorem takeM_ok {L : Lck} {id : Int} (h : LckOk L) (h0 : 0 ≤ id) : ∃ b L', takeM L id = (b, L') ∧ rtakeM (ownerM L) L.queue id = (b, ownerM L', L'.queue) ∧ LckOk L' ∧ L'.queue.length ≤ L.queue.length + 1 := by
  obtain ⟨tk, ow, q⟩ := L
  cases tk with
  | false => exact ⟨true, ⟨true, id, q⟩, rfl, rfl, ⟨fun _ => h0, h.queue⟩, by dsimp only; omega⟩
  | true =>
    have ho : 0 ≤ ow := h.owner rfl
    by_cases h1 : ow = id
    · refine ⟨true, ⟨true, ow, q⟩, by simp [takeM, h1], ?_, h, by dsimp only; omega⟩
      simp [rtakeM, ownerM, h1]
    · have hn : ¬ (ow < 0 ∨ ow = id) := by omega
      by_cases h2 : id ∈ q
      · refine ⟨false, ⟨true, ow, q⟩, by simp [takeM, h1, h2], ?_, h, by dsimp only; omega⟩
        simp only [rtakeM, ownerM, if_true]
        rw [if_neg hn, if_pos h2]
      · refine ⟨false, ⟨true, ow, q ++ [id]⟩, by simp [takeM, h1, h2], ?_, ⟨fun _ => ho, fun x hx => ?_⟩, by simp⟩
        · simp only [rtakeM, ownerM, if_true]
          rw [if_neg hn, if_neg h2]
        · rcases List.mem_append.1 hx with hx | hx
          · exact h.queue x hx
          · rw [List.mem_singleton] at hx; omega
theorem leave_cases {L : Lck} {m : Sch} {id : Int} (h : LckOk L) (h0 : 0 ≤ id) :
    (ownerM L ≠ id ∧ leaveM L m id = (false, L, m) ∧ rleaveM (ownerM L) L.queue id = (false, ownerM L, L.queue)) ∨
    (ownerM L = id ∧ leaveM L m id = (true, ⟨false, id, []⟩, m) ∧ rleaveM (ownerM L) L.queue id = (true, -1, [])) ∨
    (ownerM L = id ∧ ∃ x r, L.queue = x :: r ∧ 0 ≤ x ∧ LckOk ⟨true, x, r⟩ ∧ leaveM L m id = (true, ⟨true, x, r⟩, (wakeM m x).2) ∧ rleaveM (ownerM L) L.queue id = (true, x, r)) := by
  obtain ⟨tk, ow, q⟩ := L
  cases tk with
  | false => refine .inl ⟨by simp [ownerM]; omega, by simp [leaveM], ?_⟩; simp only [rleaveM, ownerM]; rw [if_pos (.inl (by simp; omega))]
  | true =>
    have e1 : ownerM ⟨true, ow, q⟩ = ow := rfl
    rw [e1]
    by_cases h1 : ow = id
    · subst h1
      have hn : ¬ (ow ≠ ow ∨ ow < 0) := by omega
      cases q with
      | nil => exact .inr (.inl ⟨rfl, by simp [leaveM], by simp only [rleaveM]; rw [if_neg hn]⟩)
      | cons x r =>
        refine .inr (.inr ⟨rfl, x, r, rfl, h.queue x (.head _), ⟨fun _ => h.queue x (.head _), fun y hy => h.queue y (.tail _ hy)⟩, by simp [leaveM], by simp only [rleaveM]; rw [if_neg hn]⟩)
    · exact .inl ⟨h1, by simp [leaveM, h1], by simp only [rleaveM]; rw [if_pos (.inl h1)]⟩
theorem wakeM_ok {m : Sch} {x : Int} (h : SchOk m) : SchOk (wakeM m x).2 := by
  unfold wakeM
  split
  · split
    · rename_i t ht
      split
      · exact h
      · refine ⟨fun u hu => ?_, by simpa using h.few⟩
        rcases List.mem_or_eq_of_mem_set hu with hu | rfl
        · exact h.steps u hu
        · exact h.steps t (List.mem_of_getElem? ht)
    · exact h
  · exact h
theorem wake_runs {m : Sch} {x : Int} {i : Nat} (h : i ∈ waitN (wakeM m x).2) : (i : Int) ≠ x := by
  rintro rfl
  obtain ⟨hlt, t, ht, hw⟩ := pickN_mem h
  unfold wakeM at ht hlt
  split at ht
  · rename_i hth
    rw [if_pos hth] at hlt
    simp only [Int.toNat_natCast] at ht hlt
    cases hm : m.tasks[i]? with
    | none => rw [hm] at ht; simp only at ht; rw [hm] at ht; cases ht
    | some u =>
      rw [hm] at ht
      simp only at ht
      split at ht
      · rename_i hd
        simp only at ht
        rw [hm] at ht
        cases ht
        simp [waitsT, hd] at hw
      · simp only at ht
        rw [List.getElem?_set, if_pos rfl] at ht
        split at ht
        · cases ht
          simp [waitsT, wokenT] at hw
        · cases ht
  · rename_i hth
    rw [if_neg hth] at hlt
    simp only at hlt
    exact hth (by simp [thereM]; omega)
set_option pp.maxSteps 1000000 in
set_option pp.deepTerms true in
set_option maxHeartbeats 2000000 in
theorem Plays16 (W : World) (uv : Value) (U : List Int) (hu : Rs W [] uv 1 (ints U)) (hUl : U.length ≤ 140737488355328) : SLf Try.prog W 26 [uv] [] (fun v _ => v = .bool true) := by
  have hul := @ints_len U
  refine SLf.enter Try.func26 rfl (Nat.le_of_ble_eq_true rfl) ?_
  (repeat' (first | (first | refine SLl.nil ?_ | ((show SLl _ _ _ _ _ (⟨⟨_, _, _, _, _, _⟩, _, _⟩ :: _) _ _ _); refine SLl.ev rfl rfl rfl rfl ?_)) | (first | refine SLc.seq ?_ | refine SLc.region rfl ?_)))
  refine SLl.seq rfl rfl (SLo.call plain34 rfl (SLf.mono (Awake16 W []) ?_))
  rintro v σ ⟨rfl, rfl⟩
  (repeat' (first | (first | refine SLl.nil ?_ | ((show SLl _ _ _ _ _ (⟨⟨_, _, _, _, _, _⟩, _, _⟩ :: _) _ _ _); first | refine SLl.ev rfl rfl rfl rfl ?_ | ((show SLl _ _ _ _ _ (⟨⟨_, .call ⟨.builtin .len, _, _⟩, _, _, _, _⟩, _, _⟩ :: _) _ _ _); refine SLl.rdSeq rfl rfl (Rd.len rfl (by ((apply Len.rs; exact Rs.mono (by assumption) (by (repeat' (exact Ent.refl))))))) ?_) | ((show SLl _ _ _ _ _ (⟨⟨_, .binOp _ _ _ _ _, _, _, _, _⟩, _, _⟩ :: _) _ _ _); ((refine SLl.cmp rfl rfl rfl rfl rfl rfl ?_ ?_ <;> intro hq <;> simp only [cmpP] at hq <;> try (fail)))))) | (first | refine SLc.seq ?_ | refine SLc.region rfl ?_ | refine SLc.condT rfl ?_ | refine SLc.condF rfl ?_ | refine SLc.skip ?_ | refine SLc.ret ?_)))
  · refine And.intro rfl (Exists.intro _ (Exists.intro [] (And.intro rfl (And.intro .drop rfl))))
  refine SLl.seq rfl rfl (SLo.call plain35 rfl (SLf.mono (New_ok W [] (.slice none 0 0) [] Rs.nil (by simp)) ?_))
  rintro v σ2 ⟨sb, pv, rfl, rfl⟩
  (repeat' (first | (first | refine SLl.nil ?_ | ((show SLl _ _ _ _ _ (⟨⟨_, _, _, _, _, _⟩, _, _⟩ :: _) _ _ _); refine SLl.ev rfl rfl rfl rfl ?_)) | (first | refine SLc.seq ?_ | refine SLc.region rfl ?_ | refine SLc.block ?_)))
  refine SLc.loop (ι := Nat × Value) (fun s => [(4, .int .i64 s.1), (3, ptr sb), (0, uv)]) (fun s => schC sb pv s.2 (stays 37 s.1) ++ []) (fun s => s.1 ≤ 9) (fun s => 9 - s.1) (0, .slice none 0 0) (Nat.zero_le _) (by (repeat' (first | exact trivial | apply And.intro | rfl))) .refl ?_
  rintro ⟨i, lv⟩ hi
  dsimp only at hi ⊢
  by_cases hlt : i < 9
  · (repeat' (first | (first | refine SLl.nil ?_ | ((show SLl _ _ _ _ _ (⟨⟨_, _, _, _, _, _⟩, _, _⟩ :: _) _ _ _); first | refine SLl.ev rfl rfl rfl rfl ?_ | ((show SLl _ _ _ _ _ (⟨⟨_, .binOp _ _ _ _ _, _, _, _, _⟩, _, _⟩ :: _) _ _ _); ((refine SLl.cmp rfl rfl rfl rfl rfl rfl ?_ ?_ <;> intro hq <;> simp only [cmpP] at hq <;> try ((exfalso; omega))))))) | (first | refine SLc.seq ?_ | refine SLc.region rfl ?_ | refine SLc.condT rfl ?_ | refine SLc.block ?_ | refine SLc.skip ?_)))
    refine SLl.seq rfl rfl (SLo.call plain36 rfl (SLf.mono (Go_ok W [] sb pv lv (stays 37 i) (.func 37) #[] #[] (by rw [stays_len]; omega)) ?_))
    rintro v σ2 ⟨lv', rfl, rfl⟩
    rw [stays_add]
    (repeat' (first | (first | refine SLl.nil ?_ | ((show SLl _ _ _ _ _ (⟨⟨_, _, _, _, _, _⟩, _, _⟩ :: _) _ _ _); first | refine SLl.ev rfl rfl rfl rfl ?_ | ((show SLl _ _ _ _ _ (⟨⟨_, .binOp _ _ _ _ _, _, _, _, _⟩, _, _⟩ :: _) _ _ _); (refine SLl.pu rfl rfl rfl (Pu.add rfl rfl (IntWalk.i64_in _ (by omega))) ?_)))) | (refine SLc.region rfl ?_)))
    exact And.intro rfl (Exists.intro (i + 1, lv') (And.intro (by dsimp only; omega) (And.intro (by dsimp only; omega) (And.intro (by (repeat' (first | exact trivial | apply And.intro | rfl))) .refl))))
  obtain rfl : i = 9 := by omega
  (repeat' (first | (first | refine SLl.nil ?_ | ((show SLl _ _ _ _ _ (⟨⟨_, _, _, _, _, _⟩, _, _⟩ :: _) _ _ _); first | refine SLl.ev rfl rfl rfl rfl ?_ | ((show SLl _ _ _ _ _ (⟨⟨_, .binOp _ _ _ _ _, _, _, _, _⟩, _, _⟩ :: _) _ _ _); ((refine SLl.cmp rfl rfl rfl rfl rfl rfl ?_ ?_ <;> intro hq <;> simp only [cmpP] at hq <;> try ((exfalso; omega))))))) | (first | refine SLc.seq ?_ | refine SLc.region rfl ?_ | refine SLc.condF rfl ?_ | refine SLc.exit ?_)))
  refine SLl.seq rfl rfl (SLo.call plain45 rfl (SLf.mono (RunStays W [] sb pv lv 37 9 100 (by decide) (by decide) (by decide) plain37 (Stay16 W)) ?_))
  rintro v σ2 ⟨lw, rfl, rfl⟩
  have hm0 : SchOk (staysW 37 9) := ⟨fun t ht => by simp only [staysW, List.mem_replicate] at ht; obtain ⟨_, rfl⟩ := ht; rfl, Nat.le_of_ble_eq_true rfl⟩
  generalize staysW 37 9 = m0 at hm0 ⊢
  (repeat' (first | (first | refine SLl.nil ?_ | ((show SLl _ _ _ _ _ (⟨⟨_, _, _, _, _, _⟩, _, _⟩ :: _) _ _ _); refine SLl.ev rfl rfl rfl rfl ?_)) | (first | refine SLc.seq ?_ | refine SLc.region rfl ?_)))
  refine SLl.seq rfl rfl (SLo.call plain38 rfl (SLf.mono (LNew_ok W _ sb) ?_))
  rintro v σ2 ⟨lb, rfl, rfl⟩
  (repeat' (first | (first | refine SLl.nil ?_ | ((show SLl _ _ _ _ _ (⟨⟨_, _, _, _, _, _⟩, _, _⟩ :: _) _ _ _); first | refine SLl.ev rfl rfl rfl rfl ?_ | ((show SLl _ _ _ _ _ (⟨⟨_, .binOp _ _ _ _ _, _, _, _, _⟩, _, _⟩ :: _) _ _ _); (refine SLl.pu rfl rfl rfl (Pu.eqPtrNil rfl rfl) ?_)) | ((show SLl _ _ _ _ _ (⟨⟨_, .box _ _, _, _, _, _⟩, _, _⟩ :: _) _ _ _); refine SLl.seq rfl rfl (SLo.boxC rfl (by (exact Cel.agg)) ?_); intro b) | ((show SLl _ _ _ _ _ (⟨⟨_, .build _ _, _, _, _, _⟩, _, _⟩ :: _) _ _ _); refine SLl.rdSeq rfl rfl (Rd.build rfl (by (repeat (first | exact CellsW.nil | (apply CellsW.cons; (· (exact Cel.one (by (exact One.lit rfl)))))))) (by rfl)) ?_))) | (first | refine SLc.seq ?_ | refine SLc.region rfl ?_ | refine SLc.condF rfl ?_ | refine SLc.block ?_ | refine SLc.skip ?_)))
  refine SLc.loop (ι := Nat × (Value × Value) × Lck × Sch) (fun s => [(7, .int .i64 s.1), (6, ptr b), (5, ptr lb), (3, ptr sb), (0, uv)]) (fun s => .blk b 124 [.int .i64 (ownerM s.2.2.1), s.2.1.2] :: .row s.2.1.2 3 1 (ints s.2.2.1.queue) :: (lockC lb sb s.2.1.1 s.2.2.1 ++ (schC sb pv lw s.2.2.2 ++ []))) (fun s => s.1 ≤ U.length ∧ s.2.2.1.queue.length ≤ s.1 ∧ (s.2.1.1 = .slice none 0 0 → s.2.2.1.queue = []) ∧ LckOk s.2.2.1 ∧ SchOk s.2.2.2) (fun s => U.length - s.1) (0, (.slice none 0 0, .slice none 0 0), ⟨false, 0, []⟩, m0) ⟨Nat.zero_le _, Nat.zero_le _, fun _ => rfl, ⟨fun h => (by cases h), fun x hx => (by cases hx)⟩, hm0⟩ (by (repeat' (first | exact trivial | apply And.intro | rfl))) ?_ ?_
  · exact .cons .here (.nil .refl)
  rintro ⟨k, ⟨lq, rq⟩, L, m⟩ ⟨hk, hqk, hlq, hL, hm⟩
  dsimp only at hk hqk hlq hL hm ⊢
  by_cases hlt : k < U.length
  · have hx : U[k]? = some U[k] := List.getElem?_eq_getElem hlt
    generalize U[k] = x at hx
    have hxc := ints_at hx
    (repeat' (first | (first | refine SLl.nil ?_ | ((show SLl _ _ _ _ _ (⟨⟨_, _, _, _, _, _⟩, _, _⟩ :: _) _ _ _); first | refine SLl.ev rfl rfl rfl rfl ?_ | ((show SLl _ _ _ _ _ (⟨⟨_, .load _ _, _, _, _, _⟩, _, _⟩ :: _) _ _ _); (refine SLl.rdSeq rfl rfl (Rd.load rfl rfl (by ((apply Reads.rs; (· exact Rs.mono (by assumption) (by (repeat' (exact Ent.drop)))); (· (assumption)); (· rfl))))) ?_)) | ((show SLl _ _ _ _ _ (⟨⟨_, .indexAddr _ _ _, _, _, _, _⟩, _, _⟩ :: _) _ _ _); (refine SLl.rdSeq rfl rfl (Rd.indexAddr rfl rfl (by ((apply Len.rs; exact Rs.mono (by assumption) (by (repeat' (exact Ent.drop)))))) (by (rfl)) (by omega)) ?_)) | ((show SLl _ _ _ _ _ (⟨⟨_, .call ⟨.builtin .len, _, _⟩, _, _, _, _⟩, _, _⟩ :: _) _ _ _); refine SLl.rdSeq rfl rfl (Rd.len rfl (by ((apply Len.rs; exact Rs.mono (by assumption) (by (repeat' (exact Ent.drop))))))) ?_) | ((show SLl _ _ _ _ _ (⟨⟨_, .binOp _ _ _ _ _, _, _, _, _⟩, _, _⟩ :: _) _ _ _); ((refine SLl.cmp rfl rfl rfl rfl rfl rfl ?_ ?_ <;> intro hq <;> simp only [cmpP] at hq <;> try ((exfalso; omega))))))) | (first | refine SLc.seq ?_ | refine SLc.region rfl ?_ | refine SLc.condT rfl ?_ | refine SLc.block ?_ | refine SLc.skip ?_)))
    refine SLl.pu rfl rfl rfl (Pu.shrAny rfl rfl) ?_
    generalize x / 2 ^ min 1 IntKind.i64.bits = y
    obtain ⟨hi0, hi1, hi2, hi3⟩ := wrap9 y
    refine SLl.pu rfl rfl rfl (Pu.remI (j := 9) rfl rfl (by decide)) ?_
    generalize y.tmod 9 = y at *
    (repeat' ((((show SLl _ _ _ _ _ (⟨⟨_, _, _, _, _, _⟩, _, _⟩ :: _) _ _ _); ((show SLl _ _ _ _ _ (⟨⟨_, .binOp _ _ _ _ _, _, _, _, _⟩, _, _⟩ :: _) _ _ _); (refine SLl.pu rfl rfl rfl (Pu.add rfl rfl (IntWalk.i64_in _ (by omega))) ?_))))))
    refine SLl.pu rfl rfl rfl (Pu.remI (j := 9) rfl rfl (by decide)) ?_
    generalize (y + 9).tmod 9 = id at *
    (repeat' (first | (first | refine SLl.nil ?_ | ((show SLl _ _ _ _ _ (⟨⟨_, _, _, _, _, _⟩, _, _⟩ :: _) _ _ _); first | refine SLl.ev rfl rfl rfl rfl ?_ | ((show SLl _ _ _ _ _ (⟨⟨_, .load _ _, _, _, _, _⟩, _, _⟩ :: _) _ _ _); (refine SLl.rdSeq rfl rfl (Rd.load rfl rfl (by ((apply Reads.rs; (· exact Rs.mono (by assumption) (by (repeat' (exact Ent.drop)))); (· (assumption)); (· rfl))))) ?_)) | ((show SLl _ _ _ _ _ (⟨⟨_, .indexAddr _ _ _, _, _, _, _⟩, _, _⟩ :: _) _ _ _); (refine SLl.rdSeq rfl rfl (Rd.indexAddr rfl rfl (by ((apply Len.rs; exact Rs.mono (by assumption) (by (repeat' (exact Ent.drop)))))) (by (rfl)) (by omega)) ?_)))) | (first | refine SLc.seq ?_ | refine SLc.region rfl ?_)))
    refine SLl.pu rfl rfl rfl (Pu.andAny rfl rfl) ?_
    generalize bits .and .i64 x 1 = bt
    refine SLl.pu rfl rfl rfl (Pu.cmp rfl rfl rfl) ?_
    generalize decide (cmpP BinOp.eql bt 0) = bb
    (repeat' ((refine SLl.nil ?_)))
    refine SLc.join (fun e ds σ => ds = [] ∧ ∃ lq' rq' L' m', (L'.queue.length ≤ k + 1 ∧ (lq' = .slice none 0 0 → L'.queue = []) ∧ LckOk L' ∧ SchOk m') ∧ Sub [(7, .int .i64 k), (6, ptr b), (5, ptr lb), (3, ptr sb), (0, uv)] e ∧ Ent σ (.blk b 124 [.int .i64 (ownerM L'), rq'] :: .row rq' 3 1 (ints L'.queue) :: (lockC lb sb lq' L' ++ (schC sb pv lw m' ++ [])))) ?_ ?_
    · cases bb with
      | true =>
        obtain ⟨bv, L', ht, hr, hL', hq'⟩ := takeM_ok hL hi0
        have hr1 := congrArg Prod.fst hr
        have hr2 := congrArg (fun y => y.2.1) hr
        have hr3 := congrArg (fun y => y.2.2) hr
        dsimp only at hr1 hr2 hr3
        (repeat' (first | (((show SLl _ _ _ _ _ (⟨⟨_, _, _, _, _, _⟩, _, _⟩ :: _) _ _ _); refine SLl.ev rfl rfl rfl rfl ?_)) | (first | refine SLc.seq ?_ | refine SLc.region rfl ?_ | refine SLc.condT rfl ?_)))
        refine SLl.seq rfl rfl (SLo.call plain41 rfl (SLf.mono (Take_in W _ _ _ lb sb lq ht hlq (by omega)) ?_))
        rintro v σ2 ⟨lq', rfl, hlq', rfl⟩
        (repeat' ((((show SLl _ _ _ _ _ (⟨⟨_, _, _, _, _, _⟩, _, _⟩ :: _) _ _ _); refine SLl.ev rfl rfl rfl rfl ?_))))
        refine SLl.seq rfl rfl (SLo.call plain77 rfl (SLf.mono (RTake_ok W _ b rq (ownerM L) L.queue id (by omega)) ?_))
        rintro v σ2 ⟨rq', rfl, rfl⟩
        rw [hr1, hr2, hr3]
        cases bv
        all_goals
          (repeat' (first | (first | refine SLl.nil ?_ | ((show SLl _ _ _ _ _ (⟨⟨_, _, _, _, _, _⟩, _, _⟩ :: _) _ _ _); ((show SLl _ _ _ _ _ (⟨⟨_, .binOp _ _ _ _ _, _, _, _, _⟩, _, _⟩ :: _) _ _ _); (refine SLl.pu rfl rfl rfl (Pu.neBool rfl rfl) ?_)))) | (first | refine SLc.condF rfl ?_ | refine SLc.skip ?_)))
          exact And.intro rfl (Exists.intro lq' (Exists.intro rq' (Exists.intro L' (Exists.intro m (And.intro ⟨by omega, hlq', hL', hm⟩ (And.intro (by (repeat' (first | exact trivial | apply And.intro | rfl))) .refl))))))
      | false =>
        (repeat' (first | (first | refine SLl.nil ?_ | ((show SLl _ _ _ _ _ (⟨⟨_, _, _, _, _, _⟩, _, _⟩ :: _) _ _ _); first | refine SLl.ev rfl rfl rfl rfl ?_ | ((show SLl _ _ _ _ _ (⟨⟨_, .load _ _, _, _, _, _⟩, _, _⟩ :: _) _ _ _); (refine SLl.rdSeq rfl rfl (Rd.load rfl rfl (by ((apply Reads.blk; (· (repeat (apply Sel.here))); (· rfl))))) ?_)) | ((show SLl _ _ _ _ _ (⟨⟨_, .fieldAddr _ _ _, _, _, _, _⟩, _, _⟩ :: _) _ _ _); (refine SLl.pu rfl rfl rfl (Pu.fieldAddr rfl) ?_)))) | (first | refine SLc.seq ?_ | refine SLc.region rfl ?_ | refine SLc.condF rfl ?_)))
        rcases leave_cases (m := m) hL hi0 with ⟨hne, hl1, hr⟩ | ⟨heq, hl1, hr⟩ | ⟨heq, x', r, hqq, hx0, hL', hl1, hr⟩
        all_goals
          have hr1 := congrArg Prod.fst hr
          have hr2 := congrArg (fun y => y.2.1) hr
          have hr3 := congrArg (fun y => y.2.2) hr
          dsimp only at hr1 hr2 hr3
          refine SLl.seq rfl rfl (SLo.call plain39 rfl (SLf.mono (Leave_in2 W _ _ _ lb sb lq pv lw hl1 hlq (by omega)) ?_))
          rintro v σ2 ⟨lq', rfl, hlq', rfl⟩
          (repeat' ((((show SLl _ _ _ _ _ (⟨⟨_, _, _, _, _, _⟩, _, _⟩ :: _) _ _ _); refine SLl.ev rfl rfl rfl rfl ?_))))
          refine SLl.seq rfl rfl (SLo.call plain78 rfl (SLf.mono (RLeave_x W _ b rq (ownerM L) L.queue id (by omega)) ?_))
          rintro v σ2 ⟨rq', rfl, rfl⟩
          rw [hr1, hr2, hr3]
          clear hr hr1 hr2 hr3 hl1
          generalize hoo : ownerM L = oo at *
          (repeat' (first | (first | refine SLl.nil ?_ | ((show SLl _ _ _ _ _ (⟨⟨_, _, _, _, _, _⟩, _, _⟩ :: _) _ _ _); first | refine SLl.ev rfl rfl rfl rfl ?_ | ((show SLl _ _ _ _ _ (⟨⟨_, .load _ _, _, _, _, _⟩, _, _⟩ :: _) _ _ _); (refine SLl.rdSeq rfl rfl (Rd.load rfl rfl (by ((apply Reads.blk; (· (repeat (apply Sel.here))); (· rfl))))) ?_)) | ((show SLl _ _ _ _ _ (⟨⟨_, .fieldAddr _ _ _, _, _, _, _⟩, _, _⟩ :: _) _ _ _); (refine SLl.pu rfl rfl rfl (Pu.fieldAddr rfl) ?_)) | ((show SLl _ _ _ _ _ (⟨⟨_, .binOp _ _ _ _ _, _, _, _, _⟩, _, _⟩ :: _) _ _ _); (first | (refine SLl.cmp rfl rfl rfl rfl rfl rfl ?_ ?_ <;> intro hq <;> simp only [cmpP] at hq <;> try ((exfalso; omega))) | refine SLl.pu rfl rfl rfl (Pu.neBool rfl rfl) ?_)) | refine SLl.skip rfl rfl ?_)) | (first | refine SLc.seq ?_ | refine SLc.region rfl ?_ | refine SLc.condT rfl ?_ | refine SLc.condF rfl ?_ | refine SLc.skip ?_)))
        · exact And.intro rfl (Exists.intro lq' (Exists.intro rq' (Exists.intro L (Exists.intro m (And.intro ⟨by omega, hlq', hL, hm⟩ (And.intro (by (repeat' (first | exact trivial | apply And.intro | rfl))) (by subst hoo; exact Ent.refl)))))))
        · exact And.intro rfl (Exists.intro lq' (Exists.intro rq' (Exists.intro (⟨false, id, []⟩ : Lck) (Exists.intro m (And.intro ⟨Nat.zero_le _, hlq', ⟨fun h => (by cases h), fun x hx => (by cases hx)⟩, hm⟩ (And.intro (by (repeat' (first | exact trivial | apply And.intro | rfl))) Ent.refl))))))
        · have hwr : ∀ i ∈ waitN (wakeM m x').2, (i : Int) ≠ x' := fun i hi => wake_runs hi
          have hm' := wakeM_ok (x := x') hm
          generalize (wakeM m x').2 = m' at *
          have hwb : (waitN m').length ≤ 128 := Nat.le_trans pickN_le hm'.few
          refine SLl.seq rfl rfl (SLo.call plain56 rfl (SLf.mono (Waiting_in2 W _ _ _ _ sb pv lw m' hm') ?_))
          rintro wv σ2 rfl
          generalize waitN m' = wl at hwr hwb ⊢
          have hwl := @natL_len wl
          (repeat' (first | (first | refine SLl.nil ?_ | ((show SLl _ _ _ _ _ (⟨⟨_, _, _, _, _, _⟩, _, _⟩ :: _) _ _ _); refine SLl.ev rfl rfl rfl rfl ?_)) | (first | refine SLc.seq ?_ | refine SLc.region rfl ?_ | refine SLc.block ?_)))
          refine SLc.loop (ι := Nat) (fun j => [(11, .int .i64 j), (10, wv), (7, .int .i64 k), (6, ptr b), (5, ptr lb), (3, ptr sb), (0, uv)]) (fun _ => .row wv 3 1 (natL wl) :: .blk b 124 [.int .i64 x', rq'] :: .row rq' 3 1 (ints r) :: (lockC lb sb lq' ⟨true, x', r⟩ ++ (schC sb pv lw m' ++ []))) (fun j => j ≤ wl.length) (fun j => wl.length - j) 0 (Nat.zero_le _) (by (repeat' (first | exact trivial | apply And.intro | rfl))) .refl ?_
          intro j hj
          by_cases hjl : j < wl.length
          · have hy : wl[j]? = some wl[j] := List.getElem?_eq_getElem hjl
            have hyn := hwr _ (List.getElem_mem hjl)
            generalize wl[j] = y at hy hyn
            have hyc := natL_at hy
            (repeat' (first | (first | refine SLl.nil ?_ | ((show SLl _ _ _ _ _ (⟨⟨_, _, _, _, _, _⟩, _, _⟩ :: _) _ _ _); first | refine SLl.ev rfl rfl rfl rfl ?_ | ((show SLl _ _ _ _ _ (⟨⟨_, .call ⟨.builtin .len, _, _⟩, _, _, _, _⟩, _, _⟩ :: _) _ _ _); refine SLl.rdSeq rfl rfl (Rd.len rfl (by ((apply Len.row; (· (repeat (apply Sel.here))))))) ?_) | ((show SLl _ _ _ _ _ (⟨⟨_, .binOp _ _ _ _ _, _, _, _, _⟩, _, _⟩ :: _) _ _ _); ((refine SLl.cmp rfl rfl rfl rfl rfl rfl ?_ ?_ <;> intro hq <;> simp only [cmpP] at hq <;> try ((exfalso; omega))))))) | (first | refine SLc.seq ?_ | refine SLc.region rfl ?_ | refine SLc.condT rfl ?_ | refine SLc.block ?_ | refine SLc.skip ?_)))
            refine SLc.drawsI [.row wv 3 1 (natL wl), .blk b 124 [.int .i64 x', rq']] (List.replicate 9 .take) mixed (by kernel_rfl) (.cons .here (.cons .here .drop)) ?_
            (repeat' (first | (first | refine SLl.nil ?_ | ((show SLl _ _ _ _ _ (⟨⟨_, _, _, _, _, _⟩, _, _⟩ :: _) _ _ _); first | refine SLl.ev rfl rfl rfl rfl ?_ | ((show SLl _ _ _ _ _ (⟨⟨_, .load _ _, _, _, _, _⟩, _, _⟩ :: _) _ _ _); (refine SLl.rdTake rfl rfl (Rd.load rfl rfl (by (first | (apply Reads.blk; (· (repeat (first | apply Sel.here | apply Sel.there))); (· rfl)) | (apply Reads.row; (· (repeat (apply Sel.here))); (· (assumption)); (· rfl))))) ?_)) | ((show SLl _ _ _ _ _ (⟨⟨_, .fieldAddr _ _ _, _, _, _, _⟩, _, _⟩ :: _) _ _ _); (refine SLl.pu rfl rfl rfl (Pu.fieldAddr rfl) ?_)) | ((show SLl _ _ _ _ _ (⟨⟨_, .indexAddr _ _ _, _, _, _, _⟩, _, _⟩ :: _) _ _ _); (refine SLl.rdTake rfl rfl (Rd.indexAddr rfl rfl (by ((apply Len.row; (· (repeat (apply Sel.here)))))) (by (rfl)) (by omega)) ?_)) | ((show SLl _ _ _ _ _ (⟨⟨_, .binOp _ _ _ _ _, _, _, _, _⟩, _, _⟩ :: _) _ _ _); (first | refine SLl.pu rfl rfl rfl (Pu.add rfl rfl (IntWalk.i64_in _ (by omega))) ?_ | (refine SLl.cmp rfl rfl rfl rfl rfl rfl ?_ ?_ <;> intro hq <;> simp only [cmpP] at hq <;> try ((exfalso; omega))))))) | (first | refine SLc.region rfl ?_ | refine SLc.condF rfl ?_ | refine SLc.skip ?_)))
            exact And.intro rfl (Exists.intro (j + 1) (And.intro (by omega) (And.intro (by omega) (And.intro (by (repeat' (first | exact trivial | apply And.intro | rfl))) .refl))))
          · (repeat' (first | (first | refine SLl.nil ?_ | ((show SLl _ _ _ _ _ (⟨⟨_, _, _, _, _, _⟩, _, _⟩ :: _) _ _ _); first | refine SLl.ev rfl rfl rfl rfl ?_ | ((show SLl _ _ _ _ _ (⟨⟨_, .call ⟨.builtin .len, _, _⟩, _, _, _, _⟩, _, _⟩ :: _) _ _ _); refine SLl.rdSeq rfl rfl (Rd.len rfl (by ((apply Len.row; (· (repeat (apply Sel.here))))))) ?_) | ((show SLl _ _ _ _ _ (⟨⟨_, .binOp _ _ _ _ _, _, _, _, _⟩, _, _⟩ :: _) _ _ _); ((refine SLl.cmp rfl rfl rfl rfl rfl rfl ?_ ?_ <;> intro hq <;> simp only [cmpP] at hq <;> try ((exfalso; omega))))))) | (first | refine SLc.seq ?_ | refine SLc.region rfl ?_ | refine SLc.condF rfl ?_ | refine SLc.exit ?_)))
            rw [hqq, List.length_cons] at hqk
            exact And.intro rfl (Exists.intro lq' (Exists.intro rq' (Exists.intro ⟨true, x', r⟩ (Exists.intro m' (And.intro ⟨by dsimp only; omega, hlq', hL', hm'⟩ (And.intro (by (repeat' (first | exact trivial | apply And.intro | rfl))) (.skip .refl)))))))
    · rintro e ds σ ⟨rfl, lq', rq', L', m', ⟨hq', hlq', hL', hm'⟩, hsub, hent⟩
      refine SLc.weaken hsub hent ?_
      clear hsub hent hqk hlq hL hm
      have hql := @ints_len L'.queue
      (repeat' (first | (((show SLl _ _ _ _ _ (⟨⟨_, _, _, _, _, _⟩, _, _⟩ :: _) _ _ _); refine SLl.ev rfl rfl rfl rfl ?_)) | (first | refine SLc.seq ?_ | refine SLc.region rfl ?_)))
      refine SLl.seq rfl rfl (SLo.call plain42 rfl (SLf.mono (Queue_in2 W _ _ _ lb sb lq' L' hlq' (by omega)) ?_))
      rintro qc σ2 rfl
      generalize hC0 : ints L'.queue = C at hql ⊢
      (repeat' (first | (first | refine SLl.nil ?_ | ((show SLl _ _ _ _ _ (⟨⟨_, _, _, _, _, _⟩, _, _⟩ :: _) _ _ _); refine SLl.ev rfl rfl rfl rfl ?_)) | (refine SLc.seq ?_)))
      refine SLc.drawsQ [.row qc 3 1 C, .blk b 124 [.int .i64 (ownerM L'), rq'], .row rq' 3 1 C] [(0, .free), (2, .free), (3, .free), (4, .free), (5, .take), (1, .eff true), (6, .free), (7, .free), (8, .free), (9, .take), (10, .free), (11, .free), (12, .free), (13, .take), (14, .take), (15, .free), (16, .free)] mixed (by kernel_rfl) (.cons .here (.cons .here (.cons .here .drop))) ?_
      (repeat' ((((show SLl _ _ _ _ _ (⟨⟨_, _, _, _, _, _⟩, _, _⟩ :: _) _ _ _); first | refine SLl.ev rfl rfl rfl rfl ?_ | ((show SLl _ _ _ _ _ (⟨⟨_, .load _ _, _, _, _, _⟩, _, _⟩ :: _) _ _ _); (refine SLl.rdTake rfl rfl (Rd.load rfl rfl (by ((apply Reads.blk; (· (repeat (first | apply Sel.here | apply Sel.there))); (· rfl))))) ?_)) | ((show SLl _ _ _ _ _ (⟨⟨_, .fieldAddr _ _ _, _, _, _, _⟩, _, _⟩ :: _) _ _ _); (refine SLl.pu rfl rfl rfl (Pu.fieldAddr rfl) ?_))))))
      refine SLl.eff rfl rfl (SLo.call plain40 rfl (SLf.mono (Owner_in3 W _ _ _ _ lb sb lq' L') ?_))
      rintro v σ2 ⟨rfl, rfl⟩
      refine And.intro (fun _ => .cons .here (.cons .here (.cons .here .drop))) ?_
      (repeat' (first | (first | refine SLl.nil ?_ | ((show SLl _ _ _ _ _ (⟨⟨_, _, _, _, _, _⟩, _, _⟩ :: _) _ _ _); first | refine SLl.ev rfl rfl rfl rfl ?_ | ((show SLl _ _ _ _ _ (⟨⟨_, .load _ _, _, _, _, _⟩, _, _⟩ :: _) _ _ _); (refine SLl.rdTake rfl rfl (Rd.load rfl rfl (by ((apply Reads.blk; (· (repeat (first | apply Sel.here | apply Sel.there))); (· rfl))))) ?_)) | ((show SLl _ _ _ _ _ (⟨⟨_, .fieldAddr _ _ _, _, _, _, _⟩, _, _⟩ :: _) _ _ _); (refine SLl.pu rfl rfl rfl (Pu.fieldAddr rfl) ?_)) | ((show SLl _ _ _ _ _ (⟨⟨_, .call ⟨.builtin .len, _, _⟩, _, _, _, _⟩, _, _⟩ :: _) _ _ _); refine SLl.rdTake rfl rfl (Rd.len rfl (by ((apply Len.row; (· (repeat (first | apply Sel.here | apply Sel.there))))))) ?_) | ((show SLl _ _ _ _ _ (⟨⟨_, .binOp _ _ _ _ _, _, _, _, _⟩, _, _⟩ :: _) _ _ _); ((refine SLl.cmp rfl rfl rfl rfl rfl rfl ?_ ?_ <;> intro hq <;> simp only [cmpP] at hq <;> try ((exfalso; omega))))))) | (first | refine SLc.seq ?_ | refine SLc.region rfl ?_ | refine SLc.condF rfl ?_ | refine SLc.block ?_ | refine SLc.skip ?_)))
      refine SLc.loop (ι := Nat) (fun j => [(13, .int .i64 j), (12, qc), (7, .int .i64 k), (6, ptr b), (5, ptr lb), (3, ptr sb), (0, uv)]) (fun _ => .row qc 3 1 C :: .blk b 124 [.int .i64 (ownerM L'), rq'] :: .row rq' 3 1 C :: (lockC lb sb lq' L' ++ (schC sb pv lw m' ++ []))) (fun j => j ≤ C.length) (fun j => C.length - j) 0 (Nat.zero_le _) (by (repeat' (first | exact trivial | apply And.intro | rfl))) .refl ?_
      intro j hj
      by_cases hjl : j < C.length
      · obtain ⟨y, hy⟩ : ∃ y, L'.queue[j]? = some y := ⟨_, List.getElem?_eq_getElem (by omega)⟩
        have hyc := ints_at hy
        rw [hC0] at hyc
        (repeat' (first | (first | refine SLl.nil ?_ | ((show SLl _ _ _ _ _ (⟨⟨_, _, _, _, _, _⟩, _, _⟩ :: _) _ _ _); first | refine SLl.ev rfl rfl rfl rfl ?_ | ((show SLl _ _ _ _ _ (⟨⟨_, .call ⟨.builtin .len, _, _⟩, _, _, _, _⟩, _, _⟩ :: _) _ _ _); refine SLl.rdSeq rfl rfl (Rd.len rfl (by ((apply Len.row; (· (repeat (apply Sel.here))))))) ?_) | ((show SLl _ _ _ _ _ (⟨⟨_, .binOp _ _ _ _ _, _, _, _, _⟩, _, _⟩ :: _) _ _ _); ((refine SLl.cmp rfl rfl rfl rfl rfl rfl ?_ ?_ <;> intro hq <;> simp only [cmpP] at hq <;> try ((exfalso; omega))))))) | (first | refine SLc.seq ?_ | refine SLc.region rfl ?_ | refine SLc.condT rfl ?_ | refine SLc.block ?_ | refine SLc.skip ?_)))
        refine SLc.drawsI [.row qc 3 1 C, .blk b 124 [.int .i64 (ownerM L'), rq'], .row rq' 3 1 C] (List.replicate 12 .take) mixed (by kernel_rfl) (.cons .here (.cons .here (.cons .here .drop))) ?_
        (repeat' (first | (first | refine SLl.nil ?_ | ((show SLl _ _ _ _ _ (⟨⟨_, _, _, _, _, _⟩, _, _⟩ :: _) _ _ _); first | refine SLl.ev rfl rfl rfl rfl ?_ | ((show SLl _ _ _ _ _ (⟨⟨_, .load _ _, _, _, _, _⟩, _, _⟩ :: _) _ _ _); (refine SLl.rdTake rfl rfl (Rd.load rfl rfl (by (first | (apply Reads.blk; (· (repeat (first | apply Sel.here | apply Sel.there))); (· rfl)) | (apply Reads.row; (· (repeat (first | apply Sel.here | apply Sel.there))); (· (assumption)); (· rfl))))) ?_)) | ((show SLl _ _ _ _ _ (⟨⟨_, .fieldAddr _ _ _, _, _, _, _⟩, _, _⟩ :: _) _ _ _); (refine SLl.pu rfl rfl rfl (Pu.fieldAddr rfl) ?_)) | ((show SLl _ _ _ _ _ (⟨⟨_, .indexAddr _ _ _, _, _, _, _⟩, _, _⟩ :: _) _ _ _); (refine SLl.rdTake rfl rfl (Rd.indexAddr rfl rfl (by ((apply Len.row; (· (repeat (first | apply Sel.here | apply Sel.there)))))) (by (rfl)) (by omega)) ?_)) | ((show SLl _ _ _ _ _ (⟨⟨_, .binOp _ _ _ _ _, _, _, _, _⟩, _, _⟩ :: _) _ _ _); (first | refine SLl.pu rfl rfl rfl (Pu.add rfl rfl (IntWalk.i64_in _ (by omega))) ?_ | (refine SLl.cmp rfl rfl rfl rfl rfl rfl ?_ ?_ <;> intro hq <;> simp only [cmpP] at hq <;> try ((exfalso; omega))))))) | (first | refine SLc.region rfl ?_ | refine SLc.condF rfl ?_ | refine SLc.skip ?_)))
        exact And.intro rfl (Exists.intro (j + 1) (And.intro (by omega) (And.intro (by omega) (And.intro (by (repeat' (first | exact trivial | apply And.intro | rfl))) .refl))))
      · (repeat' (first | (first | refine SLl.nil ?_ | ((show SLl _ _ _ _ _ (⟨⟨_, _, _, _, _, _⟩, _, _⟩ :: _) _ _ _); first | refine SLl.ev rfl rfl rfl rfl ?_ | ((show SLl _ _ _ _ _ (⟨⟨_, .call ⟨.builtin .len, _, _⟩, _, _, _, _⟩, _, _⟩ :: _) _ _ _); refine SLl.rdSeq rfl rfl (Rd.len rfl (by ((apply Len.row; (· (repeat (apply Sel.here))))))) ?_) | ((show SLl _ _ _ _ _ (⟨⟨_, .binOp _ _ _ _ _, _, _, _, _⟩, _, _⟩ :: _) _ _ _); (first | refine SLl.pu rfl rfl rfl (Pu.add rfl rfl (IntWalk.i64_in _ (by omega))) ?_ | (refine SLl.cmp rfl rfl rfl rfl rfl rfl ?_ ?_ <;> intro hq <;> simp only [cmpP] at hq <;> try ((exfalso; omega))))))) | (first | refine SLc.seq ?_ | refine SLc.region rfl ?_ | refine SLc.condF rfl ?_ | refine SLc.exit ?_)))
        subst hC0
        exact And.intro rfl (Exists.intro (k + 1, (lq', rq'), L', m') (And.intro ⟨by dsimp only; omega, hq', hlq', hL', hm'⟩ (And.intro (by dsimp only; omega) (And.intro (by (repeat' (first | exact trivial | apply And.intro | rfl))) (.skip .refl)))))
  · (repeat' (first | (first | refine SLl.nil ?_ | ((show SLl _ _ _ _ _ (⟨⟨_, _, _, _, _, _⟩, _, _⟩ :: _) _ _ _); first | refine SLl.ev rfl rfl rfl rfl ?_ | ((show SLl _ _ _ _ _ (⟨⟨_, .call ⟨.builtin .len, _, _⟩, _, _, _, _⟩, _, _⟩ :: _) _ _ _); refine SLl.rdSeq rfl rfl (Rd.len rfl (by ((apply Len.rs; exact Rs.mono (by assumption) (by (repeat' (exact Ent.drop))))))) ?_) | ((show SLl _ _ _ _ _ (⟨⟨_, .binOp _ _ _ _ _, _, _, _, _⟩, _, _⟩ :: _) _ _ _); ((refine SLl.cmp rfl rfl rfl rfl rfl rfl ?_ ?_ <;> intro hq <;> simp only [cmpP] at hq <;> try ((exfalso; omega))))))) | (first | refine SLc.seq ?_ | refine SLc.region rfl ?_ | refine SLc.condF rfl ?_ | refine SLc.exit ?_ | refine SLc.ret ?_)))
    exact And.intro rfl (Exists.intro _ (Exists.intro [] (And.intro rfl (And.intro .drop rfl))))
end Go.Sl
