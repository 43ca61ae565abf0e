/- backstitchlaw17.LatchPlays: the walk. -/
import Derived.Test.YtloeicnadchkpaaLaw17a
import Derived.Test.YtloeicnadchkpaaLock3
namespace Go.Sl
open Go.Proofs
attribute [local irreducible] SLc SLl SLo SLf Pu Rd

theorem Down_in (W : World) (c : Chunk) (F : List Chunk) (lb sb : Nat) (qv pv lv : Value) {L L' : Lat} {m m' : Sch} {r : Int} (h : downM L m = (r, L', m')) (h0 : 0 ≤ L.left) (h1 : L.left ≤ 9223372036854775807) (hl : L.queue.length ≤ 100000) :
    SLf Try.prog W 72 [ptr lb] (c :: (latC lb sb qv L ++ (schC sb pv lv m ++ F))) (fun v σ => ∃ qv', v = .int .i64 r ∧ σ = c :: (latC lb sb qv' L' ++ (schC sb pv lv m' ++ F))) := by
  refine SLf.ent (.trans .into (.left _ .into)) (SLf.to (Down_at W (c :: F) lb sb qv pv lv h h0 h1 (Nat.ble_eq_true_of_le hl)) ?_)
  rintro v σ ⟨q, rfl, rfl⟩
  exact ⟨_, .trans (.left _ .out) .out, q, rfl, rfl⟩
theorem Await_in (W : World) (c : Chunk) (F : List Chunk) (lb sb : Nat) (qv : Value) {L L' : Lat} {id : Int} {bv : Bool} (h : awaitM L id = (bv, L')) (hl : L.queue.length ≤ 100000) :
    SLf Try.prog W 70 [ptr lb, .int .i64 id] (c :: (latC lb sb qv L ++ F)) (fun r σ => ∃ qv', r = .bool bv ∧ σ = c :: (latC lb sb qv' L' ++ F)) := by
  refine SLf.ent .into (SLf.to (Await_at W (c :: F) lb sb qv h (Nat.ble_eq_true_of_le hl)) ?_)
  rintro v σ ⟨q, rfl, rfl⟩
  exact ⟨_, .out, q, rfl, rfl⟩
theorem Up_in (W : World) (c : Chunk) (F : List Chunk) (lb sb : Nat) (qv : Value) {L L' : Lat} {n : Int} {bv : Bool} (h : upOk L n = bv) (h' : (if bv then { L with left := L.left + n } else L) = L') (h0 : 0 ≤ L.left) (h1 : L.left ≤ 4611686018427387904) :
    SLf Try.prog W 75 [ptr lb, .int .i64 n] (c :: (latC lb sb qv L ++ F)) (fun r σ => r = .bool bv ∧ σ = c :: (latC lb sb qv L' ++ F)) := by
  refine SLf.ent .into (SLf.to (Up_at W (c :: F) lb sb qv h h' h0 h1) ?_)
  rintro v σ ⟨rfl, rfl⟩
  exact ⟨_, .out, rfl, rfl⟩
theorem Left_in (W : World) (c : Chunk) (F : List Chunk) (lb sb : Nat) (qv : Value) (L : Lat) :
    SLf Try.prog W 73 [ptr lb] (c :: (latC lb sb qv L ++ F)) (fun r σ => r = .int .i64 L.left ∧ σ = c :: (latC lb sb qv L ++ F)) := by
  refine SLf.ent .into (SLf.to (Left_ok W (c :: F) lb sb qv L) ?_)
  rintro v σ ⟨rfl, rfl⟩
  exact ⟨_, .out, rfl, rfl⟩
theorem Waiting_in (W : World) (c : Chunk) (G F : List Chunk) (sb : Nat) (pv lv : Value) (m : Sch) (hm : SchOk m) :
    SLf Try.prog W 56 [ptr sb] (c :: (G ++ (schC sb pv lv m ++ F))) (fun r σ => σ = .row r 3 1 (natL (waitN m)) :: c :: (G ++ (schC sb pv lv m ++ F))) := by
  refine SLf.ent (.trans .into (.trans (.left _ .into) .swp)) (SLf.to (Waiting_ok W (G ++ (c :: F)) sb pv lv m hm) ?_)
  rintro v σ rfl
  exact ⟨_, .cons .here (.trans .swp (.trans (.left _ .out) .out)), rfl⟩
theorem rem9 (i : Int) : 0 ≤ (i.tmod 9 + 9).tmod 9 ∧ (i.tmod 9 + 9).tmod 9 < 9 ∧ -9 < i.tmod 9 ∧ i.tmod 9 < 9 := by
  have h1 := Int.tmod_lt_of_pos i (b := 9) (by omega)
  have h2 := Int.lt_tmod_of_pos i (b := 9) (by omega)
  rw [Int.tmod_eq_emod_of_nonneg (a := i.tmod 9 + 9) (by omega)]
  omega
theorem wakeM_cases (m : Sch) (x : Int) : ((wakeM m x).2 = m ∧ ∀ (i : Nat) t, (i : Int) = x → m.tasks[i]? = some t → t.done = true) ∨
    (∃ (k : Nat) (t : Task), x = (k : Int) ∧ m.tasks[k]? = some t ∧ t.done = false ∧ (wakeM m x).2 = { m with tasks := m.tasks.set k (wokenT t) }) := by
  unfold wakeM
  split
  · rename_i hth
    simp only [thereM, Bool.and_eq_true, decide_eq_true_eq] at hth
    obtain ⟨k, rfl⟩ := Int.eq_ofNat_of_zero_le hth.1
    simp only [Int.toNat_natCast]
    split
    · rename_i t ht
      split
      · rename_i hd
        refine .inl ⟨rfl, fun i t' hi ht' => ?_⟩
        obtain rfl : i = k := by omega
        rw [ht] at ht'
        cases ht'
        exact hd
      · rename_i hd
        exact .inr ⟨k, t, rfl, ht, by simpa using hd, rfl⟩
    · rename_i hn
      refine .inl ⟨rfl, fun i t' hi ht' => ?_⟩
      obtain rfl : i = k := by omega
      rw [hn] at ht'
      cases ht'
  · rename_i hth
    refine .inl ⟨rfl, fun i t' hi ht' => ?_⟩
    have := (List.getElem?_eq_some_iff.1 ht').1
    exact absurd (by simp only [thereM, Bool.and_eq_true, decide_eq_true_eq]; omega) hth
theorem mem_waitN {m : Sch} {i : Nat} : i ∈ waitN m ↔ ∃ t, m.tasks[i]? = some t ∧ waitsT t = true := by
  constructor
  · exact fun h => (pickN_mem h).2
  · rintro ⟨t, ht, hw⟩
    unfold waitN pickN
    rw [List.mem_filter, List.mem_range]
    exact ⟨(List.getElem?_eq_some_iff.1 ht).1, by simp [ht, hw]⟩
theorem wake_waits {m : Sch} {x : Int} {i : Nat} (h : i ∈ waitN (wakeM m x).2) : i ∈ waitN m ∧ (i : Int) ≠ x := by
  rcases wakeM_cases m x with ⟨he, hno⟩ | ⟨k, t, rfl, ht, hd, he⟩
  · rw [he] at h
    refine ⟨h, fun hx => ?_⟩
    obtain ⟨t, ht, hw⟩ := mem_waitN.1 h
    have := hno i t hx ht
    simp [waitsT, this] at hw
  · rw [he] at h
    obtain ⟨t', ht', hw⟩ := mem_waitN.1 h
    dsimp only at ht'
    rw [List.getElem?_set] at ht'
    split at ht'
    · split at ht'
      · cases ht'
        simp [waitsT, wokenT] at hw
      · cases ht'
    · exact ⟨mem_waitN.2 ⟨t', ht', hw⟩, by omega⟩
theorem wakeM_keeps {m : Sch} {x : Int} (h : SchOk m) : SchOk (wakeM m x).2 := by
  rcases wakeM_cases m x with ⟨he, _⟩ | ⟨k, t, rfl, ht, hd, he⟩
  · rw [he]; exact h
  · rw [he]
    refine ⟨fun u hu => ?_, by simpa using h.few⟩
    rcases List.mem_or_eq_of_mem_set hu with hu | rfl
    · exact h.steps u hu
    · exact h.steps t (List.mem_of_getElem? ht)
theorem wakeAll_waits {q : List Int} : ∀ {m : Sch} {i : Nat}, i ∈ waitN (wakeAll m q) → i ∈ waitN m ∧ (i : Int) ∉ q := by
  induction q with
  | nil => exact fun h => ⟨h, List.not_mem_nil⟩
  | cons x r ih =>
    intro m i h
    obtain ⟨h1, h2⟩ := ih (m := (wakeM m x).2) h
    obtain ⟨h3, h4⟩ := wake_waits h1
    exact ⟨h3, fun hm => by rcases List.mem_cons.1 hm with e | e; (exact h4 e); exact h2 e⟩
theorem wakeAll_keeps {q : List Int} : ∀ {m : Sch}, SchOk m → SchOk (wakeAll m q) := by
  induction q with
  | nil => exact fun h => h
  | cons x r ih => exact fun h => ih (wakeM_keeps h)
def bcells (N : List Bool) : List Value := N.map Value.bool
theorem bcells_at {N : List Bool} {j : Nat} {b : Bool} (h : N[j]? = some b) : (bcells N)[j]? = some (.bool b) := by simp [bcells, h]
theorem bcells_len {N : List Bool} : (bcells N).length = N.length := by simp [bcells]
theorem bcells_set {N : List Bool} {j : Nat} {b : Bool} : (bcells N).set j (.bool b) = bcells (N.set j b) := by simp [bcells, List.map_set]
structure LaOk (L : Lat) (N : List Bool) : Prop where
  lo : 0 ≤ L.left
  hi : L.left ≤ 9223372036854775807
  none : L.left = 0 → L.queue = []
  len : N.length = 9
  noted : ∀ j : Nat, N[j]? = some true → (j : Int) ∈ L.queue
theorem down_cases {L : Lat} {m : Sch} (h0 : 0 ≤ L.left) (hq : L.left = 0 → L.queue = []) (hm : SchOk m) :
    ∃ r L' m', downM L m = (r, L', m') ∧ max (L.left - 1) 0 = r ∧ L'.left = r ∧ SchOk m' ∧ ((0 < r ∧ L'.queue = L.queue ∧ m' = m) ∨ (r = 0 ∧ L'.queue = [] ∧ ∀ i ∈ waitN m', (i : Int) ∉ L.queue)) := by
  by_cases hz : L.left = 0
  · refine ⟨0, L, m, by simp [downM, hz], by omega, hz, hm, .inr ⟨rfl, hq hz, fun i _ => ?_⟩⟩
    rw [hq hz]
    exact List.not_mem_nil
  · by_cases h1 : 1 < L.left
    · exact ⟨L.left - 1, { L with left := L.left - 1 }, m, by simp [downM, hz, h1], by omega, rfl, hm, .inl ⟨by omega, rfl, rfl⟩⟩
    · refine ⟨0, ⟨0, []⟩, wakeAll m L.queue, by simp [downM, hz, h1], by omega, rfl, wakeAll_keeps hm, .inr ⟨rfl, rfl, fun i hi => (wakeAll_waits hi).2⟩⟩
theorem await_cases {L : Lat} {id : Int} (h0 : 0 ≤ L.left) : (L.left = 0 ∧ awaitM L id = (true, L)) ∨
    (0 < L.left ∧ ∃ L', awaitM L id = (false, L') ∧ L'.left = L.left ∧ id ∈ L'.queue ∧ (∀ x ∈ L.queue, x ∈ L'.queue) ∧ L'.queue.length ≤ L.queue.length + 1) := by
  by_cases hz : L.left = 0
  · exact .inl ⟨hz, by simp [awaitM, hz]⟩
  · refine .inr ⟨by omega, ?_⟩
    by_cases hm : id ∈ L.queue
    · exact ⟨L, by simp [awaitM, hz, hm], rfl, hm, fun _ h => h, by omega⟩
    · exact ⟨{ L with queue := L.queue ++ [id] }, by simp [awaitM, hz, hm], rfl, by simp, fun x hx => List.mem_append_left _ hx, by simp⟩
set_option pp.maxSteps 1000000 in
set_option pp.deepTerms true in
set_option maxHeartbeats 2000000 in
theorem Plays17 (W : World) (n : Int) (uv : Value) (U : List Int) (hn0 : -9223372036854775808 ≤ n) (hn1 : n ≤ 9223372036854775807) (hu : Rs W [] uv 1 (ints U)) (hUl : U.length ≤ 140737488355328) : SLf Try.prog W 22 [.int .i64 n, uv] [] (fun v _ => v = .bool true) := by
  have hul := @ints_len U
  refine SLf.enter Try.func22 rfl (Nat.le_of_ble_eq_true rfl) ?_
  (repeat' (first | (first | refine SLl.nil ?_ | ((show SLl _ _ _ _ _ (⟨⟨_, _, _, _, _, _⟩, _, _⟩ :: _) _ _ _); refine SLl.ev rfl rfl rfl rfl ?_)) | (first | refine SLc.seq ?_ | refine SLc.region rfl ?_)))
  refine SLl.seq rfl rfl (SLo.call plain67 rfl (SLf.mono (Awake17 W []) ?_))
  rintro v σ ⟨rfl, rfl⟩
  (repeat' (first | (first | refine SLl.nil ?_ | ((show SLl _ _ _ _ _ (⟨⟨_, _, _, _, _, _⟩, _, _⟩ :: _) _ _ _); first | refine SLl.ev rfl rfl rfl rfl ?_ | ((show SLl _ _ _ _ _ (⟨⟨_, .call ⟨.builtin .len, _, _⟩, _, _, _, _⟩, _, _⟩ :: _) _ _ _); refine SLl.rdSeq rfl rfl (Rd.len rfl (by ((apply Len.rs; exact Rs.mono (by assumption) (by (repeat' (exact Ent.refl))))))) ?_) | ((show SLl _ _ _ _ _ (⟨⟨_, .binOp _ _ _ _ _, _, _, _, _⟩, _, _⟩ :: _) _ _ _); ((refine SLl.cmp rfl rfl rfl rfl rfl rfl ?_ ?_ <;> intro hq <;> simp only [cmpP] at hq <;> try (fail)))))) | (first | refine SLc.seq ?_ | refine SLc.region rfl ?_ | refine SLc.condT rfl ?_ | refine SLc.condF rfl ?_ | refine SLc.skip ?_ | refine SLc.ret ?_)))
  · refine And.intro rfl (Exists.intro _ (Exists.intro [] (And.intro rfl (And.intro .drop rfl))))
  refine SLl.seq rfl rfl (SLo.call plain35 rfl (SLf.mono (New_ok W [] (.slice none 0 0) [] Rs.nil (by simp)) ?_))
  rintro v σ2 ⟨sb, pv, rfl, rfl⟩
  (repeat' (first | (first | refine SLl.nil ?_ | ((show SLl _ _ _ _ _ (⟨⟨_, _, _, _, _, _⟩, _, _⟩ :: _) _ _ _); refine SLl.ev rfl rfl rfl rfl ?_)) | (first | refine SLc.seq ?_ | refine SLc.region rfl ?_ | refine SLc.block ?_)))
  refine SLc.loop (ι := Nat × Value) (fun s => [(6, .int .i64 s.1), (5, ptr sb), (0, .int .i64 n), (1, uv)]) (fun s => schC sb pv s.2 (stays 74 s.1) ++ []) (fun s => s.1 ≤ 9) (fun s => 9 - s.1) (0, .slice none 0 0) (Nat.zero_le _) (by (repeat' (first | exact trivial | apply And.intro | rfl))) .refl ?_
  rintro ⟨i, lv⟩ hi
  dsimp only at hi ⊢
  by_cases hlt : i < 9
  · (repeat' (first | (first | refine SLl.nil ?_ | ((show SLl _ _ _ _ _ (⟨⟨_, _, _, _, _, _⟩, _, _⟩ :: _) _ _ _); first | refine SLl.ev rfl rfl rfl rfl ?_ | ((show SLl _ _ _ _ _ (⟨⟨_, .binOp _ _ _ _ _, _, _, _, _⟩, _, _⟩ :: _) _ _ _); ((refine SLl.cmp rfl rfl rfl rfl rfl rfl ?_ ?_ <;> intro hq <;> simp only [cmpP] at hq <;> try ((exfalso; omega))))))) | (first | refine SLc.seq ?_ | refine SLc.region rfl ?_ | refine SLc.condT rfl ?_ | refine SLc.block ?_ | refine SLc.skip ?_)))
    refine SLl.seq rfl rfl (SLo.call plain36 rfl (SLf.mono (Go_ok W [] sb pv lv (stays 74 i) (.func 74) #[] #[] (by rw [stays_len]; omega)) ?_))
    rintro v σ2 ⟨lv', rfl, rfl⟩
    rw [stays_add]
    (repeat' (first | (first | refine SLl.nil ?_ | ((show SLl _ _ _ _ _ (⟨⟨_, _, _, _, _, _⟩, _, _⟩ :: _) _ _ _); first | refine SLl.ev rfl rfl rfl rfl ?_ | ((show SLl _ _ _ _ _ (⟨⟨_, .binOp _ _ _ _ _, _, _, _, _⟩, _, _⟩ :: _) _ _ _); (refine SLl.pu rfl rfl rfl (Pu.add rfl rfl (IntWalk.i64_in _ (by omega))) ?_)))) | (refine SLc.region rfl ?_)))
    exact And.intro rfl (Exists.intro (i + 1, lv') (And.intro (by dsimp only; omega) (And.intro (by dsimp only; omega) (And.intro (by (repeat' (first | exact trivial | apply And.intro | rfl))) .refl))))
  obtain rfl : i = 9 := by omega
  (repeat' (first | (first | refine SLl.nil ?_ | ((show SLl _ _ _ _ _ (⟨⟨_, _, _, _, _, _⟩, _, _⟩ :: _) _ _ _); first | refine SLl.ev rfl rfl rfl rfl ?_ | ((show SLl _ _ _ _ _ (⟨⟨_, .binOp _ _ _ _ _, _, _, _, _⟩, _, _⟩ :: _) _ _ _); ((refine SLl.cmp rfl rfl rfl rfl rfl rfl ?_ ?_ <;> intro hq <;> simp only [cmpP] at hq <;> try ((exfalso; omega))))))) | (first | refine SLc.seq ?_ | refine SLc.region rfl ?_ | refine SLc.condF rfl ?_ | refine SLc.exit ?_)))
  refine SLl.seq rfl rfl (SLo.call plain45 rfl (SLf.mono (RunStays W [] sb pv lv 74 9 100 (by decide) (by decide) (by decide) plain74 (Stay17 W)) ?_))
  rintro v σ2 ⟨lw, rfl, rfl⟩
  have hm0 : SchOk (staysW 74 9) := ⟨fun t ht => by simp only [staysW, List.mem_replicate] at ht; obtain ⟨_, rfl⟩ := ht; rfl, Nat.le_of_ble_eq_true rfl⟩
  generalize staysW 74 9 = m0 at hm0 ⊢
  (repeat' (first | (first | refine SLl.nil ?_ | ((show SLl _ _ _ _ _ (⟨⟨_, _, _, _, _, _⟩, _, _⟩ :: _) _ _ _); refine SLl.ev rfl rfl rfl rfl ?_)) | (first | refine SLc.seq ?_ | refine SLc.region rfl ?_)))
  refine SLl.seq rfl rfl (SLo.call plain68 rfl (SLf.mono (LaNew_ok W _ sb n) ?_))
  rintro v σ2 ⟨lb, rfl, rfl⟩
  (repeat' (first | (first | refine SLl.nil ?_ | ((show SLl _ _ _ _ _ (⟨⟨_, _, _, _, _, _⟩, _, _⟩ :: _) _ _ _); first | refine SLl.ev rfl rfl rfl rfl ?_ | ((show SLl _ _ _ _ _ (⟨⟨_, .binOp _ _ _ _ _, _, _, _, _⟩, _, _⟩ :: _) _ _ _); (refine SLl.pu rfl rfl rfl (Pu.eqPtrNil rfl rfl) ?_)))) | (first | refine SLc.seq ?_ | refine SLc.region rfl ?_ | refine SLc.condF rfl ?_ | refine SLc.skip ?_)))
  refine SLl.pu rfl rfl rfl (Pu.max2 rfl rfl rfl) ?_
  have hk0 : 0 ≤ max n 0 := by omega
  have hk1 : max n 0 ≤ 9223372036854775807 := by omega
  generalize max n 0 = K at hk0 hk1
  (repeat' (first | (first | refine SLl.nil ?_ | ((show SLl _ _ _ _ _ (⟨⟨_, _, _, _, _, _⟩, _, _⟩ :: _) _ _ _); first | refine SLl.ev rfl rfl rfl rfl ?_ | ((show SLl _ _ _ _ _ (⟨⟨_, .alloc _, _, _, _, _⟩, _, _⟩ :: _) _ _ _); refine SLl.seq rfl rfl (SLo.alloc ?_); intro b))) | (first | refine SLc.seq ?_ | refine SLc.region rfl ?_ | refine SLc.block ?_)))
  refine SLc.loop (ι := Nat × Value × Lat × Sch × List Bool) (fun s => [(10, .int .i64 s.1), (8, .int .i64 s.2.2.1.left), (9, ptr b), (7, ptr lb), (5, ptr sb), (1, uv)]) (fun s => .blk b 113 (bcells s.2.2.2.2) :: (latC lb sb s.2.1 s.2.2.1 ++ (schC sb pv lw s.2.2.2.1 ++ []))) (fun s => s.1 ≤ U.length ∧ s.2.2.1.queue.length ≤ s.1 ∧ SchOk s.2.2.2.1 ∧ LaOk s.2.2.1 s.2.2.2.2) (fun s => U.length - s.1) (0, .slice none 0 0, ⟨K, []⟩, m0, List.replicate 9 false) ⟨Nat.zero_le _, Nat.zero_le _, hm0, ⟨hk0, hk1, fun _ => rfl, rfl, fun j h => by rw [List.getElem?_replicate] at h; split at h <;> cases h⟩⟩ (by (repeat' (first | exact trivial | apply And.intro | rfl))) .refl ?_
  rintro ⟨k, q, L, m, N⟩ ⟨hk, hqk, hm, hL⟩
  dsimp only at hk hqk hm hL ⊢
  by_cases hlt : k < U.length
  · have hx : U[k]? = some U[k] := List.getElem?_eq_getElem hlt
    generalize U[k] = x at hx
    have hxc := ints_at hx
    have hlo := hL.lo
    have hhi := hL.hi
    (repeat' (first | (first | refine SLl.nil ?_ | ((show SLl _ _ _ _ _ (⟨⟨_, _, _, _, _, _⟩, _, _⟩ :: _) _ _ _); first | refine SLl.ev rfl rfl rfl rfl ?_ | ((show SLl _ _ _ _ _ (⟨⟨_, .load _ _, _, _, _, _⟩, _, _⟩ :: _) _ _ _); (refine SLl.rdSeq rfl rfl (Rd.load rfl rfl (by ((apply Reads.rs; (· exact Rs.mono (by assumption) (by (repeat' (exact Ent.drop)))); (· (assumption)); (· rfl))))) ?_)) | ((show SLl _ _ _ _ _ (⟨⟨_, .indexAddr _ _ _, _, _, _, _⟩, _, _⟩ :: _) _ _ _); (refine SLl.rdSeq rfl rfl (Rd.indexAddr rfl rfl (by ((apply Len.rs; exact Rs.mono (by assumption) (by (repeat' (exact Ent.drop)))))) (by (rfl)) (by omega)) ?_)) | ((show SLl _ _ _ _ _ (⟨⟨_, .call ⟨.builtin .len, _, _⟩, _, _, _, _⟩, _, _⟩ :: _) _ _ _); refine SLl.rdSeq rfl rfl (Rd.len rfl (by ((apply Len.rs; exact Rs.mono (by assumption) (by (repeat' (exact Ent.drop))))))) ?_) | ((show SLl _ _ _ _ _ (⟨⟨_, .binOp _ _ _ _ _, _, _, _, _⟩, _, _⟩ :: _) _ _ _); ((refine SLl.cmp rfl rfl rfl rfl rfl rfl ?_ ?_ <;> intro hq <;> simp only [cmpP] at hq <;> try ((exfalso; omega))))))) | (first | refine SLc.seq ?_ | refine SLc.region rfl ?_ | refine SLc.condT rfl ?_ | refine SLc.block ?_ | refine SLc.skip ?_)))
    refine SLl.pu rfl rfl rfl (Pu.shrAny rfl rfl) ?_
    generalize x / 2 ^ min 2 IntKind.i64.bits = y
    (repeat' (first | (first | refine SLl.nil ?_ | ((show SLl _ _ _ _ _ (⟨⟨_, _, _, _, _, _⟩, _, _⟩ :: _) _ _ _); first | refine SLl.ev rfl rfl rfl rfl ?_ | ((show SLl _ _ _ _ _ (⟨⟨_, .load _ _, _, _, _, _⟩, _, _⟩ :: _) _ _ _); (refine SLl.rdSeq rfl rfl (Rd.load rfl rfl (by ((apply Reads.rs; (· exact Rs.mono (by assumption) (by (repeat' (exact Ent.drop)))); (· (assumption)); (· rfl))))) ?_)) | ((show SLl _ _ _ _ _ (⟨⟨_, .indexAddr _ _ _, _, _, _, _⟩, _, _⟩ :: _) _ _ _); (refine SLl.rdSeq rfl rfl (Rd.indexAddr rfl rfl (by ((apply Len.rs; exact Rs.mono (by assumption) (by (repeat' (exact Ent.drop)))))) (by (rfl)) (by omega)) ?_)))) | (first | refine SLc.seq ?_ | refine SLc.region rfl ?_)))
    refine SLl.pu rfl rfl rfl (Pu.andAny rfl rfl) ?_
    generalize bits .and .i64 x 3 = bt
    refine SLl.nil ?_
    first | refine SLc.seq ?_ | skip
    refine SLc.join (fun e ds σ => ds = [] ∧ ∃ q' L' m' N', (L'.queue.length ≤ k + 1 ∧ SchOk m' ∧ LaOk L' N') ∧ Sub [(10, .int .i64 k), (8, .int .i64 L'.left), (9, ptr b), (7, ptr lb), (5, ptr sb), (1, uv)] e ∧ Ent σ (.blk b 113 (bcells N') :: (latC lb sb q' L' ++ (schC sb pv lw m' ++ [])))) ?_ ?_
    · by_cases h01 : bt = 0 ∨ bt = 1
      · obtain ⟨r, L', m', hd, hr, hl', hm', hcase⟩ := down_cases hlo hL.none hm
        rcases h01 with rfl | rfl
        all_goals
          (repeat' (first | (first | refine SLl.nil ?_ | ((show SLl _ _ _ _ _ (⟨⟨_, _, _, _, _, _⟩, _, _⟩ :: _) _ _ _); first | refine SLl.ev rfl rfl rfl rfl ?_ | ((show SLl _ _ _ _ _ (⟨⟨_, .binOp _ _ _ _ _, _, _, _, _⟩, _, _⟩ :: _) _ _ _); (first | refine SLl.pu rfl rfl rfl (Pu.sub rfl rfl (IntWalk.i64_in _ (by omega))) ?_ | (refine SLl.cmp rfl rfl rfl rfl rfl rfl ?_ ?_ <;> intro hq <;> simp only [cmpP] at hq <;> try (first | exact (hq trivial).elim | (exfalso; omega))))))) | (first | refine SLc.seq ?_ | refine SLc.region rfl ?_ | refine SLc.condT rfl ?_ | refine SLc.condF rfl ?_ | refine SLc.block ?_ | refine SLc.skip ?_)))
          refine SLl.pu rfl rfl rfl (Pu.max2 rfl rfl hr) ?_
          (repeat' (first | (first | refine SLl.nil ?_ | ((show SLl _ _ _ _ _ (⟨⟨_, _, _, _, _, _⟩, _, _⟩ :: _) _ _ _); refine SLl.ev rfl rfl rfl rfl ?_)) | (first | refine SLc.seq ?_ | refine SLc.region rfl ?_)))
          refine SLl.seq rfl rfl (SLo.call plain72 rfl (SLf.mono (Down_in W _ _ lb sb q pv lw hd hlo hhi (by omega)) ?_))
          rintro v σ2 ⟨q', rfl, rfl⟩
          rcases hcase with ⟨hpos, hq', rfl⟩ | ⟨rfl, hq', hw'⟩
          · (repeat' (first | (first | refine SLl.nil ?_ | ((show SLl _ _ _ _ _ (⟨⟨_, _, _, _, _, _⟩, _, _⟩ :: _) _ _ _); first | refine SLl.ev rfl rfl rfl rfl ?_ | ((show SLl _ _ _ _ _ (⟨⟨_, .binOp _ _ _ _ _, _, _, _, _⟩, _, _⟩ :: _) _ _ _); ((refine SLl.cmp rfl rfl rfl rfl rfl rfl ?_ ?_ <;> intro hq <;> simp only [cmpP] at hq <;> try ((exfalso; omega))))))) | (first | refine SLc.seq ?_ | refine SLc.region rfl ?_ | refine SLc.condT rfl ?_ | refine SLc.condF rfl ?_ | refine SLc.skip ?_ | refine SLc.exit ?_)))
            subst hl'
            exact And.intro rfl (Exists.intro q' (Exists.intro L' (Exists.intro m' (Exists.intro N (And.intro ⟨by rw [hq']; omega, hm', ⟨by omega, by omega, fun h => by omega, hL.len, fun j hj => by rw [hq']; exact hL.noted j hj⟩⟩ (And.intro (by (repeat' (first | exact trivial | apply And.intro | rfl))) .refl))))))
          · (repeat' (first | (first | refine SLl.nil ?_ | ((show SLl _ _ _ _ _ (⟨⟨_, _, _, _, _, _⟩, _, _⟩ :: _) _ _ _); first | refine SLl.ev rfl rfl rfl rfl ?_ | ((show SLl _ _ _ _ _ (⟨⟨_, .binOp _ _ _ _ _, _, _, _, _⟩, _, _⟩ :: _) _ _ _); ((refine SLl.cmp rfl rfl rfl rfl rfl rfl ?_ ?_ <;> intro hq <;> simp only [cmpP] at hq <;> try ((exfalso; omega))))))) | (first | refine SLc.seq ?_ | refine SLc.region rfl ?_ | refine SLc.condF rfl ?_ | refine SLc.block ?_ | refine SLc.skip ?_)))
            refine SLc.loop (ι := Nat × List Bool) (fun s => [(12, .int .i64 s.1), (10, .int .i64 k), (8, .int .i64 0), (9, ptr b), (7, ptr lb), (5, ptr sb), (1, uv)]) (fun s => .blk b 113 (bcells s.2) :: (latC lb sb q' L' ++ (schC sb pv lw m' ++ []))) (fun s => s.1 ≤ 9 ∧ s.2.length = 9 ∧ ∀ i : Nat, s.2[i]? = some true → s.1 ≤ i ∧ (i : Int) ∈ L.queue) (fun s => 9 - s.1) (0, N) ⟨Nat.zero_le _, hL.len, fun i h => ⟨Nat.zero_le _, hL.noted i h⟩⟩ (by (repeat' (first | exact trivial | apply And.intro | rfl))) .refl ?_
            rintro ⟨j, N'⟩ ⟨hj, hN, hno⟩
            dsimp only at hj hN hno ⊢
            by_cases hj9 : j < 9
            · have hA0 : N'[j]? = some N'[j] := List.getElem?_eq_getElem (by omega)
              have hnj := hno j
              generalize N'[j]'_ = nb at hA0
              have hA := bcells_at hA0
              have hAl := @bcells_len N'
              (repeat' (first | (first | refine SLl.nil ?_ | ((show SLl _ _ _ _ _ (⟨⟨_, _, _, _, _, _⟩, _, _⟩ :: _) _ _ _); first | refine SLl.ev rfl rfl rfl rfl ?_ | ((show SLl _ _ _ _ _ (⟨⟨_, .binOp _ _ _ _ _, _, _, _, _⟩, _, _⟩ :: _) _ _ _); ((refine SLl.cmp rfl rfl rfl rfl rfl rfl ?_ ?_ <;> intro hq <;> simp only [cmpP] at hq <;> try ((exfalso; omega))))))) | (first | refine SLc.seq ?_ | refine SLc.region rfl ?_ | refine SLc.condT rfl ?_ | refine SLc.block ?_ | refine SLc.skip ?_)))
              refine SLl.seq rfl rfl (SLo.call plain56 rfl (SLf.mono (Waiting_in W _ _ _ sb pv lw m' hm') ?_))
              rintro wv σ2 rfl
              have hwb : (waitN m').length ≤ 128 := Nat.le_trans pickN_le hm'.few
              generalize waitN m' = wl at hw' hwb ⊢
              have hwl := @natL_len wl
              (repeat' (first | (first | refine SLl.nil ?_ | ((show SLl _ _ _ _ _ (⟨⟨_, _, _, _, _, _⟩, _, _⟩ :: _) _ _ _); refine SLl.ev rfl rfl rfl rfl ?_)) | (first | refine SLc.seq ?_ | refine SLc.region rfl ?_ | refine SLc.block ?_)))
              refine SLc.loop (ι := Nat) (fun t => [(14, .int .i64 t), (13, wv), (12, .int .i64 j), (10, .int .i64 k), (8, .int .i64 0), (9, ptr b), (7, ptr lb), (5, ptr sb), (1, uv)]) (fun _ => .row wv 3 1 (natL wl) :: .blk b 113 (bcells N') :: (latC lb sb q' L' ++ (schC sb pv lw m' ++ []))) (fun t => t ≤ wl.length) (fun t => wl.length - t) 0 (Nat.zero_le _) (by (repeat' (first | exact trivial | apply And.intro | rfl))) .refl ?_
              intro t ht
              by_cases htl : t < wl.length
              · have hy : wl[t]? = some wl[t] := List.getElem?_eq_getElem htl
                have hyn := hw' _ (List.getElem_mem htl)
                generalize wl[t] = z at hy hyn
                have hyc := natL_at hy
                (repeat' (first | (first | refine SLl.nil ?_ | ((show SLl _ _ _ _ _ (⟨⟨_, _, _, _, _, _⟩, _, _⟩ :: _) _ _ _); first | refine SLl.ev rfl rfl rfl rfl ?_ | ((show SLl _ _ _ _ _ (⟨⟨_, .call ⟨.builtin .len, _, _⟩, _, _, _, _⟩, _, _⟩ :: _) _ _ _); refine SLl.rdSeq rfl rfl (Rd.len rfl (by ((apply Len.row; (· (repeat (apply Sel.here))))))) ?_) | ((show SLl _ _ _ _ _ (⟨⟨_, .binOp _ _ _ _ _, _, _, _, _⟩, _, _⟩ :: _) _ _ _); ((refine SLl.cmp rfl rfl rfl rfl rfl rfl ?_ ?_ <;> intro hq <;> simp only [cmpP] at hq <;> try ((exfalso; omega))))))) | (first | refine SLc.seq ?_ | refine SLc.region rfl ?_ | refine SLc.condT rfl ?_ | refine SLc.block ?_ | refine SLc.skip ?_)))
                refine SLl.pu rfl rfl rfl (Pu.indexArr1 rfl rfl rfl hj9) ?_
                refine SLl.rdSeq rfl rfl (Rd.load rfl rfl (Reads.blk (.there .here) hA)) ?_
                cases nb with
                | false =>
                  (repeat' (first | (first | refine SLl.nil ?_ | ((show SLl _ _ _ _ _ (⟨⟨_, _, _, _, _, _⟩, _, _⟩ :: _) _ _ _); first | refine SLl.ev rfl rfl rfl rfl ?_ | ((show SLl _ _ _ _ _ (⟨⟨_, .binOp _ _ _ _ _, _, _, _, _⟩, _, _⟩ :: _) _ _ _); (refine SLl.pu rfl rfl rfl (Pu.add rfl rfl (IntWalk.i64_in _ (by omega))) ?_)) | refine SLl.skip rfl rfl ?_)) | (first | refine SLc.region rfl ?_ | refine SLc.condF rfl ?_ | refine SLc.skip ?_)))
                  exact And.intro rfl (Exists.intro (t + 1) (And.intro (by omega) (And.intro (by omega) (And.intro (by (repeat' (first | exact trivial | apply And.intro | rfl))) .refl))))
                | true =>
                  have hzj : (z : Int) ≠ (j : Int) := fun e => hyn (by rw [e]; exact (hnj hA0).2)
                  (repeat' (first | (first | refine SLl.nil ?_ | ((show SLl _ _ _ _ _ (⟨⟨_, _, _, _, _, _⟩, _, _⟩ :: _) _ _ _); first | refine SLl.ev rfl rfl rfl rfl ?_ | ((show SLl _ _ _ _ _ (⟨⟨_, .load _ _, _, _, _, _⟩, _, _⟩ :: _) _ _ _); (refine SLl.rdSeq rfl rfl (Rd.load rfl rfl (by ((apply Reads.row; (· (repeat (apply Sel.here))); (· (assumption)); (· rfl))))) ?_)) | ((show SLl _ _ _ _ _ (⟨⟨_, .indexAddr _ _ _, _, _, _, _⟩, _, _⟩ :: _) _ _ _); (refine SLl.rdSeq rfl rfl (Rd.indexAddr rfl rfl (by ((apply Len.row; (· (repeat (apply Sel.here)))))) (by (rfl)) (by omega)) ?_)) | ((show SLl _ _ _ _ _ (⟨⟨_, .binOp _ _ _ _ _, _, _, _, _⟩, _, _⟩ :: _) _ _ _); (first | refine SLl.pu rfl rfl rfl (Pu.add rfl rfl (IntWalk.i64_in _ (by omega))) ?_ | (refine SLl.cmp rfl rfl rfl rfl rfl rfl ?_ ?_ <;> intro hq <;> simp only [cmpP] at hq <;> try ((exfalso; omega))))))) | (first | refine SLc.region rfl ?_ | refine SLc.condF rfl ?_ | refine SLc.skip ?_)))
                  exact And.intro rfl (Exists.intro (t + 1) (And.intro (by omega) (And.intro (by omega) (And.intro (by (repeat' (first | exact trivial | apply And.intro | rfl))) .refl))))
              · (repeat' (first | (first | refine SLl.nil ?_ | ((show SLl _ _ _ _ _ (⟨⟨_, _, _, _, _, _⟩, _, _⟩ :: _) _ _ _); first | refine SLl.ev rfl rfl rfl rfl ?_ | ((show SLl _ _ _ _ _ (⟨⟨_, .call ⟨.builtin .len, _, _⟩, _, _, _, _⟩, _, _⟩ :: _) _ _ _); refine SLl.rdSeq rfl rfl (Rd.len rfl (by ((apply Len.row; (· (repeat (apply Sel.here))))))) ?_) | ((show SLl _ _ _ _ _ (⟨⟨_, .binOp _ _ _ _ _, _, _, _, _⟩, _, _⟩ :: _) _ _ _); ((refine SLl.cmp rfl rfl rfl rfl rfl rfl ?_ ?_ <;> intro hq <;> simp only [cmpP] at hq <;> try ((exfalso; omega))))))) | (first | refine SLc.seq ?_ | refine SLc.region rfl ?_ | refine SLc.condF rfl ?_ | refine SLc.exit ?_)))
                refine SLl.pu rfl rfl rfl (Pu.indexArr1 rfl rfl rfl hj9) ?_
                refine SLl.seq0 rfl (SLo.store rfl rfl rfl (One.lit rfl) (Wr.blk (.there .here) (by omega)) ?_)
                rw [bcells_set]
                (repeat' (first | (first | refine SLl.nil ?_ | ((show SLl _ _ _ _ _ (⟨⟨_, _, _, _, _, _⟩, _, _⟩ :: _) _ _ _); first | refine SLl.ev rfl rfl rfl rfl ?_ | ((show SLl _ _ _ _ _ (⟨⟨_, .binOp _ _ _ _ _, _, _, _, _⟩, _, _⟩ :: _) _ _ _); (refine SLl.pu rfl rfl rfl (Pu.add rfl rfl (IntWalk.i64_in _ (by omega))) ?_)))) | (refine SLc.region rfl ?_)))
                refine And.intro rfl (Exists.intro (j + 1, N'.set j false) (And.intro ⟨by dsimp only; omega, by simpa using hN, ?_⟩ (And.intro (by dsimp only; omega) (And.intro (by (repeat' (first | exact trivial | apply And.intro | rfl))) (.skip .refl)))))
                intro i hi
                dsimp only at hi ⊢
                rw [List.getElem?_set] at hi
                split at hi
                · split at hi <;> cases hi
                · have := hno i hi
                  exact ⟨by omega, this.2⟩
            · (repeat' (first | (first | refine SLl.nil ?_ | ((show SLl _ _ _ _ _ (⟨⟨_, _, _, _, _, _⟩, _, _⟩ :: _) _ _ _); first | refine SLl.ev rfl rfl rfl rfl ?_ | ((show SLl _ _ _ _ _ (⟨⟨_, .binOp _ _ _ _ _, _, _, _, _⟩, _, _⟩ :: _) _ _ _); ((refine SLl.cmp rfl rfl rfl rfl rfl rfl ?_ ?_ <;> intro hq <;> simp only [cmpP] at hq <;> try ((exfalso; omega))))))) | (first | refine SLc.seq ?_ | refine SLc.region rfl ?_ | refine SLc.condF rfl ?_ | refine SLc.exit ?_)))
              exact And.intro rfl (Exists.intro q' (Exists.intro L' (Exists.intro m' (Exists.intro N' (And.intro ⟨by rw [hq']; exact Nat.zero_le _, hm', ⟨by omega, by omega, fun _ => hq', hN, fun i hi => by have := (hno i hi).1; have := (List.getElem?_eq_some_iff.1 hi).1; omega⟩⟩ (And.intro (by rw [hl']; (repeat' (first | exact trivial | apply And.intro | rfl))) .refl))))))
      · by_cases h2 : bt = 2
        · subst h2
          by_cases hbig : L.left ≤ 1099511627776
          · by_cases hok : 0 ≤ y ∧ y ≤ 1073741824 ∧ 0 < L.left
            · obtain ⟨o1, o2, o3⟩ := hok
              have hup : upOk L y = true := by simp [upOk, o1, o2]; omega
              (repeat' (first | (first | refine SLl.nil ?_ | ((show SLl _ _ _ _ _ (⟨⟨_, _, _, _, _, _⟩, _, _⟩ :: _) _ _ _); first | refine SLl.ev rfl rfl rfl rfl ?_ | ((show SLl _ _ _ _ _ (⟨⟨_, .binOp _ _ _ _ _, _, _, _, _⟩, _, _⟩ :: _) _ _ _); ((refine SLl.cmp rfl rfl rfl rfl rfl rfl ?_ ?_ <;> intro hq <;> simp only [cmpP] at hq <;> try (first | exact (hq trivial).elim | (exfalso; omega))))))) | (first | refine SLc.seq ?_ | refine SLc.region rfl ?_ | refine SLc.condT rfl ?_ | refine SLc.condF rfl ?_ | refine SLc.block ?_ | refine SLc.skip ?_)))
              refine SLl.seq rfl rfl (SLo.call plain75 rfl (SLf.mono (Up_in W _ _ lb sb q hup rfl hlo (by omega)) ?_))
              rintro v σ2 ⟨rfl, rfl⟩
              (repeat' (first | (first | refine SLl.nil ?_ | ((show SLl _ _ _ _ _ (⟨⟨_, _, _, _, _, _⟩, _, _⟩ :: _) _ _ _); first | refine SLl.ev rfl rfl rfl rfl ?_ | ((show SLl _ _ _ _ _ (⟨⟨_, .binOp _ _ _ _ _, _, _, _, _⟩, _, _⟩ :: _) _ _ _); (first | refine SLl.pu rfl rfl rfl (Pu.add rfl rfl (IntWalk.i64_in _ (by omega))) ?_ | refine SLl.pu rfl rfl rfl (Pu.neBool rfl rfl) ?_)))) | (first | refine SLc.seq ?_ | refine SLc.region rfl ?_ | refine SLc.condT rfl ?_ | refine SLc.condF rfl ?_ | refine SLc.skip ?_)))
              exact And.intro rfl (Exists.intro q (Exists.intro { L with left := L.left + y } (Exists.intro m (Exists.intro N (And.intro ⟨by dsimp only; omega, hm, ⟨by dsimp only; omega, by dsimp only; omega, fun h => by dsimp only at h; omega, hL.len, hL.noted⟩⟩ (And.intro (by (repeat' (first | exact trivial | apply And.intro | rfl))) .refl))))))
            · have hup : upOk L y = false := by
                simp only [upOk, Bool.and_eq_false_iff, decide_eq_false_iff_not]
                omega
              (repeat' (first | (first | refine SLl.nil ?_ | ((show SLl _ _ _ _ _ (⟨⟨_, _, _, _, _, _⟩, _, _⟩ :: _) _ _ _); first | refine SLl.ev rfl rfl rfl rfl ?_ | ((show SLl _ _ _ _ _ (⟨⟨_, .binOp _ _ _ _ _, _, _, _, _⟩, _, _⟩ :: _) _ _ _); ((refine SLl.cmp rfl rfl rfl rfl rfl rfl ?_ ?_ <;> intro hq <;> simp only [cmpP] at hq <;> try (first | exact (hq trivial).elim | (exfalso; omega))))) | refine SLl.skip rfl rfl ?_)) | (first | refine SLc.seq ?_ | refine SLc.region rfl ?_ | refine SLc.condT rfl ?_ | refine SLc.condF rfl ?_ | refine SLc.block ?_ | refine SLc.skip ?_)))
              all_goals
                refine SLl.seq rfl rfl (SLo.call plain75 rfl (SLf.mono (Up_in W _ _ lb sb q hup rfl hlo (by omega)) ?_))
                rintro v σ2 ⟨rfl, rfl⟩
                (repeat' (first | (first | refine SLl.nil ?_ | ((show SLl _ _ _ _ _ (⟨⟨_, _, _, _, _, _⟩, _, _⟩ :: _) _ _ _); first | refine SLl.ev rfl rfl rfl rfl ?_ | ((show SLl _ _ _ _ _ (⟨⟨_, .binOp _ _ _ _ _, _, _, _, _⟩, _, _⟩ :: _) _ _ _); (refine SLl.pu rfl rfl rfl (Pu.neBool rfl rfl) ?_)))) | (first | refine SLc.seq ?_ | refine SLc.region rfl ?_ | refine SLc.condF rfl ?_ | refine SLc.skip ?_)))
                exact And.intro rfl (Exists.intro q (Exists.intro L (Exists.intro m (Exists.intro N (And.intro ⟨by omega, hm, hL⟩ (And.intro (by (repeat' (first | exact trivial | apply And.intro | rfl))) .refl))))))
          · (repeat' (first | (first | refine SLl.nil ?_ | ((show SLl _ _ _ _ _ (⟨⟨_, _, _, _, _, _⟩, _, _⟩ :: _) _ _ _); first | refine SLl.ev rfl rfl rfl rfl ?_ | ((show SLl _ _ _ _ _ (⟨⟨_, .binOp _ _ _ _ _, _, _, _, _⟩, _, _⟩ :: _) _ _ _); ((refine SLl.cmp rfl rfl rfl rfl rfl rfl ?_ ?_ <;> intro hq <;> simp only [cmpP] at hq <;> try (first | exact (hq trivial).elim | (exfalso; omega))))) | refine SLl.skip rfl rfl ?_)) | (first | refine SLc.seq ?_ | refine SLc.region rfl ?_ | refine SLc.condT rfl ?_ | refine SLc.condF rfl ?_ | refine SLc.block ?_ | refine SLc.ret ?_)))
            all_goals exact And.intro rfl (Exists.intro _ (Exists.intro [] (And.intro rfl (And.intro .drop rfl))))
        · have hb0 : ¬ bt = 0 := fun h => h01 (.inl h)
          have hb1 : ¬ bt = 1 := fun h => h01 (.inr h)
          obtain ⟨hi0, hi1, hi2, hi3⟩ := rem9 y
          (repeat' (first | (first | refine SLl.nil ?_ | ((show SLl _ _ _ _ _ (⟨⟨_, _, _, _, _, _⟩, _, _⟩ :: _) _ _ _); first | refine SLl.ev rfl rfl rfl rfl ?_ | ((show SLl _ _ _ _ _ (⟨⟨_, .binOp _ _ _ _ _, _, _, _, _⟩, _, _⟩ :: _) _ _ _); ((refine SLl.cmp rfl rfl rfl rfl rfl rfl ?_ ?_ <;> intro hq <;> simp only [cmpP] at hq <;> try ((exfalso; omega))))))) | (first | refine SLc.seq ?_ | refine SLc.region rfl ?_ | refine SLc.condF rfl ?_ | refine SLc.block ?_)))
          refine SLl.pu rfl rfl rfl (Pu.remI (j := 9) rfl rfl (by decide)) ?_
          generalize y.tmod 9 = y at *
          (repeat' ((((show SLl _ _ _ _ _ (⟨⟨_, _, _, _, _, _⟩, _, _⟩ :: _) _ _ _); ((show SLl _ _ _ _ _ (⟨⟨_, .binOp _ _ _ _ _, _, _, _, _⟩, _, _⟩ :: _) _ _ _); (refine SLl.pu rfl rfl rfl (Pu.add rfl rfl (IntWalk.i64_in _ (by omega))) ?_))))))
          refine SLl.pu rfl rfl rfl (Pu.remI (j := 9) rfl rfl (by decide)) ?_
          generalize (y + 9).tmod 9 = id at *
          obtain ⟨d, rfl⟩ := Int.eq_ofNat_of_zero_le hi0
          have hd9 : d < 9 := by omega
          have hNl := hL.len
          have hA0 : N[d]? = some N[d] := List.getElem?_eq_getElem (by omega)
          generalize N[d]'_ = nb at hA0
          have hA := bcells_at hA0
          have hAl := @bcells_len N
          (repeat' (first | (first | refine SLl.nil ?_ | ((show SLl _ _ _ _ _ (⟨⟨_, _, _, _, _, _⟩, _, _⟩ :: _) _ _ _); refine SLl.ev rfl rfl rfl rfl ?_)) | (first | refine SLc.seq ?_ | refine SLc.region rfl ?_)))
          rcases await_cases (L := L) (id := (d : Int)) hlo with ⟨hz, haw⟩ | ⟨hz, L', haw, hl', hd', hsub', hql'⟩
          · refine SLl.seq rfl rfl (SLo.call plain70 rfl (SLf.mono (Await_in W _ _ lb sb q haw (by omega)) ?_))
            rintro v σ2 ⟨q', rfl, rfl⟩
            (repeat' (first | (first | refine SLl.nil ?_ | ((show SLl _ _ _ _ _ (⟨⟨_, _, _, _, _, _⟩, _, _⟩ :: _) _ _ _); first | refine SLl.ev rfl rfl rfl rfl ?_ | ((show SLl _ _ _ _ _ (⟨⟨_, .binOp _ _ _ _ _, _, _, _, _⟩, _, _⟩ :: _) _ _ _); (first | (refine SLl.cmp rfl rfl rfl rfl rfl rfl ?_ ?_ <;> intro hq <;> simp only [cmpP] at hq <;> try ((exfalso; omega))) | refine SLl.pu rfl rfl rfl (Pu.neBool rfl rfl) ?_)))) | (first | refine SLc.region rfl ?_ | refine SLc.condF rfl ?_ | refine SLc.skip ?_)))
            refine SLl.pu rfl rfl rfl (Pu.indexArr1 rfl rfl rfl hd9) ?_
            refine SLl.rdSeq rfl rfl (Rd.load rfl rfl (Reads.blk .here hA)) ?_
            cases nb with
            | true => exact absurd (hL.noted d hA0) (by rw [hL.none hz]; exact List.not_mem_nil)
            | false =>
              (repeat' ((((show SLl _ _ _ _ _ (⟨⟨_, _, _, _, _, _⟩, _, _⟩ :: _) _ _ _); first | refine SLl.ev rfl rfl rfl rfl ?_ | ((show SLl _ _ _ _ _ (⟨⟨_, .binOp _ _ _ _ _, _, _, _, _⟩, _, _⟩ :: _) _ _ _); ((refine SLl.cmp rfl rfl rfl rfl rfl rfl ?_ ?_ <;> intro hq <;> simp only [cmpP] at hq <;> try ((exfalso; omega)))))))))
              refine SLl.pu rfl rfl rfl (Pu.indexArr1 rfl rfl rfl hd9) ?_
              refine SLl.seq0 rfl (SLo.store rfl rfl rfl (One.lit rfl) (Wr.blk .here (by omega)) ?_)
              rw [bcells_set, set_same hA0]
              (repeat' ((refine SLl.nil ?_)))
              exact And.intro rfl (Exists.intro q' (Exists.intro L (Exists.intro m (Exists.intro N (And.intro ⟨by omega, hm, hL⟩ (And.intro (by (repeat' (first | exact trivial | apply And.intro | rfl))) .refl))))))
          · refine SLl.seq rfl rfl (SLo.call plain70 rfl (SLf.mono (Await_in W _ _ lb sb q haw (by omega)) ?_))
            rintro v σ2 ⟨q', rfl, rfl⟩
            (repeat' (first | (first | refine SLl.nil ?_ | ((show SLl _ _ _ _ _ (⟨⟨_, _, _, _, _, _⟩, _, _⟩ :: _) _ _ _); first | refine SLl.ev rfl rfl rfl rfl ?_ | ((show SLl _ _ _ _ _ (⟨⟨_, .binOp _ _ _ _ _, _, _, _, _⟩, _, _⟩ :: _) _ _ _); (first | (refine SLl.cmp rfl rfl rfl rfl rfl rfl ?_ ?_ <;> intro hq <;> simp only [cmpP] at hq <;> try ((exfalso; omega))) | refine SLl.pu rfl rfl rfl (Pu.neBool rfl rfl) ?_)))) | (first | refine SLc.region rfl ?_ | refine SLc.condF rfl ?_ | refine SLc.skip ?_)))
            refine SLl.pu rfl rfl rfl (Pu.indexArr1 rfl rfl rfl hd9) ?_
            refine SLl.rdSeq rfl rfl (Rd.load rfl rfl (Reads.blk .here hA)) ?_
            cases nb
            all_goals
              (repeat' ((((show SLl _ _ _ _ _ (⟨⟨_, _, _, _, _, _⟩, _, _⟩ :: _) _ _ _); first | refine SLl.ev rfl rfl rfl rfl ?_ | ((show SLl _ _ _ _ _ (⟨⟨_, .binOp _ _ _ _ _, _, _, _, _⟩, _, _⟩ :: _) _ _ _); ((refine SLl.cmp rfl rfl rfl rfl rfl rfl ?_ ?_ <;> intro hq <;> simp only [cmpP] at hq <;> try ((exfalso; omega))))) | refine SLl.skip rfl rfl ?_))))
              refine SLl.pu rfl rfl rfl (Pu.indexArr1 rfl rfl rfl hd9) ?_
              refine SLl.seq0 rfl (SLo.store rfl rfl rfl (One.lit rfl) (Wr.blk .here (by omega)) ?_)
              rw [bcells_set]
              (repeat' ((refine SLl.nil ?_)))
              refine And.intro rfl (Exists.intro q' (Exists.intro L' (Exists.intro m (Exists.intro (N.set d true) (And.intro ⟨by omega, hm, ⟨by omega, by omega, fun h => by omega, by simpa using hNl, ?_⟩⟩ (And.intro (by rw [hl']; (repeat' (first | exact trivial | apply And.intro | rfl))) .refl))))))
              intro j hj
              rw [List.getElem?_set] at hj
              split at hj
              · rename_i hdj
                subst hdj
                exact hd'
              · exact hsub' _ (hL.noted j hj)
    · rintro e ds σ ⟨rfl, q', L', m', N', ⟨hq', hm', hL'⟩, hsub, hent⟩
      refine SLc.weaken hsub hent ?_
      clear hsub hent hqk hL hm
      (repeat' (first | (((show SLl _ _ _ _ _ (⟨⟨_, _, _, _, _, _⟩, _, _⟩ :: _) _ _ _); refine SLl.ev rfl rfl rfl rfl ?_)) | (first | refine SLc.seq ?_ | refine SLc.region rfl ?_)))
      refine SLl.seq rfl rfl (SLo.call plain73 rfl (SLf.mono (Left_in W _ _ lb sb q' L') ?_))
      rintro v σ2 ⟨rfl, rfl⟩
      (repeat' (first | (first | refine SLl.nil ?_ | ((show SLl _ _ _ _ _ (⟨⟨_, _, _, _, _, _⟩, _, _⟩ :: _) _ _ _); first | refine SLl.ev rfl rfl rfl rfl ?_ | ((show SLl _ _ _ _ _ (⟨⟨_, .binOp _ _ _ _ _, _, _, _, _⟩, _, _⟩ :: _) _ _ _); (first | refine SLl.pu rfl rfl rfl (Pu.add rfl rfl (IntWalk.i64_in _ (by omega))) ?_ | (refine SLl.cmp rfl rfl rfl rfl rfl rfl ?_ ?_ <;> intro hq <;> simp only [cmpP] at hq <;> try ((exfalso; omega))))))) | (first | refine SLc.region rfl ?_ | refine SLc.condF rfl ?_ | refine SLc.skip ?_)))
      exact And.intro rfl (Exists.intro (k + 1, q', L', m', N') (And.intro ⟨by dsimp only; omega, by dsimp only; omega, hm', hL'⟩ (And.intro (by dsimp only; omega) (And.intro (by (repeat' (first | exact trivial | apply And.intro | rfl))) .refl))))
  · (repeat' (first | (first | refine SLl.nil ?_ | ((show SLl _ _ _ _ _ (⟨⟨_, _, _, _, _, _⟩, _, _⟩ :: _) _ _ _); first | refine SLl.ev rfl rfl rfl rfl ?_ | ((show SLl _ _ _ _ _ (⟨⟨_, .call ⟨.builtin .len, _, _⟩, _, _, _, _⟩, _, _⟩ :: _) _ _ _); refine SLl.rdSeq rfl rfl (Rd.len rfl (by ((apply Len.rs; exact Rs.mono (by assumption) (by (repeat' (exact Ent.drop))))))) ?_) | ((show SLl _ _ _ _ _ (⟨⟨_, .binOp _ _ _ _ _, _, _, _, _⟩, _, _⟩ :: _) _ _ _); ((refine SLl.cmp rfl rfl rfl rfl rfl rfl ?_ ?_ <;> intro hq <;> simp only [cmpP] at hq <;> try ((exfalso; omega))))))) | (first | refine SLc.seq ?_ | refine SLc.region rfl ?_ | refine SLc.condF rfl ?_ | refine SLc.exit ?_ | refine SLc.ret ?_)))
    exact And.intro rfl (Exists.intro _ (Exists.intro [] (And.intro rfl (And.intro .drop rfl))))
end Go.Sl
