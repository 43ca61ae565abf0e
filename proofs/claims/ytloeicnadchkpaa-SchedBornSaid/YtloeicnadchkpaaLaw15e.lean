/- backstitchlaw15.SchedBorn: the walk. -/
import Derived.Test.YtloeicnadchkpaaTask15c
import Derived.Test.YtloeicnadchkpaaAs15
namespace Go.Sl
open Go.Proofs
attribute [local irreducible] SLc SLl SLo SLf Pu Rd

def addK (m : Sch) (st : Value) (k : Nat) : Sch := { m with tasks := m.tasks ++ List.replicate k ⟨st, false, false, false⟩ }
theorem addK_zero {m : Sch} {st : Value} : addK m st 0 = m := by simp [addK]
theorem addK_succ {m : Sch} {st : Value} {k : Nat} : addTask (addK m st k) ⟨st, false, false, false⟩ = addK m st (k + 1) := by
  simp [addTask, addK, List.replicate_succ']
theorem addK_len {m : Sch} {st : Value} {k : Nat} : (addK m st k).tasks.length = m.tasks.length + k := by simp [addK]
theorem Go_in6 (W : World) (c1 c2 c3 c4 c5 c6 : Chunk) (F : List Chunk) (b : Nat) (pv lv : Value) (m : Sch) (fn : Fn) (a1 a2 : Array Value) (hn : m.tasks.length < 128) :
    SLf Try.prog W 36 [ptr b, .func fn a1 a2] (c1 :: c2 :: c3 :: c4 :: c5 :: c6 :: (schC b pv lv m ++ F)) (fun r σ => ∃ lv', r = .tuple #[.int .i64 (m.tasks.length : Int), .int .i64 0] ∧ σ = c1 :: c2 :: c3 :: c4 :: c5 :: c6 :: (schC b pv lv' (addTask m ⟨.func fn a1 a2, false, false, false⟩) ++ F)) :=
  Go_mid W [c1, c2, c3, c4, c5, c6] F b pv lv m fn a1 a2 hn
def bornV (nx bb mb xb stb db : Nat) : Value := .func (.func 49) #[] #[ptr nx, ptr bb, ptr mb, ptr xb, ptr stb, ptr db]
structure BA where
  next : Nat
  made : Nat
  done : Nat
def baC (nx bb mb xb stb db sb : Nat) (bv : Value) (a : BA) : List Chunk :=
  [.blk nx 3 [.int .i64 (a.next : Int)], .blk bb 59 [bv], .blk mb 3 [.int .i64 (a.made : Int)], .blk xb 49 [ptr sb], .blk stb 54 [bornV nx bb mb xb stb db], .blk db 3 [.int .i64 (a.done : Int)]]
set_option maxHeartbeats 1000000 in
theorem Born_a (W : World) (F : List Chunk) (nx bb mb xb stb db sb : Nat) (bv pv lv : Value) (m : Sch) (L : List Nat) (a : BA) (x : Nat) (hL : Rs W [] bv 1 (u8L L)) (hLl : L.length ≤ 30) (hx : L[a.next]? = some x) (hx2 : x < 256) (hlen : m.tasks.length = a.made) (hm : a.made ≤ 100) :
    SLf Try.prog W 49 [ptr nx, ptr bb, ptr mb, ptr xb, ptr stb, ptr db] (baC nx bb mb xb stb db sb bv a ++ (schC sb pv lv m ++ F))
      (fun v σ => ∃ lv', v = .int .i64 1 ∧ σ = baC nx bb mb xb stb db sb bv ⟨a.next + 1, a.made + x % 4, a.done⟩ ++ (schC sb pv lv' (addK m (bornV nx bb mb xb stb db) (x % 4)) ++ F)) := by
  obtain ⟨next, made, done⟩ := a
  dsimp only at hx hlen hm ⊢
  have hul := @u8L_len L
  have hxc := u8L_at hx
  have hnl := (List.getElem?_eq_some_iff.1 hx).1
  have hx4 : x % 4 < 4 := Nat.mod_lt _ (by omega)
  refine SLf.enter Try.func49 rfl (Nat.le_of_ble_eq_true rfl) ?_
  simp only [baC, List.cons_append, List.nil_append]
  (repeat' (first | (first | refine SLl.nil ?_ | ((show SLl _ _ _ _ _ (⟨⟨_, _, _, _, _, _⟩, _, _⟩ :: _) _ _ _); first | refine SLl.ev rfl rfl rfl rfl ?_ | ((show SLl _ _ _ _ _ (⟨⟨_, .load _ _, _, _, _, _⟩, _, _⟩ :: _) _ _ _); (refine SLl.rdSeq rfl rfl (Rd.load rfl rfl (by (first | (apply Reads.blk; (· (repeat (first | apply Sel.here | apply Sel.there))); (· rfl)) | (apply Reads.rs; (· exact Rs.mono (by assumption) (by (repeat' (exact Ent.drop)))); (· (assumption)); (· rfl))))) ?_)) | ((show SLl _ _ _ _ _ (⟨⟨_, .indexAddr _ _ _, _, _, _, _⟩, _, _⟩ :: _) _ _ _); (refine SLl.rdSeq rfl rfl (Rd.indexAddr rfl rfl (by ((apply Len.rs; exact Rs.mono (by assumption) (by (repeat' (exact Ent.drop)))))) (by (rfl)) (by omega)) ?_)) | ((show SLl _ _ _ _ _ (⟨⟨_, .call ⟨.builtin .len, _, _⟩, _, _, _, _⟩, _, _⟩ :: _) _ _ _); refine SLl.rdSeq rfl rfl (Rd.len rfl (by ((apply Len.rs; exact Rs.mono (by assumption) (by (repeat' (exact Ent.drop))))))) ?_) | ((show SLl _ _ _ _ _ (⟨⟨_, .binOp _ _ _ _ _, _, _, _, _⟩, _, _⟩ :: _) _ _ _); ((refine SLl.cmp rfl rfl rfl rfl rfl rfl ?_ ?_ <;> intro hq <;> simp only [cmpP] at hq <;> try ((exfalso; omega))))))) | (first | refine SLc.seq ?_ | refine SLc.region rfl ?_ | refine SLc.condT rfl ?_)))
  refine SLl.pu rfl rfl rfl (Pu.remN (j := 4) rfl rfl (by omega)) ?_
  refine SLl.pu rfl rfl rfl (Pu.convInt rfl (IntWalk.i64_in _ (by omega))) ?_
  generalize x % 4 = k at hx4
  (repeat' (first | (first | refine SLl.nil ?_ | ((show SLl _ _ _ _ _ (⟨⟨_, _, _, _, _, _⟩, _, _⟩ :: _) _ _ _); first | refine SLl.ev rfl rfl rfl rfl ?_ | ((show SLl _ _ _ _ _ (⟨⟨_, .load _ _, _, _, _, _⟩, _, _⟩ :: _) _ _ _); (refine SLl.rdSeq rfl rfl (Rd.load rfl rfl (by ((apply Reads.blk; (· (repeat (apply Sel.here))); (· rfl))))) ?_)) | ((show SLl _ _ _ _ _ (⟨⟨_, .binOp _ _ _ _ _, _, _, _, _⟩, _, _⟩ :: _) _ _ _); (refine SLl.pu rfl rfl rfl (Pu.add rfl rfl (IntWalk.i64_in _ (by omega))) ?_)) | ((show SLl _ _ _ _ _ (⟨⟨_, .store _ _ _, _, _, _, _⟩, _, _⟩ :: _) _ _ _); ((refine SLl.seq0 rfl (SLo.store rfl rfl rfl (by (exact One.lit rfl)) (by ((apply Wr.blk; (· (repeat (apply Upd.here))); (· exact Nat.le_of_ble_eq_true rfl)))) ?_)))))) | (first | refine SLc.seq ?_ | refine SLc.region rfl ?_ | refine SLc.block ?_)))
  refine SLc.loop (ι := Nat × Value) (fun s => [(8, .int .i64 s.1), (7, .int .i64 k), (0, ptr nx), (1, ptr bb), (2, ptr mb), (3, ptr xb), (4, ptr stb), (5, ptr db)])
    (fun s => .blk nx 3 [.int .i64 ((next + 1 : Nat) : Int)] :: .blk bb 59 [bv] :: .blk mb 3 [.int .i64 ((made + s.1 : Nat) : Int)] :: .blk xb 49 [ptr sb] :: .blk stb 54 [bornV nx bb mb xb stb db] :: .blk db 3 [.int .i64 (done : Int)] :: (schC sb pv s.2 (addK m (bornV nx bb mb xb stb db) s.1) ++ F))
    (fun s => s.1 ≤ k) (fun s => k - s.1) (0, lv) (Nat.zero_le _) (by (repeat' (first | exact trivial | apply And.intro | rfl))) (by rw [addK_zero]; exact .refl) ?_
  rintro ⟨j, lw⟩ hj
  dsimp only at hj ⊢
  by_cases hjk : j < k
  · (repeat' (first | (first | refine SLl.nil ?_ | ((show SLl _ _ _ _ _ (⟨⟨_, _, _, _, _, _⟩, _, _⟩ :: _) _ _ _); first | refine SLl.ev rfl rfl rfl rfl ?_ | ((show SLl _ _ _ _ _ (⟨⟨_, .load _ _, _, _, _, _⟩, _, _⟩ :: _) _ _ _); (refine SLl.rdSeq rfl rfl (Rd.load rfl rfl (by ((apply Reads.blk; (· (repeat (first | apply Sel.here | apply Sel.there))); (· rfl))))) ?_)) | ((show SLl _ _ _ _ _ (⟨⟨_, .binOp _ _ _ _ _, _, _, _, _⟩, _, _⟩ :: _) _ _ _); ((refine SLl.cmp rfl rfl rfl rfl rfl rfl ?_ ?_ <;> intro hq <;> simp only [cmpP] at hq <;> try ((exfalso; omega))))))) | (first | refine SLc.seq ?_ | refine SLc.region rfl ?_ | refine SLc.condT rfl ?_ | refine SLc.block ?_ | refine SLc.skip ?_)))
    refine SLl.seq rfl rfl (SLo.call plain36 rfl (SLf.mono (Go_in6 W _ _ _ _ _ _ F sb pv lw (addK m (bornV nx bb mb xb stb db) j) (.func 49) #[] #[ptr nx, ptr bb, ptr mb, ptr xb, ptr stb, ptr db] (by rw [addK_len]; omega)) ?_))
    rintro v σ ⟨lw', rfl, rfl⟩
    have ha : addTask (addK m (bornV nx bb mb xb stb db) j) ⟨.func (.func 49) #[] #[ptr nx, ptr bb, ptr mb, ptr xb, ptr stb, ptr db], false, false, false⟩ = addK m (bornV nx bb mb xb stb db) (j + 1) := addK_succ
    rw [ha, addK_len, hlen]
    (repeat' (first | (first | refine SLl.nil ?_ | ((show SLl _ _ _ _ _ (⟨⟨_, _, _, _, _, _⟩, _, _⟩ :: _) _ _ _); first | refine SLl.ev rfl rfl rfl rfl ?_ | ((show SLl _ _ _ _ _ (⟨⟨_, .load _ _, _, _, _, _⟩, _, _⟩ :: _) _ _ _); (refine SLl.rdSeq rfl rfl (Rd.load rfl rfl (by ((apply Reads.blk; (· (repeat (first | apply Sel.here | apply Sel.there))); (· rfl))))) ?_)) | ((show SLl _ _ _ _ _ (⟨⟨_, .binOp _ _ _ _ _, _, _, _, _⟩, _, _⟩ :: _) _ _ _); (first | refine SLl.pu rfl rfl rfl (Pu.add rfl rfl (IntWalk.i64_in _ (by omega))) ?_ | (refine SLl.cmp rfl rfl rfl rfl rfl rfl ?_ ?_ <;> intro hq <;> simp only [cmpP] at hq <;> try ((exfalso; omega))))) | ((show SLl _ _ _ _ _ (⟨⟨_, .store _ _ _, _, _, _, _⟩, _, _⟩ :: _) _ _ _); ((refine SLl.seq0 rfl (SLo.store rfl rfl rfl (by (exact One.lit rfl)) (by ((apply Wr.blk; (· (repeat (first | apply Upd.here | apply Upd.there))); (· exact Nat.le_of_ble_eq_true rfl)))) ?_)))))) | (first | refine SLc.seq ?_ | refine SLc.region rfl ?_ | refine SLc.condF rfl ?_ | refine SLc.skip ?_)))
    exact And.intro rfl (Exists.intro (j + 1, lw') (And.intro (by dsimp only; omega) (And.intro (by dsimp only; omega) (And.intro (by (repeat' (first | exact trivial | apply And.intro | rfl))) .refl))))
  · obtain rfl : j = k := by omega
    (repeat' (first | (first | refine SLl.nil ?_ | ((show SLl _ _ _ _ _ (⟨⟨_, _, _, _, _, _⟩, _, _⟩ :: _) _ _ _); first | refine SLl.ev rfl rfl rfl rfl ?_ | ((show SLl _ _ _ _ _ (⟨⟨_, .binOp _ _ _ _ _, _, _, _, _⟩, _, _⟩ :: _) _ _ _); ((refine SLl.cmp rfl rfl rfl rfl rfl rfl ?_ ?_ <;> intro hq <;> simp only [cmpP] at hq <;> try ((exfalso; omega))))) | refine SLl.skip rfl rfl ?_)) | (first | refine SLc.seq ?_ | refine SLc.region rfl ?_ | refine SLc.condF rfl ?_ | refine SLc.exit ?_ | refine SLc.ret ?_)))
    exact And.intro rfl (Exists.intro _ (Exists.intro _ (And.intro rfl (And.intro .refl (Exists.intro lw (And.intro rfl rfl))))))
theorem Born_b (W : World) (F : List Chunk) (nx bb mb xb stb db sb : Nat) (bv pv lv : Value) (m : Sch) (L : List Nat) (a : BA) (hL : Rs W [] bv 1 (u8L L)) (hx : L.length ≤ a.next) (hd : a.done ≤ 1000) :
    SLf Try.prog W 49 [ptr nx, ptr bb, ptr mb, ptr xb, ptr stb, ptr db] (baC nx bb mb xb stb db sb bv a ++ (schC sb pv lv m ++ F))
      (fun v σ => v = .int .i64 3 ∧ σ = baC nx bb mb xb stb db sb bv ⟨a.next, a.made, a.done + 1⟩ ++ (schC sb pv lv m ++ F)) := by
  obtain ⟨next, made, done⟩ := a
  dsimp only at hx hd ⊢
  have hul := @u8L_len L
  refine SLf.enter Try.func49 rfl (Nat.le_of_ble_eq_true rfl) ?_
  simp only [baC, List.cons_append, List.nil_append]
  (repeat' (first | (first | refine SLl.nil ?_ | ((show SLl _ _ _ _ _ (⟨⟨_, _, _, _, _, _⟩, _, _⟩ :: _) _ _ _); first | refine SLl.ev rfl rfl rfl rfl ?_ | ((show SLl _ _ _ _ _ (⟨⟨_, .load _ _, _, _, _, _⟩, _, _⟩ :: _) _ _ _); (refine SLl.rdSeq rfl rfl (Rd.load rfl rfl (by ((apply Reads.blk; (· (repeat (first | apply Sel.here | apply Sel.there))); (· rfl))))) ?_)) | ((show SLl _ _ _ _ _ (⟨⟨_, .call ⟨.builtin .len, _, _⟩, _, _, _, _⟩, _, _⟩ :: _) _ _ _); refine SLl.rdSeq rfl rfl (Rd.len rfl (by ((apply Len.rs; exact Rs.mono (by assumption) (by (repeat' (exact Ent.drop))))))) ?_) | ((show SLl _ _ _ _ _ (⟨⟨_, .binOp _ _ _ _ _, _, _, _, _⟩, _, _⟩ :: _) _ _ _); (first | refine SLl.pu rfl rfl rfl (Pu.add rfl rfl (IntWalk.i64_in _ (by omega))) ?_ | (refine SLl.cmp rfl rfl rfl rfl rfl rfl ?_ ?_ <;> intro hq <;> simp only [cmpP] at hq <;> try ((exfalso; omega))))) | ((show SLl _ _ _ _ _ (⟨⟨_, .store _ _ _, _, _, _, _⟩, _, _⟩ :: _) _ _ _); ((refine SLl.seq0 rfl (SLo.store rfl rfl rfl (by (exact One.lit rfl)) (by ((apply Wr.blk; (· (repeat (first | apply Upd.here | apply Upd.there))); (· exact Nat.le_of_ble_eq_true rfl)))) ?_)))))) | (first | refine SLc.seq ?_ | refine SLc.region rfl ?_ | refine SLc.condF rfl ?_ | refine SLc.skip ?_ | refine SLc.ret ?_)))
  exact And.intro rfl (Exists.intro _ (Exists.intro _ (And.intro rfl (And.intro .refl (And.intro rfl rfl)))))
def doneN (l : List Task) : Nat := (l.map fun t => if t.done then 1 else 0).sum
theorem doneN_le (l : List Task) : doneN l ≤ l.length := by
  induction l with
  | nil => exact Nat.le_refl _
  | cons t r ih =>
    unfold doneN at ih ⊢
    rw [List.map_cons, List.sum_cons, List.length_cons]
    split <;> omega
theorem doneN_all {l : List Task} (h : ∀ t ∈ l, t.done = true) : doneN l = l.length := by
  induction l with
  | nil => rfl
  | cons t r ih =>
    have h1 := ih fun t ht => h t (.tail _ ht)
    unfold doneN at h1 ⊢
    rw [List.map_cons, List.sum_cons, List.length_cons, h1, h t (.head _)]
    simp only [if_true]
    omega
theorem canN_at {l : List Task} {k : Nat} {t : Task} (h : l[k]? = some t) (hf : runsT t = true) : pickN runsT l l.length ≠ [] := fun h0 => by
  have : k ∈ pickN runsT l l.length := by
    unfold pickN
    rw [List.mem_filter, List.mem_range]
    exact ⟨(List.getElem?_eq_some_iff.1 h).1, by simp [h, hf]⟩
  rw [h0] at this
  cases this
structure BI (P L : List Nat) (st : Value) (m : Sch) (a : BA) : Prop where
  picks : m.picks = P
  steps : ∀ t ∈ m.tasks, t.step = st ∧ t.waits = false
  len : m.tasks.length = a.made
  few : a.made ≤ 1 + 3 * a.next
  next : a.next ≤ L.length
  done : doneN m.tasks = a.done
  made : m.made = a.next + a.done
def bornS (L : List Nat) (st : Value) (m : Sch) (a : BA) (i : Nat) (said : Int) (m' : Sch) (a' : BA) : Prop :=
  (∃ t, m.tasks[i]? = some t ∧ t.done = false) ∧
  ((∃ x, L[a.next]? = some x ∧ said = 1 ∧ m' = addK (setNow m i) st (x % 4) ∧ a' = ⟨a.next + 1, a.made + x % 4, a.done⟩) ∨ (L.length ≤ a.next ∧ said = 3 ∧ m' = setNow m i ∧ a' = ⟨a.next, a.made, a.done + 1⟩))
theorem born_client {P L : List Nat} {st : Value} (hst : st.oneCell' = true) (hP : ∀ n ∈ P, n < 256) (hL : L.length ≤ 30) : Client (BI P L st) (bornS L st) := by
  refine ⟨fun m a h => ⟨⟨fun t ht => by rw [(h.steps t ht).1]; exact hst, by rw [h.len]; have := h.few; have := h.next; omega⟩, by rw [h.picks]; exact hP⟩, ?_⟩
  intro m a i said m' a' h hp hS
  obtain ⟨⟨t, hti, htd⟩, hS⟩ := hS
  have hil := (List.getElem?_eq_some_iff.1 hti).1
  have hfew := h.few
  have hnext := h.next
  have hlen := h.len
  have hmade := h.made
  have hdone := h.done
  have hdl := doneN_le m.tasks
  rcases hS with ⟨x, hx, rfl, rfl, rfl⟩ | ⟨hx, rfl, rfl, rfl⟩
  · have hx4 : x % 4 < 4 := Nat.mod_lt _ (by omega)
    have hnl := (List.getElem?_eq_some_iff.1 hx).1
    have hti' : (addK (setNow m i) st (x % 4)).tasks[i]? = some t := by
      simp only [addK, setNow]
      rw [List.getElem?_append_left hil]
      exact hti
    have haft : afterStep (addK (setNow m i) st (x % 4)) i 1 = { addK (setNow m i) st (x % 4) with now := -1, made := m.made + 1 } := by
      unfold afterStep
      rw [hti']
      have : saidT 1 t = t := saidTe (by decide) (by decide)
      dsimp only
      rw [this, set_same hti']
      rfl
    refine ⟨by rw [addK_len]; simp only [setNow]; omega, by simp only [addK, setNow]; omega, ?_⟩
    rw [haft]
    refine ⟨h.picks, ?_, ?_, ?_, ?_, ?_, ?_⟩
    · intro u hu
      simp only [addK, setNow, List.mem_append, List.mem_replicate] at hu
      rcases hu with hu | ⟨_, rfl⟩
      · exact h.steps u hu
      · exact ⟨rfl, rfl⟩
    · show (addK (setNow m i) st (x % 4)).tasks.length = a.made + x % 4
      rw [addK_len]
      simp only [setNow]
      omega
    · dsimp only; omega
    · dsimp only; omega
    · show doneN (addK (setNow m i) st (x % 4)).tasks = a.done
      simp only [addK, setNow, doneN, List.map_append, List.sum_append, List.map_replicate]
      unfold doneN at hdone
      rw [hdone]
      simp
    · dsimp only; omega
  · have hti' : (setNow m i).tasks[i]? = some t := hti
    have haft : afterStep (setNow m i) i 3 = { m with now := -1, made := m.made + 1, tasks := m.tasks.set i { t with done := true } } := by
      unfold afterStep
      rw [hti']
      rfl
    refine ⟨by simp only [setNow]; exact hil, by simp only [setNow]; omega, ?_⟩
    rw [haft]
    refine ⟨h.picks, ?_, by simpa using hlen, hfew, hnext, ?_, by dsimp only; omega⟩
    · intro u hu
      rcases List.mem_or_eq_of_mem_set hu with hu | rfl
      · exact h.steps u hu
      · exact h.steps t (List.mem_of_getElem? hti)
    · have h1 : (m.tasks.map fun t => if t.done then 1 else 0)[i]? = some 0 := by rw [List.getElem?_map, hti]; simp [htd]
      have h2 := sum_set (b := 1) h1
      show doneN (m.tasks.set i { t with done := true }) = a.done + 1
      unfold doneN at hdone ⊢
      rw [List.map_set]
      simp only [if_true]
      omega
theorem born_runs {L : List Nat} {st : Value} {m0 m : Sch} {a0 a : BA} {n : Nat} (h : RunTo (bornS L st) m0 a0 n m a) : a.next + a.done = a0.next + a0.done + n := by
  induction h with
  | zero => rfl
  | step _ _ hs ih =>
    rcases hs.2 with ⟨x, _, _, _, rfl⟩ | ⟨_, _, _, rfl⟩
    · dsimp only; omega
    · dsimp only; omega
theorem born_ends {P L : List Nat} {st : Value} {m : Sch} {a : BA} (h : BI P L st m a) (hc : canN m = []) : a.done = a.made ∧ errM m = 0 ∧ openN m = 0 := by
  have hd : ∀ t ∈ m.tasks, t.done = true := by
    intro t ht
    obtain ⟨j, hj⟩ := List.mem_iff_getElem?.1 ht
    have h2 := (h.steps t ht).2
    cases hd : t.done with
    | true => rfl
    | false =>
      exact absurd hc (canN_at hj (by simp [runsT, h2, hd]))
  have h1 := doneN_all hd
  have ho : openN m = 0 := by
    unfold openN openUp
    rw [List.take_length, List.length_eq_zero_iff, List.filter_eq_nil_iff]
    intro t ht
    simp [hd t ht]
  have := h.done
  have := h.len
  exact ⟨by omega, by simp [errM, hc, ho], ho⟩
theorem born_spec (W : World) (nx bb mb xb stb db sb : Nat) (bv pv : Value) (P L : List Nat) (hL : Rs W [] bv 1 (u8L L)) (hLl : L.length ≤ 30) (hLk : ∀ n ∈ L, n < 256) (F : List Chunk) :
    StepSpec W sb pv (fun a => baC nx bb mb xb stb db sb bv a ++ F) (BI P L (bornV nx bb mb xb stb db)) (bornS L (bornV nx bb mb xb stb db)) := by
  intro m a lv i t h hpi hti htr
  have hst := (h.steps t (List.mem_of_getElem? hti)).1
  have htd : t.done = false := by simp [runsT] at htr; exact htr.2
  have hfew := h.few
  have hnext := h.next
  have hdone := h.done
  have hdl := doneN_le m.tasks
  have hlen := h.len
  refine ⟨49, [], [ptr nx, ptr bb, ptr mb, ptr xb, ptr stb, ptr db], hst, plain49, ?_⟩
  by_cases hn : a.next < L.length
  · have hx : L[a.next]? = some L[a.next] := List.getElem?_eq_getElem hn
    have hx2 := hLk _ (List.getElem_mem hn)
    generalize L[a.next] = x at hx hx2
    refine SLf.ent .swp (SLf.to (Born_a W F nx bb mb xb stb db sb bv pv lv (setNow m i) L a x hL hLl hx hx2 hlen (by omega)) ?_)
    rintro v σ ⟨lv', rfl, rfl⟩
    exact ⟨_, .swp, 1, lv', _, ⟨a.next + 1, a.made + x % 4, a.done⟩, rfl, rfl, ⟨t, hti, htd⟩, .inl ⟨x, hx, rfl, rfl, rfl⟩⟩
  · refine SLf.ent .swp (SLf.to (Born_b W F nx bb mb xb stb db sb bv pv lv (setNow m i) L a hL (by omega) (by omega)) ?_)
    rintro v σ ⟨rfl, rfl⟩
    exact ⟨_, .swp, 3, lv, _, ⟨a.next, a.made, a.done + 1⟩, rfl, rfl, ⟨t, hti, htd⟩, .inr ⟨by omega, rfl, rfl, rfl⟩⟩
theorem RunBorn (W : World) (F : List Chunk) (nx bb mb xb stb db sb : Nat) (bv pv lv : Value) (P L : List Nat) (hL : Rs W [] bv 1 (u8L L)) (hLl : L.length ≤ 30) (hLk : ∀ n ∈ L, n < 256) (hP : ∀ n ∈ P, n < 256) :
    SLf Try.prog W 45 [ptr sb, .int .i64 10000] (baC nx bb mb xb stb db sb bv ⟨0, 1, 0⟩ ++ (schC sb pv lv ⟨P, [⟨bornV nx bb mb xb stb db, false, false, false⟩], 0, -1, false⟩ ++ F))
      (fun r σ => ∃ lv' m a, SchOk m ∧ openN m = 0 ∧ a.done = a.made ∧ a.next ≤ L.length ∧ a.made ≤ 100 ∧ r = .tuple #[.int .i64 ((a.next + a.made : Nat) : Int), .int .i64 0] ∧ σ = baC nx bb mb xb stb db sb bv a ++ (schC sb pv lv' m ++ F)) := by
  refine SLf.ent .swp (SLf.to (Run_ok W F sb pv lv (baC nx bb mb xb stb db sb bv) (BI P L (bornV nx bb mb xb stb db)) (bornS L (bornV nx bb mb xb stb db)) (born_spec W nx bb mb xb stb db sb bv pv P L hL hLl hLk) (born_client rfl hP hLl) ⟨P, [⟨bornV nx bb mb xb stb db, false, false, false⟩], 0, -1, false⟩ ⟨0, 1, 0⟩ 10000
    ⟨rfl, fun t ht => by simp only [setRuns, List.mem_singleton] at ht; subst ht; exact ⟨rfl, rfl⟩, rfl, Nat.le_refl _, Nat.zero_le _, rfl, rfl⟩ rfl (by decide)) ?_)
  rintro r σ ⟨n, lv', m, a, hrun, hIm, hend, hn, rfl, rfl⟩
  have hat := born_runs hrun
  have hdl := doneN_le m.tasks
  have hdone := hIm.done
  have hlen := hIm.len
  have hfew := hIm.few
  have hnext := hIm.next
  dsimp only at hat
  have hcan : canN m = [] := by
    rcases hend with h | h
    · exact h
    · omega
  obtain ⟨e1, e2, e3⟩ := born_ends hIm hcan
  have hok := ((born_client (P := P) (L := L) (st := bornV nx bb mb xb stb db) rfl hP hLl).ok m a hIm).1
  refine ⟨_, .swp, lv', setRuns m false, a, ⟨hok.steps, hok.few⟩, e3, e1, hnext, by omega, ?_, rfl⟩
  rw [e2, show n = a.next + a.made by omega]
set_option maxRecDepth 4000 in
set_option maxHeartbeats 2000000 in
theorem Born15 (W : World) (bv pv : Value) (L P : List Nat) (hL : Rs W [] bv 1 (u8L L)) (hLk : ∀ n ∈ L, n < 256) (hbo : bv.oneCell' = true) (hp : Rs W [] pv 1 (u8L P)) (hP : ∀ n ∈ P, n < 256) (hpl : P.length ≤ 140737488355328) :
    SLf Try.prog W 11 [bv, pv] [] (fun v _ => v = .bool true) := by
  have hul := @u8L_len L
  have hul2 := @u8L_len P
  refine SLf.enter Try.func11 rfl (Nat.le_of_ble_eq_true rfl) ?_
  (repeat' (first | (first | refine SLl.nil ?_ | ((show SLl _ _ _ _ _ (⟨⟨_, _, _, _, _, _⟩, _, _⟩ :: _) _ _ _); first | refine SLl.ev rfl rfl rfl rfl ?_ | ((show SLl _ _ _ _ _ (⟨⟨_, .box _ _, _, _, _, _⟩, _, _⟩ :: _) _ _ _); refine SLl.seq rfl rfl (SLo.boxC rfl (by (exact Cel.one (by (exact One.lit (by assumption))))) ?_); intro b))) | (first | refine SLc.seq ?_ | refine SLc.region rfl ?_)))
  rename Nat => bb
  refine SLl.seq rfl rfl (SLo.call plain43 rfl (SLf.mono (Awake15 W _) ?_))
  rintro v σ ⟨rfl, rfl⟩
  (repeat' (first | (first | refine SLl.nil ?_ | ((show SLl _ _ _ _ _ (⟨⟨_, _, _, _, _, _⟩, _, _⟩ :: _) _ _ _); first | refine SLl.ev rfl rfl rfl rfl ?_ | ((show SLl _ _ _ _ _ (⟨⟨_, .load _ _, _, _, _, _⟩, _, _⟩ :: _) _ _ _); (refine SLl.rdSeq rfl rfl (Rd.load rfl rfl (by ((apply Reads.blk; (· (repeat (apply Sel.here))); (· rfl))))) ?_)) | ((show SLl _ _ _ _ _ (⟨⟨_, .call ⟨.builtin .len, _, _⟩, _, _, _, _⟩, _, _⟩ :: _) _ _ _); refine SLl.rdSeq rfl rfl (Rd.len rfl (by ((apply Len.rs; exact Rs.mono (by assumption) (by (repeat' (exact Ent.drop))))))) ?_) | ((show SLl _ _ _ _ _ (⟨⟨_, .binOp _ _ _ _ _, _, _, _, _⟩, _, _⟩ :: _) _ _ _); ((refine SLl.cmp rfl rfl rfl rfl rfl rfl ?_ ?_ <;> intro hq <;> simp only [cmpP] at hq <;> try (fail)))) | refine SLl.skip rfl rfl ?_)) | (first | refine SLc.seq ?_ | refine SLc.region rfl ?_ | refine SLc.condT rfl ?_ | refine SLc.condF rfl ?_ | refine SLc.skip ?_ | refine SLc.ret ?_)))
  · exact And.intro rfl (Exists.intro _ (Exists.intro [] (And.intro rfl (And.intro .drop rfl))))
  · exact And.intro rfl (Exists.intro _ (Exists.intro [] (And.intro rfl (And.intro .drop rfl))))
  refine SLl.seq rfl rfl (SLo.call plain35 rfl (SLf.mono (New_ok W _ pv P (hp.mono .drop) hpl) ?_))
  rintro v σ ⟨sb, qv, rfl, rfl⟩
  (repeat' (first | (first | refine SLl.nil ?_ | ((show SLl _ _ _ _ _ (⟨⟨_, _, _, _, _, _⟩, _, _⟩ :: _) _ _ _); first | refine SLl.ev rfl rfl rfl rfl ?_ | ((show SLl _ _ _ _ _ (⟨⟨_, .load _ _, _, _, _, _⟩, _, _⟩ :: _) _ _ _); (refine SLl.rdSeq rfl rfl (Rd.load rfl rfl (by ((apply Reads.blk; (· (repeat (first | apply Sel.here | apply Sel.there))); (· rfl))))) ?_)) | ((show SLl _ _ _ _ _ (⟨⟨_, .binOp _ _ _ _ _, _, _, _, _⟩, _, _⟩ :: _) _ _ _); (refine SLl.pu rfl rfl rfl (Pu.eqPtrNil rfl rfl) ?_)) | ((show SLl _ _ _ _ _ (⟨⟨_, .store _ _ _, _, _, _, _⟩, _, _⟩ :: _) _ _ _); ((refine SLl.seq0 rfl (SLo.store rfl rfl rfl (by (exact One.lit rfl)) (by ((apply Wr.blk; (· (repeat (first | apply Upd.here | apply Upd.there))); (· exact Nat.le_of_ble_eq_true rfl)))) ?_)))) | ((show SLl _ _ _ _ _ (⟨⟨_, .alloc _, _, _, _, _⟩, _, _⟩ :: _) _ _ _); refine SLl.seq rfl rfl (SLo.alloc ?_); intro b))) | (first | refine SLc.seq ?_ | refine SLc.region rfl ?_ | refine SLc.condF rfl ?_ | refine SLc.skip ?_)))
  rename_i xb mb db nx
  rename Nat => stb
  refine SLl.seq rfl rfl (SLo.call plain36 rfl (SLf.mono (SLf.ent (σ' := .blk nx 3 [.int .i64 0] :: .blk bb 59 [bv] :: .blk mb 3 [.int .i64 0] :: .blk xb 49 [ptr sb] :: .blk stb 54 [bornV nx bb mb xb stb db] :: .blk db 3 [.int .i64 0] :: (schC sb qv (.slice none 0 0) ⟨P, [], 0, -1, false⟩ ++ [])) ?_ (Go_in6 W _ _ _ _ _ _ [] sb qv _ _ (.func 49) #[] #[ptr nx, ptr bb, ptr mb, ptr xb, ptr stb, ptr db] (Nat.le_of_ble_eq_true rfl))) ?_))
  · exact .cons (.there .here) (.cons (Sel.there (Sel.there (Sel.there (Sel.there (Sel.right _ .here))))) (.cons (.there (.there .here)) (.cons (.there (.there .here)) (.cons .here (.cons .here .refl)))))
  rintro v σ ⟨lv1, hv, rfl⟩
  have hv : v = .tuple #[.int .i64 0, .int .i64 0] := hv
  subst hv
  (repeat' (first | (first | refine SLl.nil ?_ | ((show SLl _ _ _ _ _ (⟨⟨_, _, _, _, _, _⟩, _, _⟩ :: _) _ _ _); first | refine SLl.ev rfl rfl rfl rfl ?_ | ((show SLl _ _ _ _ _ (⟨⟨_, .load _ _, _, _, _, _⟩, _, _⟩ :: _) _ _ _); (refine SLl.rdSeq rfl rfl (Rd.load rfl rfl (by ((apply Reads.blk; (· (repeat (first | apply Sel.here | apply Sel.there))); (· rfl))))) ?_)) | ((show SLl _ _ _ _ _ (⟨⟨_, .binOp _ _ _ _ _, _, _, _, _⟩, _, _⟩ :: _) _ _ _); (refine SLl.pu rfl rfl rfl (Pu.add rfl rfl (IntWalk.i64_in _ (by omega))) ?_)) | ((show SLl _ _ _ _ _ (⟨⟨_, .store _ _ _, _, _, _, _⟩, _, _⟩ :: _) _ _ _); ((refine SLl.seq0 rfl (SLo.store rfl rfl rfl (by (exact One.lit rfl)) (by ((apply Wr.blk; (· (repeat (first | apply Upd.here | apply Upd.there))); (· exact Nat.le_of_ble_eq_true rfl)))) ?_)))))) | (first | refine SLc.seq ?_ | refine SLc.region rfl ?_)))
  refine SLl.seq rfl rfl (SLo.call plain45 rfl (SLf.mono (RunBorn W [] nx bb mb xb stb db sb bv qv lv1 P L hL (by omega) hLk hP) ?_))
  rintro v σ ⟨lv2, m, ⟨next, made, done⟩, hok, ho, hdm, hnl, hm100, rfl, rfl⟩
  dsimp only at hdm hnl hm100 ⊢
  subst hdm
  simp only [baC, List.cons_append, List.nil_append]
  (repeat' (first | (first | refine SLl.nil ?_ | ((show SLl _ _ _ _ _ (⟨⟨_, _, _, _, _, _⟩, _, _⟩ :: _) _ _ _); first | refine SLl.ev rfl rfl rfl rfl ?_ | ((show SLl _ _ _ _ _ (⟨⟨_, .load _ _, _, _, _, _⟩, _, _⟩ :: _) _ _ _); (refine SLl.rdSeq rfl rfl (Rd.load rfl rfl (by ((apply Reads.blk; (· (repeat (first | apply Sel.here | apply Sel.there))); (· rfl))))) ?_)) | ((show SLl _ _ _ _ _ (⟨⟨_, .call ⟨.builtin .len, _, _⟩, _, _, _, _⟩, _, _⟩ :: _) _ _ _); refine SLl.rdSeq rfl rfl (Rd.len rfl (by ((apply Len.rs; exact Rs.mono (by assumption) (by (repeat' (exact Ent.drop))))))) ?_) | ((show SLl _ _ _ _ _ (⟨⟨_, .binOp _ _ _ _ _, _, _, _, _⟩, _, _⟩ :: _) _ _ _); ((refine SLl.cmp rfl rfl rfl rfl rfl rfl ?_ ?_ <;> intro hq <;> simp only [cmpP] at hq <;> try (exact (hq trivial).elim)))))) | (first | refine SLc.seq ?_ | refine SLc.region rfl ?_)))
  refine SLl.pu rfl rfl rfl (Pu.min2 (r := (next : Int)) rfl rfl (by omega)) ?_
  (repeat' ((((show SLl _ _ _ _ _ (⟨⟨_, _, _, _, _, _⟩, _, _⟩ :: _) _ _ _); first | refine SLl.ev rfl rfl rfl rfl ?_ | ((show SLl _ _ _ _ _ (⟨⟨_, .load _ _, _, _, _, _⟩, _, _⟩ :: _) _ _ _); (refine SLl.rdSeq rfl rfl (Rd.load rfl rfl (by ((apply Reads.blk; (· (repeat (first | apply Sel.here | apply Sel.there))); (· rfl))))) ?_)) | ((show SLl _ _ _ _ _ (⟨⟨_, .binOp _ _ _ _ _, _, _, _, _⟩, _, _⟩ :: _) _ _ _); (first | refine SLl.pu rfl rfl rfl (Pu.add rfl rfl (IntWalk.i64_in _ (by omega))) ?_ | (refine SLl.cmp rfl rfl rfl rfl rfl rfl ?_ ?_ <;> intro hq <;> simp only [cmpP] at hq <;> try ((exfalso; omega)))))))))
  refine SLl.seq rfl rfl (SLo.call plain46 rfl (SLf.mono (Open_mid W [_, _, _, _, _, _] [] sb qv lv2 m hok) ?_))
  rintro v σ ⟨rfl, rfl⟩
  rw [ho]
  (repeat' (first | (first | refine SLl.nil ?_ | ((show SLl _ _ _ _ _ (⟨⟨_, _, _, _, _, _⟩, _, _⟩ :: _) _ _ _); first | refine SLl.ev rfl rfl rfl rfl ?_ | ((show SLl _ _ _ _ _ (⟨⟨_, .binOp _ _ _ _ _, _, _, _, _⟩, _, _⟩ :: _) _ _ _); ((refine SLl.cmp rfl rfl rfl rfl rfl rfl ?_ ?_ <;> intro hq <;> simp only [cmpP] at hq <;> try ((exfalso; omega))))))) | (refine SLc.ret ?_)))
  exact And.intro rfl (Exists.intro _ (Exists.intro [] (And.intro rfl (And.intro .drop rfl))))
end Go.Sl
