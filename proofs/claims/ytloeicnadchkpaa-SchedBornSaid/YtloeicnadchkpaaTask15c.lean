/- backstitchlaw15: Run for the law's tasks; the statement's own example. -/
import Derived.Test.YtloeicnadchkpaaTask15b
namespace Go.Sl
open Go.Proofs
attribute [local irreducible] SLc SLl SLo SLf Pu Rd

theorem TRun_ok (W : World) (F : List Chunk) (sb ob : Nat) (pv lv : Value) (m0 : Sch) (s0 : TS) (most : Nat) (hI : TI W m0 s0) (hr : m0.runs = false) (hnow : m0.now = -1) (hmost : most ≤ 1048576) :
    SLf Try.prog W 45 [ptr sb, .int .i64 (most : Int)] (schC sb pv lv m0 ++ (tsC sb ob s0 ++ F)) (fun r σ => ∃ lv' m s, TI W m s ∧ m.runs = false ∧ m.now = -1 ∧ s.tbs.map TB.b = s0.tbs.map TB.b ∧ abs15 m s = (arun most (abs15 m0 s0)).2 ∧
      r = .tuple #[.int .i64 ((arun most (abs15 m0 s0)).1 : Int), .int .i64 (arun most (abs15 m0 s0)).2.err] ∧ σ = schC sb pv lv' m ++ (tsC sb ob s ++ F)) := by
  have hI' : TI W (setRuns m0 true) s0 := ⟨hI.steps, hI.few, hI.ok, hI.aok, hI.picks, hI.told, hI.mu⟩
  refine SLf.mono (Run_ok W F sb pv lv (tsC sb ob) (TI W) taskS (task_spec W sb ob pv) (task_client W) m0 s0 most hI' hr hmost) ?_
  rintro r σ ⟨n, lv', m, s, hrun, hIm, hend, hn, rfl, rfl⟩
  obtain ⟨_, hb, _, hnow', har⟩ := run_arun hI' hrun
  have h1 := har (most - n)
  rw [show n + (most - n) = most by omega] at h1
  have h2 : arun (most - n) (abs15 m s) = (0, abs15 m s) := by
    rcases hend with h | h
    · exact arun_done (by rw [can_abs hIm.len]; exact h) _
    · rw [show most - n = 0 by omega]; rfl
  rw [h2] at h1
  have e0 : abs15 (setRuns m0 true) s0 = abs15 m0 s0 := rfl
  rw [e0] at h1
  rw [h1]
  refine ⟨lv', setRuns m false, s, ⟨hIm.steps, hIm.few, hIm.ok, hIm.aok, hIm.picks, hIm.told, hIm.mu⟩, rfl, hnow' hnow, hb, rfl, ?_, rfl⟩
  rw [← err_abs hIm.len]
  rfl
theorem Go_in3 (W : World) (c1 c2 c3 : Chunk) (F : List Chunk) (b : Nat) (pv lv : Value) (m : Sch) (fn : Fn) (a1 a2 : Array Value) (hn : m.tasks.length < 128) :
    SLf Try.prog W 36 [ptr b, .func fn a1 a2] (c1 :: c2 :: c3 :: (schC b pv lv m ++ F)) (fun r σ => ∃ lv', r = .tuple #[.int .i64 (m.tasks.length : Int), .int .i64 0] ∧ σ = c1 :: c2 :: c3 :: (schC b pv lv' (addTask m ⟨.func fn a1 a2, false, false, false⟩) ++ F)) := Go_mid W [c1, c2, c3] F b pv lv m fn a1 a2 hn
def newT (T : TB) : Task := ⟨stepV T, false, false, false⟩
def awk (ta tb : Nat) : TS := ⟨.slice none 0 0, [], [⟨ta, .slice none 0 0, [], 0⟩, ⟨tb, .slice none 0 0, [], 0⟩]⟩
def awkM (ta tb : Nat) : Sch := ⟨[1], [newT ⟨ta, .slice none 0 0, [], 0⟩, newT ⟨tb, .slice none 0 0, [], 0⟩], 0, -1, false⟩
theorem awk_I (W : World) (ta tb : Nat) : TI W (awkM ta tb) (awk ta tb) := by
  refine ⟨rfl, Nat.le_of_ble_eq_true rfl, ?_, ?_, ?_, rfl, ?_⟩
  · intro T hT
    simp only [awk, List.mem_cons, List.not_mem_nil, or_false] at hT
    rcases hT with rfl | rfl <;> exact ⟨Rs.nil, (fun d hd => (by cases hd)), Nat.zero_le _⟩
  · intro t ht _
    have h1 : absL (awkM ta tb).tasks (awk ta tb).tbs = [⟨false, false, false, 0, []⟩, ⟨false, false, false, 0, []⟩] := rfl
    rw [h1] at ht
    simp only [List.mem_cons, List.not_mem_nil, or_false] at ht
    rcases ht with rfl | rfl <;> exact Nat.zero_le _
  · intro n hn
    simp only [awkM, List.mem_singleton] at hn
    omega
  · have h1 : absL (awkM ta tb).tasks (awk ta tb).tbs = [⟨false, false, false, 0, []⟩, ⟨false, false, false, 0, []⟩] := rfl
    rw [h1]
    exact Nat.le_of_ble_eq_true rfl
theorem awk_runs (ta tb : Nat) : (arun 10 (abs15 (awkM ta tb) (awk ta tb))).1 = 2 ∧ (arun 10 (abs15 (awkM ta tb) (awk ta tb))).2.told = [1, 0] ∧ (arun 10 (abs15 (awkM ta tb) (awk ta tb))).2.err = 0 := by
  have h1 : abs15 (awkM ta tb) (awk ta tb) = ⟨[1], [⟨false, false, false, 0, []⟩, ⟨false, false, false, 0, []⟩], 0, []⟩ := rfl
  rw [h1]
  exact ⟨by decide, by decide, by decide⟩
set_option maxHeartbeats 1000000 in
theorem Awake15 (W : World) (F : List Chunk) : SLf Try.prog W 43 [] F (fun v σ => v = .bool true ∧ σ = F) := by
  refine SLf.enter Try.func43 rfl (Nat.le_of_ble_eq_true rfl) ?_
  (repeat' (first | (first | refine SLl.nil ?_ | ((show SLl _ _ _ _ _ (⟨⟨_, _, _, _, _, _⟩, _, _⟩ :: _) _ _ _); refine SLl.ev rfl rfl rfl rfl ?_)) | (first | refine SLc.seq ?_ | refine SLc.region rfl ?_)))
  refine SLl.seq rfl rfl (SLo.buildSliceE (u8L [1]) (by decide) (by decide) rfl (by (repeat (first | exact CellsW.nil | (apply CellsW.cons; (· (exact Cel.one (by (exact One.lit rfl)))))))) u8L_one rfl (by rfl) ?_)
  intro nv hnv
  refine SLl.seq rfl rfl (SLo.call plain35 rfl (SLf.mono (New_ok W _ nv [1] (Rs.row .here u8L_one) (by decide)) ?_))
  rintro v σ ⟨sb, pv, rfl, rfl⟩
  (repeat' (first | (first | refine SLl.nil ?_ | ((show SLl _ _ _ _ _ (⟨⟨_, _, _, _, _, _⟩, _, _⟩ :: _) _ _ _); first | refine SLl.ev rfl rfl rfl rfl ?_ | ((show SLl _ _ _ _ _ (⟨⟨_, .binOp _ _ _ _ _, _, _, _, _⟩, _, _⟩ :: _) _ _ _); (refine SLl.pu rfl rfl rfl (Pu.eqPtrNil rfl rfl) ?_)) | ((show SLl _ _ _ _ _ (⟨⟨_, .box _ _, _, _, _, _⟩, _, _⟩ :: _) _ _ _); refine SLl.seq rfl rfl (SLo.boxC rfl (by (exact Cel.agg)) ?_); intro b) | ((show SLl _ _ _ _ _ (⟨⟨_, .alloc _, _, _, _, _⟩, _, _⟩ :: _) _ _ _); refine SLl.seq rfl rfl (SLo.alloc ?_); intro b) | ((show SLl _ _ _ _ _ (⟨⟨_, .build _ _, _, _, _, _⟩, _, _⟩ :: _) _ _ _); refine SLl.rdSeq rfl rfl (Rd.build rfl (by (repeat (first | exact CellsW.nil | (apply CellsW.cons; (· (exact Cel.one (by (exact One.lit rfl)))))))) (by rfl)) ?_))) | (first | refine SLc.seq ?_ | refine SLc.region rfl ?_ | refine SLc.condF rfl ?_ | refine SLc.skip ?_)))
  rename_i ob ta
  refine SLl.seq rfl rfl (SLo.call plain36 rfl (SLf.mono (Go_in3 W _ _ _ _ sb pv _ _ (.func 51) #[ptr ta] #[] (Nat.le_of_ble_eq_true rfl)) ?_))
  rintro v σ ⟨lv1, hv, rfl⟩
  have hv : v = .tuple #[.int .i64 0, .int .i64 0] := hv
  subst hv
  (repeat' (first | (first | refine SLl.nil ?_ | ((show SLl _ _ _ _ _ (⟨⟨_, _, _, _, _, _⟩, _, _⟩ :: _) _ _ _); refine SLl.ev rfl rfl rfl rfl ?_)) | (first | refine SLc.seq ?_ | refine SLc.region rfl ?_)))
  refine SLl.seq rfl rfl (SLo.call plain36 rfl (SLf.mono (Go_in3 W _ _ _ _ sb pv _ _ (.func 51) #[ptr b] #[] (Nat.le_of_ble_eq_true rfl)) ?_))
  rintro v σ ⟨lv2, hv, rfl⟩
  have hv : v = .tuple #[.int .i64 1, .int .i64 0] := hv
  subst hv
  (repeat' (first | (first | refine SLl.nil ?_ | ((show SLl _ _ _ _ _ (⟨⟨_, _, _, _, _, _⟩, _, _⟩ :: _) _ _ _); refine SLl.ev rfl rfl rfl rfl ?_)) | (first | refine SLc.seq ?_ | refine SLc.region rfl ?_)))
  obtain ⟨r1, r2, r3⟩ := awk_runs ta b
  refine SLl.seq rfl rfl (SLo.call plain45 rfl (SLf.mono (SLf.ent (σ' := schC sb pv lv2 (awkM ta b) ++ (tsC sb ob (awk ta b) ++ (.row nv 5 1 (u8L [1]) :: F))) ?_ (SLf.to (R' := fun r σ => ∃ tv, r = .tuple #[.int .i64 2, .int .i64 0] ∧ σ = .blk ob 32 [tv] :: .row tv 3 1 (natL [1, 0]) :: F) (TRun_ok W _ sb ob pv lv2 (awkM ta b) (awk ta b) 10 (awk_I W ta b) rfl rfl (by decide)) ?_)) ?_))
  · exact .trans .in3 (.left _ (.cons (.there (.there .here)) (.nil (.cons (.there .here) (.cons .here .refl)))))
  · rintro v σ ⟨lv3, m, s, hI, _, _, _, habs, rfl, rfl⟩
    have ht : s.told = [1, 0] := (congrArg AS.told habs).trans r2
    refine ⟨_, ?_, s.tv, by rw [r1, r3]; rfl, rfl⟩
    rw [← ht]
    exact .trans .appR (.cons .here (.cons .here (.trans .appR (.skip .refl))))
  rintro v σ ⟨tv, rfl, rfl⟩
  have hc0 : (natL [1, 0])[0]? = some [.int .i64 1] := rfl
  have hc1 : (natL [1, 0])[1]? = some [.int .i64 0] := rfl
  have hcl : (natL [1, 0]).length = 2 := rfl
  generalize natL [1, 0] = N at hc0 hc1 hcl
  (repeat' (first | (first | refine SLl.nil ?_ | ((show SLl _ _ _ _ _ (⟨⟨_, _, _, _, _, _⟩, _, _⟩ :: _) _ _ _); first | refine SLl.ev rfl rfl rfl rfl ?_ | ((show SLl _ _ _ _ _ (⟨⟨_, .load _ _, _, _, _, _⟩, _, _⟩ :: _) _ _ _); (refine SLl.rdSeq rfl rfl (Rd.load rfl rfl (by (first | (apply Reads.blk; (· (repeat (apply Sel.here))); (· rfl)) | (apply Reads.row; (· (repeat (first | apply Sel.here | apply Sel.there))); (· (assumption)); (· rfl))))) ?_)) | ((show SLl _ _ _ _ _ (⟨⟨_, .indexAddr _ _ _, _, _, _, _⟩, _, _⟩ :: _) _ _ _); (refine SLl.rdSeq rfl rfl (Rd.indexAddr rfl rfl (by ((apply Len.row; (· (repeat (first | apply Sel.here | apply Sel.there)))))) (by (first | exact ij0 | exact ij1)) (by omega)) ?_)) | ((show SLl _ _ _ _ _ (⟨⟨_, .call ⟨.builtin .len, _, _⟩, _, _, _, _⟩, _, _⟩ :: _) _ _ _); refine SLl.rdSeq rfl rfl (Rd.len rfl (by ((apply Len.row; (· (repeat (first | apply Sel.here | apply Sel.there))))))) ?_) | ((show SLl _ _ _ _ _ (⟨⟨_, .binOp _ _ _ _ _, _, _, _, _⟩, _, _⟩ :: _) _ _ _); ((refine SLl.cmp rfl rfl rfl rfl rfl rfl ?_ ?_ <;> intro hq <;> simp only [cmpP] at hq <;> try (first | exact (hq trivial).elim | (exfalso; omega))))))) | (first | refine SLc.seq ?_ | refine SLc.region rfl ?_ | refine SLc.ret ?_)))
  exact And.intro rfl (Exists.intro _ (Exists.intro F (And.intro rfl (And.intro (.skip (.skip .refl)) (And.intro rfl rfl)))))
end Go.Sl
