/- backstitchlaw15.SchedRuns: the reference beside the scheduler. -/
import Derived.Test.YtloeicnadchkpaaRef15c
namespace Go.Sl
open Go.Proofs
attribute [local irreducible] SLc SLl SLo SLf Pu Rd

section
variable (W : World) (A B F : List Chunk) (c : Chunk) (rb : Nat) (s : RS)
theorem RGo_mid (dv : Value) (ds : List Deed) (hdo : dv.oneCell' = true) (hn : s.rts.length < 128) :
    SLf Try.prog W 52 [ptr rb, dv] (A ++ (B ++ (rsC rb s ++ F))) (fun r σ => ∃ b Tv', r = .tuple #[.int .i64 (s.rts.length : Int), .int .i64 0] ∧ σ = A ++ (B ++ (rsC rb { s with Tv := Tv', rts := s.rts ++ [⟨b, dv, ds, ⟨false, false, false, 0, ds.map Deed.abs⟩⟩] } ++ F))) := by
  refine SLf.ent (.trans (.left A .swp) .swp) (SLf.to (RGo_ok W (A ++ (B ++ F)) rb s dv ds hdo hn) ?_)
  rintro v σ ⟨b, Tv', rfl, rfl⟩
  exact ⟨_, .trans .swp (.left A .swp), b, Tv', rfl, rfl⟩
theorem ROpen_mid (hT : s.rts.length ≤ 100000) : SLf Try.prog W 54 [ptr rb] (A ++ (B ++ (rsC rb s ++ F))) (fun v σ => v = .int .i64 ((absR s).opens : Int) ∧ σ = A ++ (B ++ (rsC rb s ++ F))) := by
  refine SLf.ent (.trans (.left A .swp) .swp) (SLf.to (ROpen_ok W (A ++ (B ++ F)) rb s hT) ?_)
  rintro v σ ⟨rfl, rfl⟩
  exact ⟨_, .trans .swp (.left A .swp), rfl, rfl⟩
theorem RWake_mid (n : Nat) (hT : s.rts.length ≤ 100000) : SLf Try.prog W 58 [ptr rb, .int .i64 (n : Int)] (A ++ (B ++ (rsC rb s ++ F))) (fun _ σ => σ = A ++ (B ++ (rsC rb { s with rts := wakeR s.rts n } ++ F))) := by
  refine SLf.ent (.trans (.left A .swp) .swp) (SLf.to (RWake_ok W (A ++ (B ++ F)) rb s n hT) ?_)
  rintro v σ rfl
  exact ⟨_, .trans .swp (.left A .swp), rfl⟩
theorem RRun_mid (most : Nat) (hI : RI W s) (hmost : most ≤ 1048576) :
    SLf Try.prog W 53 [ptr rb, .int .i64 (most : Int)] (A ++ (B ++ (rsC rb s ++ F))) (fun v σ => ∃ s', RI W s' ∧ absR s' = (arun most (absR s)).2 ∧ v = .tuple #[.int .i64 ((arun most (absR s)).1 : Int), .int .i64 (arun most (absR s)).2.err] ∧ σ = A ++ (B ++ (rsC rb s' ++ F))) := by
  refine SLf.ent (.trans (.left A .swp) .swp) (SLf.to (RRun_ok W (A ++ (B ++ F)) rb s most hI hmost) ?_)
  rintro v σ ⟨s', h1, h2, rfl, rfl⟩
  exact ⟨_, .trans .swp (.left A .swp), s', h1, h2, rfl, rfl⟩
theorem RGo_c (dv : Value) (ds : List Deed) (hdo : dv.oneCell' = true) (hn : s.rts.length < 128) :
    SLf Try.prog W 52 [ptr rb, dv] (c :: (A ++ (B ++ (rsC rb s ++ F)))) (fun r σ => ∃ b Tv', r = .tuple #[.int .i64 (s.rts.length : Int), .int .i64 0] ∧ σ = c :: (A ++ (B ++ (rsC rb { s with Tv := Tv', rts := s.rts ++ [⟨b, dv, ds, ⟨false, false, false, 0, ds.map Deed.abs⟩⟩] } ++ F)))) :=
  RGo_mid W (c :: A) B F rb s dv ds hdo hn
theorem RWake_c (n : Nat) (hT : s.rts.length ≤ 100000) : SLf Try.prog W 58 [ptr rb, .int .i64 (n : Int)] (c :: (A ++ (B ++ (rsC rb s ++ F)))) (fun _ σ => σ = c :: (A ++ (B ++ (rsC rb { s with rts := wakeR s.rts n } ++ F)))) :=
  RWake_mid W (c :: A) B F rb s n hT
theorem Wake_c (b : Nat) (pv lv : Value) (m : Sch) (id : Int) : SLf Try.prog W 57 [ptr b, .int .i64 id] (c :: (schC b pv lv m ++ F)) (fun r σ => r = .bool (wakeM m id).1 ∧ σ = c :: (schC b pv lv (wakeM m id).2 ++ F)) := Wake_mid W [c] F b pv lv m id
theorem Go_c (b : Nat) (pv lv : Value) (m : Sch) (fn : Fn) (a1 a2 : Array Value) (hn : m.tasks.length < 128) : SLf Try.prog W 36 [ptr b, .func fn a1 a2] (c :: (schC b pv lv m ++ F)) (fun r σ => ∃ lv', r = .tuple #[.int .i64 (m.tasks.length : Int), .int .i64 0] ∧ σ = c :: (schC b pv lv' (addTask m ⟨.func fn a1 a2, false, false, false⟩) ++ F)) := Go_mid W [c] F b pv lv m fn a1 a2 hn
end
def MadeR (D : List Prg) (rts : List RT) : Prop := rts.map (fun r => (r.dv, r.ds, r.t)) = D.map fun p => (p.1, p.2, (⟨false, false, false, 0, p.2.map Deed.abs⟩ : AT))
theorem madeR_nil {D : List Prg} : MadeR (D.take 0) [] := by simp [MadeR]
theorem madeR_snoc {D : List Prg} {i : Nat} {p : Prg} {rts : List RT} (b : Nat) (h : MadeR (D.take i) rts) (hp : D[i]? = some p) : MadeR (D.take (i + 1)) (rts ++ [⟨b, p.1, p.2, ⟨false, false, false, 0, p.2.map Deed.abs⟩⟩]) := by
  obtain ⟨hk, rfl⟩ := List.getElem?_eq_some_iff.1 hp
  unfold MadeR at h ⊢
  rw [List.take_succ_eq_append_getElem hk, List.map_append, List.map_append, h]
  rfl
theorem madeR_len {D : List Prg} {rts : List RT} (h : MadeR D rts) : rts.length = D.length := by
  have := congrArg List.length h
  simpa using this
theorem madeR_t {D : List Prg} {rts : List RT} (h : MadeR D rts) : rts.map RT.t = D.map fun p => ⟨false, false, false, 0, p.2.map Deed.abs⟩ := by
  have := congrArg (List.map fun x : Value × List Deed × AT => x.2.2) h
  rwa [List.map_map, List.map_map] at this
theorem iniR_abs {picks : List Nat} {D : List Prg} {rts : List RT} {pv Tv tv : Value} (h : MadeR D rts) : absR ⟨pv, Tv, tv, picks, 0, [], rts⟩ = ini picks D := by
  unfold absR ini
  dsimp only
  rw [madeR_t h]
theorem iniR_RI {W : World} {picks : List Nat} {D : List Prg} {rts : List RT} {pv Tv tv : Value} (h : MadeR D rts) (hD : ∀ p ∈ D, PrgX W p) (hn : D.length ≤ 40) (hs : dsum D D.length ≤ 2000) (hp : ∀ n ∈ picks, n < 256) (hpv : Rs W [] pv 1 (u8L picks)) : RI W ⟨pv, Tv, tv, picks, 0, [], rts⟩ := by
  have hmu := mu_ini D
  refine ⟨hpv, hp, by dsimp only; rw [madeR_len h]; omega, ?_, ?_, rfl, ?_⟩
  · intro r hr
    have h1 : (r.dv, r.ds, r.t) ∈ D.map fun p => (p.1, p.2, (⟨false, false, false, 0, p.2.map Deed.abs⟩ : AT)) := by rw [← h]; exact List.mem_map_of_mem (f := fun r : RT => (r.dv, r.ds, r.t)) hr
    obtain ⟨p, hpD, hk⟩ := List.mem_map.1 h1
    have e1 : p.1 = r.dv := congrArg Prod.fst hk
    have e2 : p.2 = r.ds := congrArg (fun x => x.2.1) hk
    have e3 : (⟨false, false, false, 0, p.2.map Deed.abs⟩ : AT) = r.t := congrArg (fun x => x.2.2) hk
    have hX := hD p hpD
    have hle := psize_le hpD
    refine ⟨by rw [← e1, ← e2]; exact hX.rs, fun d hd => ?_, ?_, by rw [← e3, ← e2]⟩
    · rw [← e2] at hd
      have hd2 := hX.ds d hd
      have := wake_le hd
      exact ⟨hd2.rs, by omega, hd2.wake, hd2.ans, hd2.one⟩
    · rw [← e2]
      unfold psize at hle
      omega
  · dsimp only
    rw [madeR_t h]
    intro t ht _
    obtain ⟨p, _, rfl⟩ := List.mem_map.1 ht
    exact Nat.zero_le _
  · dsimp only
    rw [madeR_t h]
    omega
theorem aok_g {l l' : List AT} (h : l'.map AT.g = l.map AT.g) (ho : AOk l) : AOk l' := by
  intro t' ht' hd
  have h1 : t'.g ∈ l.map AT.g := by rw [← h]; exact List.mem_map_of_mem ht'
  obtain ⟨t, ht, e⟩ := List.mem_map.1 h1
  have e1 : t.done = t'.done := congrArg Prod.fst e
  have e2 : t.at_ = t'.at_ := congrArg (fun x => x.2.1) e
  have e3 : t.ds = t'.ds := congrArg (fun x => x.2.2) e
  rw [← e2, ← e3]
  exact ho t ht (e1.trans hd)
theorem mu_g {l l' : List AT} (h : l'.map AT.g = l.map AT.g) : mu l' = mu l := by unfold mu; rw [h]
theorem TI_wake {W : World} {m : Sch} {s : TS} (h : TI W m s) (n : Nat) : TI W (wakeM m (n : Int)).2 s ∧ abs15 (wakeM m (n : Int)).2 s = (abs15 m s).wakeA n := by
  obtain ⟨w1, w2, w3, w4⟩ := wakeM_rest m n
  have hg : (absL (wakeM m (n : Int)).2.tasks s.tbs).map AT.g = (absL m.tasks s.tbs).map AT.g := by rw [absL_wake h.len]; exact wakeL_g _ _
  refine ⟨⟨(wakeM_steps m n).trans h.steps, by rw [wakeM_len]; exact h.few, h.ok, aok_g hg h.aok, by rw [w1]; exact h.picks, by rw [w2]; exact h.told, by rw [w2, mu_g hg]; exact h.mu⟩, ?_⟩
  unfold abs15 AS.wakeA
  dsimp only
  rw [w1, w2, absL_wake h.len]
theorem RI_wake {W : World} {s : RS} (h : RI W s) (n : Nat) : RI W { s with rts := wakeR s.rts n } ∧ absR { s with rts := wakeR s.rts n } = (absR s).wakeA n := by
  have hg : ((wakeR s.rts n).map RT.t).map AT.g = (s.rts.map RT.t).map AT.g := by rw [wakeR_t]; exact wakeL_g _ _
  have hk := congrArg (List.map fun x : Nat × Value × List Deed × Bool × List (List Nat × Nat) => (x.1, x.2.1, x.2.2.1, x.2.2.2.2)) (wakeR_k s.rts n)
  rw [List.map_map, List.map_map] at hk
  refine ⟨⟨h.pk, h.lt, by dsimp only; rw [wakeR_len]; exact h.few, all_same h.ok hk, aok_g hg h.aok, h.told, by dsimp only; rw [mu_g hg]; exact h.mu⟩, ?_⟩
  unfold absR AS.wakeA
  dsimp only
  rw [wakeR_t]
theorem pickN_at {f : Task → Bool} {l : List Task} {k n : Nat} {t : Task} (hk : k < n) (h : l[k]? = some t) (hf : f t = true) : (pickN f l n)[(pickN f l k).length]? = some k := by
  have h1 := pickN_succ (f := f) h
  rw [hf, if_pos rfl] at h1
  have h2 : ∃ r, pickN f l n = pickN f l (k + 1) ++ r := by
    unfold pickN
    have h3 := List.take_append_drop (k + 1) (List.range n)
    rw [List.take_range, Nat.min_eq_left hk] at h3
    refine ⟨((List.range n).drop (k + 1)).filter (fun i => ((l[i]?).map f).getD false), ?_⟩
    rw [← List.filter_append, h3]
  obtain ⟨r, hr⟩ := h2
  rw [hr, h1, List.append_assoc, List.getElem?_append_right (Nat.le_refl _)]
  simp
def u16C (n : Nat) : List Value := [.int .u16 (n : Int)]
def u16L (l : List Nat) : List (List Value) := l.map u16C
theorem u16L_len {l : List Nat} : (u16L l).length = l.length := by simp [u16L]
theorem u16L_at {l : List Nat} {k n : Nat} (h : l[k]? = some n) : (u16L l)[k]? = some [.int .u16 (n : Int)] := by simp [u16L, u16C, h]
end Go.Sl
