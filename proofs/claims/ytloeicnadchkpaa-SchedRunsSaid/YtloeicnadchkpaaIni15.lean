/- backstitchlaw15: the law's tasks as they are made. -/
import Derived.Test.YtloeicnadchkpaaSmall15
namespace Go.Sl
open Go.Proofs
attribute [local irreducible] SLc SLl SLo SLf Pu Rd

def iniM (picks : List Nat) (tbs : List TB) : Sch := ⟨picks, tbs.map newT, 0, -1, false⟩
def iniS (tbs : List TB) : TS := ⟨.slice none 0 0, [], tbs⟩
def ini (picks : List Nat) (D : List Prg) : AS := ⟨picks, D.map fun p => ⟨false, false, false, 0, p.2.map Deed.abs⟩, 0, []⟩
def TB.key (T : TB) : Value × List Deed × Nat := (T.dv, T.ds, T.at_)
def Made (D : List Prg) (tbs : List TB) : Prop := tbs.map TB.key = D.map fun p => (p.1, p.2, 0)
theorem made_nil {D : List Prg} : Made (D.take 0) [] := by simp [Made]
theorem made_snoc {D : List Prg} {i : Nat} {p : Prg} {tbs : List TB} (b : Nat) (h : Made (D.take i) tbs) (hp : D[i]? = some p) : Made (D.take (i + 1)) (tbs ++ [⟨b, p.1, p.2, 0⟩]) := by
  obtain ⟨hk, rfl⟩ := List.getElem?_eq_some_iff.1 hp
  unfold Made at h ⊢
  rw [List.take_succ_eq_append_getElem hk, List.map_append, List.map_append, h]
  rfl
theorem made_len {D : List Prg} {tbs : List TB} (h : Made D tbs) : tbs.length = D.length := by
  have := congrArg List.length h
  simpa using this
theorem iniM_add {picks : List Nat} {tbs : List TB} (T : TB) : addTask (iniM picks tbs) ⟨.func (.func 51) #[ptr T.b] #[], false, false, false⟩ = iniM picks (tbs ++ [T]) := by
  simp [addTask, iniM, newT, stepV]
theorem absL_newT : ∀ (tbs : List TB), absL (tbs.map newT) tbs = (tbs.map TB.key).map fun x => ⟨false, false, false, x.2.2, x.2.1.map Deed.abs⟩
  | [] => rfl
  | T :: r => by
    have := absL_newT r
    simp only [absL, List.map_cons, List.zipWith_cons_cons] at this ⊢
    rw [this]
    rfl
theorem absL_made {D : List Prg} {tbs : List TB} (h : Made D tbs) : absL (tbs.map newT) tbs = D.map fun p => ⟨false, false, false, 0, p.2.map Deed.abs⟩ := by
  rw [absL_newT, h, List.map_map]
  rfl
theorem ini_abs {picks : List Nat} {D : List Prg} {tbs : List TB} (h : Made D tbs) : abs15 (iniM picks tbs) (iniS tbs) = ini picks D := by
  unfold abs15 iniM iniS ini
  dsimp only
  rw [absL_made h]
theorem mu_ini : ∀ (D : List Prg), mu (D.map fun p => ⟨false, false, false, 0, p.2.map Deed.abs⟩) ≤ dsum D D.length + D.length := by
  intro D
  unfold dsum
  rw [List.take_length]
  induction D with
  | nil => exact Nat.le_refl _
  | cons p r ih =>
    simp only [mu, List.map_cons, List.sum_cons, List.length_cons] at ih ⊢
    have : muG (AT.g ⟨false, false, false, 0, p.2.map Deed.abs⟩) = p.2.length + 1 := by simp [muG, AT.g]
    rw [this]
    unfold psize at ih ⊢
    omega
theorem mem_sum_le : ∀ {l : List Nat} {x : Nat}, x ∈ l → x ≤ l.sum
  | _ :: _, _, .head _ => by rw [List.sum_cons]; omega
  | _ :: _, _, .tail _ h => by have := mem_sum_le h; rw [List.sum_cons]; omega
theorem psize_le {D : List Prg} {p : Prg} (h : p ∈ D) : psize p ≤ dsum D D.length := by
  unfold dsum
  rw [List.take_length]
  exact mem_sum_le (List.mem_map_of_mem h)
theorem wake_le {p : Prg} {d : Deed} (h : d ∈ p.2) : d.wake.length ≤ psize p := by
  have : d.wake.length ≤ wsum p.2 p.2.length := by
    unfold wsum
    rw [List.take_length]
    exact mem_sum_le (List.mem_map_of_mem (f := fun d : Deed => d.wake.length) h)
  unfold psize
  omega
theorem ini_TI {W : World} {picks : List Nat} {D : List Prg} {tbs : List TB} (h : Made D tbs) (hD : ∀ p ∈ D, PrgX W p) (hn : D.length ≤ 40) (hs : dsum D D.length ≤ 2000) (hp : ∀ n ∈ picks, n < 256) : TI W (iniM picks tbs) (iniS tbs) := by
  have hmu := mu_ini D
  refine ⟨?_, ?_, ?_, ?_, hp, rfl, ?_⟩
  · simp only [iniM, iniS, List.map_map]
    rfl
  · simp only [iniM, List.length_map]
    rw [made_len h]
    omega
  · intro T hT
    have h1 : T.key ∈ D.map fun p => (p.1, p.2, 0) := by rw [← h]; exact List.mem_map_of_mem hT
    obtain ⟨p, hpD, hk⟩ := List.mem_map.1 h1
    have e1 : p.1 = T.dv := congrArg Prod.fst hk
    have e2 : p.2 = T.ds := congrArg (fun x => x.2.1) hk
    have hX := hD p hpD
    have hle := psize_le hpD
    refine ⟨by rw [← e1, ← e2]; exact hX.rs, fun d hd => ?_, ?_⟩
    · rw [← e2] at hd
      have hd2 := hX.ds d hd
      have := wake_le hd
      exact ⟨hd2.rs, by omega, hd2.wake, hd2.ans, hd2.one⟩
    · rw [← e2]
      unfold psize at hle
      omega
  · show AOk (absL (tbs.map newT) tbs)
    rw [absL_made h]
    intro t ht _
    obtain ⟨p, _, rfl⟩ := List.mem_map.1 ht
    exact Nat.zero_le _
  · show 0 + mu (absL (tbs.map newT) tbs) ≤ 100000
    rw [absL_made h]
    omega
theorem ini_ends {picks : List Nat} {D : List Prg} (hn : D.length ≤ 40) (hs : dsum D D.length ≤ 2000) : (arun 5000 (ini picks D)).2.can = [] := by
  have hmu := mu_ini D
  refine arun_end ?_ (by unfold ini; dsimp only; omega)
  intro t ht _
  obtain ⟨p, _, rfl⟩ := List.mem_map.1 ht
  exact Nat.zero_le _
/-- Run in pieces as at once. -/
theorem arun_piece {A : AS} (c : Nat) (h : (arun 5000 A).2.can = []) : (arun 5000 (arun c A).2).2 = (arun 5000 A).2 ∧ (arun c A).1 + (arun 5000 (arun c A).2).1 = (arun 5000 A).1 := by
  have h1 := arun_add c 5000 A
  have h2 := arun_add 5000 c A
  rw [show c + 5000 = 5000 + c by omega, h2, arun_done h] at h1
  exact ⟨(congrArg Prod.snd h1).symm, (congrArg Prod.fst h1).symm⟩
theorem ts_snoc {sb ob : Nat} {tbs : List TB} {T : TB} {F : List Chunk} : Ent (tbC sb ob T :: (tsC sb ob (iniS tbs) ++ F)) (tsC sb ob (iniS (tbs ++ [T])) ++ F) := by
  have e : tsC sb ob (iniS (tbs ++ [T])) = tsC sb ob (iniS tbs) ++ [tbC sb ob T] := by simp [tsC, iniS]
  rw [e, List.append_assoc]
  exact .perm List.perm_middle.symm
end Go.Sl
