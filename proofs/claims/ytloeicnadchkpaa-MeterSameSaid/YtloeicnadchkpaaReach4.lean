/- reach.Counts: the contracts. -/
import Derived.Test.YtloeicnadchkpaaReach3
namespace Go.Sl
open Go.Proofs
attribute [local irreducible] SLc SLl SLo SLf Pu Rd

theorem Ent.appL {l F F' : List Chunk} (h : Ent F F') : Ent (l ++ F) (l ++ F') := by
  induction l with
  | nil => exact h
  | cons c l ih => exact .cons .here ih
theorem Counts_no (W : World) (F : List Chunk) (sl : Value) (G : List Node) (root : Int) (hg : GraphR W F sl G) (hm : mayF G root = false) :
    SLf Try.prog W 31 [.agg #[sl], .int .i64 root] F (fun v σ => v = .slice none 0 0 ∧ σ = F) := by
  refine SLf.enter Try.func31 rfl (Nat.le_of_ble_eq_true rfl) ?_
  (repeat' (first | (first | refine SLl.nil ?_ | ((show SLl _ _ _ _ _ (⟨⟨_, _, _, _, _, _⟩, _, _⟩ :: _) _ _ _); first | refine SLl.ev rfl rfl rfl rfl ?_ | ((show SLl _ _ _ _ _ (⟨⟨_, .load _ _, _, _, _, _⟩, _, _⟩ :: _) _ _ _); (refine SLl.rdSeq rfl rfl (Rd.loadN rfl rfl (by ((apply ReadsN.blk0; (· (repeat (apply Sel.here)))))) (by rfl)) ?_)) | ((show SLl _ _ _ _ _ (⟨⟨_, .box _ _, _, _, _, _⟩, _, _⟩ :: _) _ _ _); refine SLl.seq rfl rfl (SLo.boxC rfl (by (exact Cel.agg)) ?_); intro b))) | (first | refine SLc.seq ?_ | refine SLc.region rfl ?_)))
  refine SLl.seq rfl rfl (SLo.call plain30 rfl (SLf.mono (Users_no W _ sl G root (hg.mono (by (repeat' (first | exact Ent.refl | apply Ent.skip)))) hm) ?_))
  rintro v σ ⟨rfl, rfl⟩
  (repeat' (first | (first | refine SLl.nil ?_ | ((show SLl _ _ _ _ _ (⟨⟨_, _, _, _, _, _⟩, _, _⟩ :: _) _ _ _); first | refine SLl.ev rfl rfl rfl rfl ?_ | ((show SLl _ _ _ _ _ (⟨⟨_, .call ⟨.builtin .len, _, _⟩, _, _, _, _⟩, _, _⟩ :: _) _ _ _); refine SLl.rdSeq rfl rfl (Rd.len rfl (by (exact Len.nil))) ?_))) | (refine SLc.block ?_)))
  refine SLc.loop (ι := Unit) (fun _ => [(12, .int .i64 0), (11, .int .i64 0), (5, .slice none 0 0)]) (fun _ => F) (fun _ => True) (fun _ => 0) () trivial (by (repeat' (first | exact trivial | apply And.intro | rfl))) (by (repeat' (first | exact Ent.refl | apply Ent.skip))) ?_
  rintro _ _
  (repeat' (first | (first | refine SLl.nil ?_ | ((show SLl _ _ _ _ _ (⟨⟨_, _, _, _, _, _⟩, _, _⟩ :: _) _ _ _); first | refine SLl.ev rfl rfl rfl rfl ?_ | ((show SLl _ _ _ _ _ (⟨⟨_, .binOp _ _ _ _ _, _, _, _, _⟩, _, _⟩ :: _) _ _ _); ((refine SLl.cmp rfl rfl rfl rfl rfl rfl ?_ ?_ <;> intro hq <;> simp only [cmpP] at hq <;> try ((exfalso; omega))))))) | (first | refine SLc.seq ?_ | refine SLc.region rfl ?_ | refine SLc.condF rfl ?_ | refine SLc.exit ?_ | refine SLc.ret ?_)))
  (refine And.intro rfl (Exists.intro _ (Exists.intro _ (And.intro rfl (And.intro ?_ (And.intro ?_ rfl))))); (· (repeat' (exact Ent.refl))); (try rfl))

theorem usersLoop_len {G : List Node} {R : List Bool} : ∀ (m : Nat) (us : List Uses), (usersLoop G R m us).length = us.length
  | 0, us => rfl
  | m + 1, us => by
    have hall : ∀ (l : List Int) (i s : Nat) (us : List Uses), (addAll i s l us).length = us.length := by
      intro l
      induction l with
      | nil => intro i s us; rfl
      | cons q r ih => intro i s us; simp only [addAll, ih, addUse, List.length_set]
    rw [usersLoop, usersLoop_len m]
    unfold usersStep
    split
    · exact hall _ _ _ _
    · rfl
theorem usersL_len {G : List Node} {root : Nat} : (usersL G root).length = G.length := by
  unfold usersL; rw [usersLoop_len]; simp

theorem Counts_yes (W : World) (F : List Chunk) (sl : Value) (G : List Node) (root : Nat) (hg : GraphR W F sl G) (hm : mayF G root = true) (hb : G.length ≤ 1000000) (hs : insSum G ≤ 1000000) :
    SLf Try.prog W 31 [.agg #[sl], .int .i64 root] F (fun v σ => σ = .row v 3 1 (ints ((usersL G root).map fun u => (u.length : Int))) :: F) := by
  obtain ⟨h0, h1, hin⟩ := mayF_spec hm
  refine SLf.enter Try.func31 rfl (Nat.le_of_ble_eq_true rfl) ?_
  (repeat' (first | (first | refine SLl.nil ?_ | ((show SLl _ _ _ _ _ (⟨⟨_, _, _, _, _, _⟩, _, _⟩ :: _) _ _ _); first | refine SLl.ev rfl rfl rfl rfl ?_ | ((show SLl _ _ _ _ _ (⟨⟨_, .load _ _, _, _, _, _⟩, _, _⟩ :: _) _ _ _); (refine SLl.rdSeq rfl rfl (Rd.loadN rfl rfl (by ((apply ReadsN.blk0; (· (repeat (apply Sel.here)))))) (by rfl)) ?_)) | ((show SLl _ _ _ _ _ (⟨⟨_, .box _ _, _, _, _, _⟩, _, _⟩ :: _) _ _ _); refine SLl.seq rfl rfl (SLo.boxC rfl (by (exact Cel.agg)) ?_); intro b))) | (first | refine SLc.seq ?_ | refine SLc.region rfl ?_)))
  refine SLl.seq rfl rfl (SLo.call plain30 rfl (SLf.mono (Users_yes W _ sl G root (hg.mono (by (repeat' (first | exact Ent.refl | apply Ent.skip)))) hm hb hs) ?_))
  rintro uv σ ⟨huv, ps, hps, rfl⟩
  have hul := @usersL_len G root
  generalize hU : usersL G root = us at hul hps
  have hpl : ps.length = us.length := by rw [← hps]; simp
  have hbl := @uvals_len ps
  (repeat' (first | (first | refine SLl.nil ?_ | ((show SLl _ _ _ _ _ (⟨⟨_, _, _, _, _, _⟩, _, _⟩ :: _) _ _ _); first | refine SLl.ev rfl rfl rfl rfl ?_ | ((show SLl _ _ _ _ _ (⟨⟨_, .call ⟨.builtin .len, _, _⟩, _, _, _, _⟩, _, _⟩ :: _) _ _ _); refine SLl.rdSeq rfl rfl (Rd.len rfl (by ((apply Len.row; (· (repeat (apply Sel.here))))))) ?_))) | (refine SLc.block ?_)))
  refine SLc.loop (ι := Nat × Value) (fun p => [(12, .int .i64 p.1), (11, .int .i64 (uvals ps).length), (10, uv), (5, p.2)]) (fun p => .row p.2 3 1 (ints ((us.take p.1).map fun u => (u.length : Int))) :: .row uv 36 1 (uvals ps) :: (ps.map urow ++ F))
    (fun p => p.1 ≤ us.length) (fun p => us.length - p.1) (0, .slice none 0 0) (Nat.zero_le _) (by (repeat' (first | exact trivial | apply And.intro | rfl))) (.nil (.cons .here ?_)) ?_
  · exact Ent.appL (.skip .refl)
  rintro ⟨k, ov⟩ hk
  dsimp only at hk ⊢
  by_cases hlt : k < us.length
  · have hp : ps[k]? = some (ps[k]'(by omega)) := List.getElem?_eq_getElem (by omega)
    generalize ps[k]'(by omega) = p at hp
    have hu : us[k]? = some p.2 := by rw [← hps]; simp [hp]
    have hat := uvals_at hp
    have htl : ((us.take k).map fun u => (u.length : Int)).length = k := by simp; omega
    generalize hL : ((us.take k).map fun u => (u.length : Int)) = L at htl
    have hil := @ints_len L
    (repeat' (first | (first | refine SLl.nil ?_ | ((show SLl _ _ _ _ _ (⟨⟨_, _, _, _, _, _⟩, _, _⟩ :: _) _ _ _); first | refine SLl.ev rfl rfl rfl rfl ?_ | ((show SLl _ _ _ _ _ (⟨⟨_, .load _ _, _, _, _, _⟩, _, _⟩ :: _) _ _ _); (refine SLl.rdSeq rfl rfl (Rd.load rfl rfl (by ((apply Reads.row; (· (repeat (first | apply Sel.here | apply Sel.there))); (· (assumption)); (· rfl))))) ?_)) | ((show SLl _ _ _ _ _ (⟨⟨_, .indexAddr _ _ _, _, _, _, _⟩, _, _⟩ :: _) _ _ _); (refine SLl.rdSeq rfl rfl (Rd.indexAddr rfl rfl (by ((apply Len.row; (· (repeat (first | apply Sel.here | apply Sel.there)))))) (by (rfl)) (by omega)) ?_)) | ((show SLl _ _ _ _ _ (⟨⟨_, .binOp _ _ _ _ _, _, _, _, _⟩, _, _⟩ :: _) _ _ _); ((refine SLl.cmp rfl rfl rfl rfl rfl rfl ?_ ?_ <;> intro hq <;> simp only [cmpP] at hq <;> try ((exfalso; omega))))))) | (first | refine SLc.seq ?_ | refine SLc.region rfl ?_ | refine SLc.condT rfl ?_ | refine SLc.block ?_ | refine SLc.skip ?_)))
    refine SLl.rdSeq rfl rfl (Rd.len rfl (Len.row (es := usesV p.2) (.there (.there (Sel.app (Sel.many (f := urow) hp)))))) ?_
    refine SLl.seq rfl rfl (SLo.buildSlice1 (cs := [.int .i64 (usesV p.2).length]) rfl rfl rfl rfl rfl ?_)
    intro nv hnv
    refine SLl.seq rfl rfl (SLo.append (es := ints L) (ys := [[.int .i64 (usesV p.2).length]]) (by rfl) (by omega) rfl rfl (.there .here) (Src.row .here (by simp)) (One.lits (by simp [Value.oneCell'])) (by simp only [List.length_singleton]; omega) (by simp only [List.length_singleton]; omega) ?_)
    intro v' hv'
    (repeat' (first | (first | refine SLl.nil ?_ | ((show SLl _ _ _ _ _ (⟨⟨_, _, _, _, _, _⟩, _, _⟩ :: _) _ _ _); first | refine SLl.ev rfl rfl rfl rfl ?_ | ((show SLl _ _ _ _ _ (⟨⟨_, .binOp _ _ _ _ _, _, _, _, _⟩, _, _⟩ :: _) _ _ _); (refine SLl.pu rfl rfl rfl (Pu.add rfl rfl (IntWalk.i64_in _ (by omega))) ?_)))) | (refine SLc.region rfl ?_)))
    refine And.intro rfl (Exists.intro (k + 1, v') (And.intro (by dsimp only; omega) (And.intro (by dsimp only; omega) (And.intro (by (repeat' (first | exact trivial | apply And.intro | rfl))) ?_))))
    refine Ent.row ?_ (.skip .refl)
    dsimp only
    rw [List.take_add_one, hu, List.map_append, hL]
    simp [ints, usesV_len]
  · have htk : us.take k = us := List.take_of_length_le (by omega)
    rw [htk]
    (repeat' (first | (first | refine SLl.nil ?_ | ((show SLl _ _ _ _ _ (⟨⟨_, _, _, _, _, _⟩, _, _⟩ :: _) _ _ _); first | refine SLl.ev rfl rfl rfl rfl ?_ | ((show SLl _ _ _ _ _ (⟨⟨_, .binOp _ _ _ _ _, _, _, _, _⟩, _, _⟩ :: _) _ _ _); ((refine SLl.cmp rfl rfl rfl rfl rfl rfl ?_ ?_ <;> intro hq <;> simp only [cmpP] at hq <;> try ((exfalso; omega))))))) | (first | refine SLc.seq ?_ | refine SLc.region rfl ?_ | refine SLc.condF rfl ?_ | refine SLc.exit ?_ | refine SLc.ret ?_)))
    refine And.intro rfl (Exists.intro _ (Exists.intro _ (And.intro rfl (And.intro ?_ rfl))))
    exact .cons .here (.skip .appR)
end Go.Sl
