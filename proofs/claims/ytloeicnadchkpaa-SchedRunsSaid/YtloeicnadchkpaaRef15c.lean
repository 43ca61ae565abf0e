/- backstitchref15: the reference's scheduler: Run. -/
import Derived.Test.YtloeicnadchkpaaRef15b
namespace Go.Sl
open Go.Proofs
attribute [local irreducible] SLc SLl SLo SLf Pu Rd

structure RI (W : World) (s : RS) : Prop where
  pk : Rs W [] s.pv 1 (u8L s.picks)
  lt : ∀ n ∈ s.picks, n < 256
  few : s.rts.length ≤ 128
  ok : ∀ r ∈ s.rts, RTOk W r
  aok : AOk (s.rts.map RT.t)
  told : s.told.length = s.made
  mu : s.made + mu (s.rts.map RT.t) ≤ 100000
theorem RTOk.same {W : World} {r r' : RT} (h : RTOk W r) (e : (r'.b, r'.dv, r'.ds, r'.t.ds) = (r.b, r.dv, r.ds, r.t.ds)) : RTOk W r' := by
  have e1 : r'.dv = r.dv := congrArg (fun x => x.2.1) e
  have e2 : r'.ds = r.ds := congrArg (fun x => x.2.2.1) e
  have e3 : r'.t.ds = r.t.ds := congrArg (fun x => x.2.2.2) e
  exact ⟨by rw [e1, e2]; exact h.rs, by rw [e2]; exact h.ok, by rw [e2]; exact h.few, by rw [e3, e2]; exact h.ds⟩
theorem all_same {W : World} {l l' : List RT} (h : ∀ r ∈ l, RTOk W r) (e : l'.map (fun r => (r.b, r.dv, r.ds, r.t.ds)) = l.map fun r => (r.b, r.dv, r.ds, r.t.ds)) : ∀ r ∈ l', RTOk W r := by
  intro r' hr'
  have h1 : (r'.b, r'.dv, r'.ds, r'.t.ds) ∈ l.map fun r => (r.b, r.dv, r.ds, r.t.ds) := by rw [← e]; exact List.mem_map_of_mem (f := fun r : RT => (r.b, r.dv, r.ds, r.t.ds)) hr'
  obtain ⟨r, hr, he⟩ := List.mem_map.1 h1
  exact (h r hr).same he.symm
theorem stepR_len (l : List RT) (i : Nat) : (stepR l i).length = l.length := by
  have := congrArg List.length (stepR_k l i)
  simpa using this
theorem RStep_in (W : World) (c : Chunk) (F : List Chunk) (rb : Nat) (s : RS) (i : Nat) (r : RT) (hT : s.rts.length ≤ 100000) (htl : s.told.length ≤ 1000000) (hr : s.rts[i]? = some r) (hd : r.t.done = false) (hok : RTOk W r) (hat : r.t.at_ ≤ 1000000) :
    SLf Try.prog W 89 [ptr rb, .int .i64 (i : Int)] (c :: (rsC rb s ++ F)) (fun _ σ => ∃ tv', σ = c :: (rsC rb { s with tv := tv', told := s.told ++ [i], rts := stepR s.rts i } ++ F)) := by
  refine SLf.ent .into (SLf.to (RStep_ok W (c :: F) rb s i r hT htl hr hd hok hat) ?_)
  rintro v σ ⟨tv', rfl⟩
  exact ⟨_, .out, tv', rfl⟩
set_option pp.maxSteps 1000000 in
set_option pp.deepTerms true in
set_option maxHeartbeats 2000000 in
theorem RRun_ok (W : World) (F : List Chunk) (rb : Nat) (s0 : RS) (most : Nat) (hI : RI W s0) (hmost : most ≤ 1048576) :
    SLf Try.prog W 53 [ptr rb, .int .i64 (most : Int)] (rsC rb s0 ++ F) (fun v σ => ∃ s, RI W s ∧ absR s = (arun most (absR s0)).2 ∧ v = .tuple #[.int .i64 ((arun most (absR s0)).1 : Int), .int .i64 (arun most (absR s0)).2.err] ∧ σ = rsC rb s ++ F) := by
  refine SLf.enter Try.func53 rfl (Nat.le_of_ble_eq_true rfl) ?_
  (repeat' (first | (first | refine SLl.nil ?_ | ((show SLl _ _ _ _ _ (⟨⟨_, _, _, _, _, _⟩, _, _⟩ :: _) _ _ _); first | refine SLl.ev rfl rfl rfl rfl ?_ | ((show SLl _ _ _ _ _ (⟨⟨_, .binOp _ _ _ _ _, _, _, _, _⟩, _, _⟩ :: _) _ _ _); ((refine SLl.cmp rfl rfl rfl rfl rfl rfl ?_ ?_ <;> intro hq <;> simp only [cmpP] at hq <;> try ((exfalso; omega))))))) | (first | refine SLc.seq ?_ | refine SLc.region rfl ?_ | refine SLc.condF rfl ?_ | refine SLc.block ?_ | refine SLc.skip ?_)))
  refine SLc.loop (ι := Nat × RS) (fun p => [(6, .int .i64 p.1), (1, .int .i64 (most : Int)), (0, ptr rb)]) (fun p => rsC rb p.2 ++ F) (fun p => RI W p.2 ∧ p.1 ≤ most ∧ arun most (absR s0) = (p.1 + (arun (most - p.1) (absR p.2)).1, (arun (most - p.1) (absR p.2)).2)) (fun p => most - p.1) (0, s0) ⟨hI, Nat.zero_le _, by simp⟩ (by (repeat' (first | exact trivial | apply And.intro | rfl))) .refl ?_
  clear hI
  rintro ⟨n, s⟩ ⟨hI, hn, har⟩
  dsimp only at hI hn har ⊢
  have hfew := hI.few
  (repeat' (first | (((show SLl _ _ _ _ _ (⟨⟨_, _, _, _, _, _⟩, _, _⟩ :: _) _ _ _); refine SLl.ev rfl rfl rfl rfl ?_)) | (first | refine SLc.seq ?_ | refine SLc.region rfl ?_ | refine SLc.block ?_)))
  refine SLl.seq rfl rfl (SLo.call plain88 rfl (SLf.mono (RCan_ok W F rb s (by omega)) ?_))
  rintro cv σ rfl
  have hcl := @natL_len (absR s).can
  by_cases hc : (absR s).can = []
  · have hc0 : (absR s).can.length = 0 := by rw [hc]; rfl
    rw [arun_done hc] at har
    (repeat' (first | (first | refine SLl.nil ?_ | ((show SLl _ _ _ _ _ (⟨⟨_, _, _, _, _, _⟩, _, _⟩ :: _) _ _ _); first | refine SLl.ev rfl rfl rfl rfl ?_ | ((show SLl _ _ _ _ _ (⟨⟨_, .call ⟨.builtin .len, _, _⟩, _, _, _, _⟩, _, _⟩ :: _) _ _ _); refine SLl.rdSeq rfl rfl (Rd.len rfl (by ((apply Len.row; (· (repeat (apply Sel.here))))))) ?_) | ((show SLl _ _ _ _ _ (⟨⟨_, .binOp _ _ _ _ _, _, _, _, _⟩, _, _⟩ :: _) _ _ _); ((refine SLl.cmp rfl rfl rfl rfl rfl rfl ?_ ?_ <;> intro hq <;> simp only [cmpP] at hq <;> try ((exfalso; omega))))))) | (first | refine SLc.seq ?_ | refine SLc.region rfl ?_ | refine SLc.condT rfl ?_)))
    refine SLl.seq rfl rfl (SLo.call plain54 rfl (SLf.mono (ROpen_in W _ F rb s (by omega)) ?_))
    rintro v σ ⟨rfl, rfl⟩
    have herr : (absR s).err = if (absR s).opens = 0 then 0 else 12 := by simp [AS.err, hc]
    by_cases ho : (absR s).opens = 0
    · rw [if_pos ho] at herr
      (repeat' (first | (first | refine SLl.nil ?_ | ((show SLl _ _ _ _ _ (⟨⟨_, _, _, _, _, _⟩, _, _⟩ :: _) _ _ _); first | refine SLl.ev rfl rfl rfl rfl ?_ | ((show SLl _ _ _ _ _ (⟨⟨_, .binOp _ _ _ _ _, _, _, _, _⟩, _, _⟩ :: _) _ _ _); ((refine SLl.cmp rfl rfl rfl rfl rfl rfl ?_ ?_ <;> intro hq <;> simp only [cmpP] at hq <;> try ((exfalso; omega))))))) | (first | refine SLc.seq ?_ | refine SLc.region rfl ?_ | refine SLc.condF rfl ?_ | refine SLc.skip ?_ | refine SLc.ret ?_)))
      exact And.intro rfl (Exists.intro _ (Exists.intro _ (And.intro rfl (And.intro (.skip .refl) (Exists.intro s (And.intro hI (And.intro (by rw [har]) (And.intro (by rw [har]; dsimp only; rw [herr]; rfl) rfl))))))))
    · rw [if_neg ho] at herr
      (repeat' (first | (first | refine SLl.nil ?_ | ((show SLl _ _ _ _ _ (⟨⟨_, _, _, _, _, _⟩, _, _⟩ :: _) _ _ _); first | refine SLl.ev rfl rfl rfl rfl ?_ | ((show SLl _ _ _ _ _ (⟨⟨_, .binOp _ _ _ _ _, _, _, _, _⟩, _, _⟩ :: _) _ _ _); ((refine SLl.cmp rfl rfl rfl rfl rfl rfl ?_ ?_ <;> intro hq <;> simp only [cmpP] at hq <;> try ((exfalso; omega))))))) | (first | refine SLc.seq ?_ | refine SLc.region rfl ?_ | refine SLc.condT rfl ?_ | refine SLc.ret ?_)))
      exact And.intro rfl (Exists.intro _ (Exists.intro _ (And.intro rfl (And.intro (.skip .refl) (Exists.intro s (And.intro hI (And.intro (by rw [har]) (And.intro (by rw [har]; dsimp only; rw [herr]; rfl) rfl))))))))
  have hc0 : (absR s).can.length ≠ 0 := fun h => hc (List.length_eq_zero_iff.1 h)
  by_cases hnm : n = most
  · subst hnm
    rw [Nat.sub_self] at har
    have herr : (absR s).err = 13 := by simp [AS.err, hc]
    (repeat' (first | (first | refine SLl.nil ?_ | ((show SLl _ _ _ _ _ (⟨⟨_, _, _, _, _, _⟩, _, _⟩ :: _) _ _ _); first | refine SLl.ev rfl rfl rfl rfl ?_ | ((show SLl _ _ _ _ _ (⟨⟨_, .call ⟨.builtin .len, _, _⟩, _, _, _, _⟩, _, _⟩ :: _) _ _ _); refine SLl.rdSeq rfl rfl (Rd.len rfl (by ((apply Len.row; (· (repeat (apply Sel.here))))))) ?_) | ((show SLl _ _ _ _ _ (⟨⟨_, .binOp _ _ _ _ _, _, _, _, _⟩, _, _⟩ :: _) _ _ _); ((refine SLl.cmp rfl rfl rfl rfl rfl rfl ?_ ?_ <;> intro hq <;> simp only [cmpP] at hq <;> try (first | exact (hq trivial).elim | (exfalso; omega))))))) | (first | refine SLc.seq ?_ | refine SLc.region rfl ?_ | refine SLc.condT rfl ?_ | refine SLc.condF rfl ?_ | refine SLc.skip ?_ | refine SLc.ret ?_)))
    exact And.intro rfl (Exists.intro _ (Exists.intro _ (And.intro rfl (And.intro (.skip .refl) (Exists.intro s (And.intro hI (And.intro (by rw [har]; rfl) (And.intro (by rw [har]; dsimp only [arun]; rw [herr]; rfl) rfl))))))))
  have hjl : ((s.picks[s.made % s.picks.length]?).getD 0) % (absR s).can.length < (absR s).can.length := Nat.mod_lt _ (by omega)
  have hj : (absR s).can[((s.picks[s.made % s.picks.length]?).getD 0) % (absR s).can.length]? = some ((absR s).can[((s.picks[s.made % s.picks.length]?).getD 0) % (absR s).can.length]'hjl) := List.getElem?_eq_getElem hjl
  have hpick : (absR s).pick = some ((absR s).can[((s.picks[s.made % s.picks.length]?).getD 0) % (absR s).can.length]'hjl) := hj
  have hmem := List.getElem_mem hjl
  generalize (absR s).can[((s.picks[s.made % s.picks.length]?).getD 0) % (absR s).can.length]'hjl = i at hj hpick hmem
  obtain ⟨t, hti, htw, htd⟩ := can_mem hmem
  have hri : ∃ r, s.rts[i]? = some r ∧ r.t = t := by
    have h1 : (s.rts.map RT.t)[i]? = some t := hti
    rw [List.getElem?_map] at h1
    cases hr : s.rts[i]? with
    | none => rw [hr] at h1; cases h1
    | some r => rw [hr] at h1; exact ⟨r, rfl, by simpa using h1⟩
  obtain ⟨r, hr, rfl⟩ := hri
  have hjc := natL_at hj
  have hok := hI.ok r (List.mem_of_getElem? hr)
  have hat : r.t.at_ ≤ 1000000 := by
    have h1 := hI.aok r.t (List.mem_map_of_mem (List.mem_of_getElem? hr)) htd
    rw [hok.ds, List.length_map] at h1
    have := hok.few
    omega
  have hmu := hI.mu
  have htold := hI.told
  have hpk := hI.pk
  have hul := @u8L_len s.picks
  have hstep : (absR s).step = (absR s).stepAt i := by unfold AS.step; rw [hpick]
  have hsok := step_ok hc hI.aok
  have har2 : arun (most - n) (absR s) = ((arun (most - n - 1) ((absR s).stepAt i)).1 + 1, (arun (most - n - 1) ((absR s).stepAt i)).2) := by
    rw [show most - n = (most - n - 1) + 1 by omega]
    simp only [arun, if_neg hc, hstep]
    rfl
  rw [har2] at har
  rw [hstep] at hsok
  have hst := stepR_t hr hok
  obtain ⟨pv, Tv, tv, picks, made, told, rts⟩ := s
  dsimp only at hfew hjl hj hr hmu htold hpk hul hst hjc hcl ⊢
  generalize hcan : (absR ⟨pv, Tv, tv, picks, made, told, rts⟩).can = can at *
  generalize hjj : ((picks[made % picks.length]?).getD 0) % can.length = j at *
  have hlast : ∀ tv', RI W ⟨pv, Tv, tv', picks, made + 1, told ++ [i], stepR rts i⟩ ∧ absR ⟨pv, Tv, tv', picks, made + 1, told ++ [i], stepR rts i⟩ = (absR ⟨pv, Tv, tv, picks, made, told, rts⟩).stepAt i := fun tv' => by
    have e : absR ⟨pv, Tv, tv', picks, made + 1, told ++ [i], stepR rts i⟩ = (absR ⟨pv, Tv, tv, picks, made, told, rts⟩).stepAt i := by
      unfold absR AS.stepAt
      dsimp only
      rw [hst]
    refine ⟨⟨hpk, hI.lt, by dsimp only; rw [stepR_len]; exact hfew, all_same hI.ok (stepR_k rts i), ?_, by dsimp only; rw [List.length_append]; simp only [List.length_singleton]; omega, ?_⟩, e⟩
    · have := hsok.1; rw [← e] at this; exact this
    · have h2 := hsok.2
      rw [← e] at h2
      have h3 : mu (absR ⟨pv, Tv, tv, picks, made, told, rts⟩).tks = mu (rts.map RT.t) := rfl
      have h4 : mu (absR ⟨pv, Tv, tv', picks, made + 1, told ++ [i], stepR rts i⟩).tks = mu ((stepR rts i).map RT.t) := rfl
      rw [h3, h4] at h2
      dsimp only
      omega
  have key : (picks.length = 0 ∧ j = 0) ∨ (∃ x, 0 < picks.length ∧ (u8L picks)[made % (u8L picks).length]? = some [.int .u8 ((x : Nat) : Int)] ∧ x < 256 ∧ j = x % (natL can).length) := by
    rw [hcl, hul]
    by_cases hp0 : picks.length = 0
    · refine .inl ⟨hp0, ?_⟩
      have : picks = [] := List.length_eq_zero_iff.1 hp0
      rw [← hjj, this]
      simp
    · have hlt : made % picks.length < picks.length := Nat.mod_lt _ (by omega)
      have hx : picks[made % picks.length]? = some picks[made % picks.length] := List.getElem?_eq_getElem hlt
      exact .inr ⟨picks[made % picks.length], by omega, u8L_at hx, hI.lt _ (List.getElem_mem hlt), by rw [← hjj, hx]; rfl⟩
  clear hjj
  simp only [rsC, List.cons_append]
  rcases key with ⟨hp0, rfl⟩ | ⟨x, hp0, hxc, hx2, rfl⟩
  · (repeat' (first | (first | refine SLl.nil ?_ | ((show SLl _ _ _ _ _ (⟨⟨_, _, _, _, _, _⟩, _, _⟩ :: _) _ _ _); first | refine SLl.ev rfl rfl rfl rfl ?_ | ((show SLl _ _ _ _ _ (⟨⟨_, .load _ _, _, _, _, _⟩, _, _⟩ :: _) _ _ _); (refine SLl.rdSeq rfl rfl (Rd.load rfl rfl (by (first | (apply Reads.blk; (· (repeat (first | apply Sel.here | apply Sel.there))); (· rfl)) | (apply Reads.row; (· (repeat (apply Sel.here))); (· (assumption)); (· rfl))))) ?_)) | ((show SLl _ _ _ _ _ (⟨⟨_, .fieldAddr _ _ _, _, _, _, _⟩, _, _⟩ :: _) _ _ _); (refine SLl.pu rfl rfl rfl (Pu.fieldAddr rfl) ?_)) | ((show SLl _ _ _ _ _ (⟨⟨_, .indexAddr _ _ _, _, _, _, _⟩, _, _⟩ :: _) _ _ _); (refine SLl.rdSeq rfl rfl (Rd.indexAddr rfl rfl (by ((apply Len.row; (· (repeat (apply Sel.here)))))) (by (exact ij0)) (by omega)) ?_)) | ((show SLl _ _ _ _ _ (⟨⟨_, .call ⟨.builtin .len, _, _⟩, _, _, _, _⟩, _, _⟩ :: _) _ _ _); refine SLl.rdSeq rfl rfl (Rd.len rfl (by (first | (apply Len.row; (· (repeat (first | apply Sel.here | apply Sel.there)))) | (apply Len.rs; exact Rs.mono (by assumption) (by (repeat' (exact Ent.drop))))))) ?_) | ((show SLl _ _ _ _ _ (⟨⟨_, .binOp _ _ _ _ _, _, _, _, _⟩, _, _⟩ :: _) _ _ _); (first | refine SLl.pu rfl rfl rfl (Pu.add rfl rfl (IntWalk.i64_in _ (by omega))) ?_ | (refine SLl.cmp rfl rfl rfl rfl rfl rfl ?_ ?_ <;> intro hq <;> simp only [cmpP] at hq <;> try ((exfalso; omega))))) | ((show SLl _ _ _ _ _ (⟨⟨_, .store _ _ _, _, _, _, _⟩, _, _⟩ :: _) _ _ _); ((refine SLl.seq0 rfl (SLo.store rfl rfl rfl (by (exact One.lit rfl)) (by ((apply Wr.blk; (· (repeat (first | apply Upd.here | apply Upd.there))); (· exact Nat.le_of_ble_eq_true rfl)))) ?_)))))) | (first | refine SLc.seq ?_ | refine SLc.region rfl ?_ | refine SLc.condF rfl ?_ | refine SLc.skip ?_)))
    refine SLl.seq rfl rfl (SLo.call plain89 rfl (SLf.mono (RStep_in W _ F rb ⟨pv, Tv, tv, picks, made + 1, told, rts⟩ i r (by dsimp only; omega) (by dsimp only; omega) hr htd hok hat) ?_))
    rintro v σ ⟨tv', rfl⟩
    obtain ⟨l1, l2⟩ := hlast tv'
    (repeat' (first | (first | refine SLl.nil ?_ | ((show SLl _ _ _ _ _ (⟨⟨_, _, _, _, _, _⟩, _, _⟩ :: _) _ _ _); first | refine SLl.ev rfl rfl rfl rfl ?_ | ((show SLl _ _ _ _ _ (⟨⟨_, .binOp _ _ _ _ _, _, _, _, _⟩, _, _⟩ :: _) _ _ _); (refine SLl.pu rfl rfl rfl (Pu.add rfl rfl (IntWalk.i64_in _ (by omega))) ?_)))) | (refine SLc.region rfl ?_)))
    exact And.intro rfl (Exists.intro (n + 1, ⟨pv, Tv, tv', picks, made + 1, told ++ [i], stepR rts i⟩) (And.intro ⟨l1, by dsimp only; omega, by dsimp only; rw [l2, show most - (n + 1) = most - n - 1 by omega, har]; exact Prod.ext (by dsimp only; omega) rfl⟩ (And.intro (by dsimp only; omega) (And.intro (by (repeat' (first | exact trivial | apply And.intro | rfl))) (.skip .refl)))))
  · have hjl2 : x % (natL can).length < can.length := hjl
    have hml : made % (u8L picks).length < (u8L picks).length := Nat.mod_lt _ (by omega)
    (repeat' (first | (first | refine SLl.nil ?_ | ((show SLl _ _ _ _ _ (⟨⟨_, _, _, _, _, _⟩, _, _⟩ :: _) _ _ _); first | refine SLl.ev rfl rfl rfl rfl ?_ | ((show SLl _ _ _ _ _ (⟨⟨_, .load _ _, _, _, _, _⟩, _, _⟩ :: _) _ _ _); (refine SLl.rdSeq rfl rfl (Rd.load rfl rfl (by ((apply Reads.blk; (· (repeat (first | apply Sel.here | apply Sel.there))); (· rfl))))) ?_)) | ((show SLl _ _ _ _ _ (⟨⟨_, .fieldAddr _ _ _, _, _, _, _⟩, _, _⟩ :: _) _ _ _); (refine SLl.pu rfl rfl rfl (Pu.fieldAddr rfl) ?_)) | ((show SLl _ _ _ _ _ (⟨⟨_, .call ⟨.builtin .len, _, _⟩, _, _, _, _⟩, _, _⟩ :: _) _ _ _); refine SLl.rdSeq rfl rfl (Rd.len rfl (by (first | (apply Len.row; (· (repeat (first | apply Sel.here | apply Sel.there)))) | (apply Len.rs; exact Rs.mono (by assumption) (by (repeat' (exact Ent.drop))))))) ?_) | ((show SLl _ _ _ _ _ (⟨⟨_, .binOp _ _ _ _ _, _, _, _, _⟩, _, _⟩ :: _) _ _ _); ((refine SLl.cmp rfl rfl rfl rfl rfl rfl ?_ ?_ <;> intro hq <;> simp only [cmpP] at hq <;> try ((exfalso; omega))))))) | (first | refine SLc.seq ?_ | refine SLc.region rfl ?_ | refine SLc.condT rfl ?_ | refine SLc.condF rfl ?_ | refine SLc.skip ?_)))
    refine SLc.drawsI [.row cv 3 1 (natL can), .blk rb 75 [pv, Tv, .int .i64 (made : Int), tv]] (List.replicate 21 .take) mixed (by kernel_rfl) (.cons .here (.cons .here .drop)) ?_
    (repeat' ((((show SLl _ _ _ _ _ (⟨⟨_, _, _, _, _, _⟩, _, _⟩ :: _) _ _ _); first | refine SLl.ev rfl rfl rfl rfl ?_ | ((show SLl _ _ _ _ _ (⟨⟨_, .load _ _, _, _, _, _⟩, _, _⟩ :: _) _ _ _); (refine SLl.rdTake rfl rfl (Rd.load rfl rfl (by ((apply Reads.blk; (· (repeat (first | apply Sel.here | apply Sel.there))); (· rfl))))) ?_)) | ((show SLl _ _ _ _ _ (⟨⟨_, .fieldAddr _ _ _, _, _, _, _⟩, _, _⟩ :: _) _ _ _); (refine SLl.pu rfl rfl rfl (Pu.fieldAddr rfl) ?_)) | ((show SLl _ _ _ _ _ (⟨⟨_, .call ⟨.builtin .len, _, _⟩, _, _, _, _⟩, _, _⟩ :: _) _ _ _); refine SLl.rdTake rfl rfl (Rd.len rfl (by ((apply Len.rs; exact Rs.mono (by assumption) (by (repeat' (exact Ent.drop))))))) ?_)))))
    refine SLl.pu rfl rfl rfl (Pu.remN rfl rfl (by omega)) ?_
    (repeat' ((((show SLl _ _ _ _ _ (⟨⟨_, _, _, _, _, _⟩, _, _⟩ :: _) _ _ _); first | ((show SLl _ _ _ _ _ (⟨⟨_, .load _ _, _, _, _, _⟩, _, _⟩ :: _) _ _ _); (refine SLl.rdTake rfl rfl (Rd.load rfl rfl (by ((apply Reads.rs; (· exact Rs.mono (by assumption) (by (repeat' (exact Ent.drop)))); (· (assumption)); (· rfl))))) ?_)) | ((show SLl _ _ _ _ _ (⟨⟨_, .indexAddr _ _ _, _, _, _, _⟩, _, _⟩ :: _) _ _ _); (refine SLl.rdTake rfl rfl (Rd.indexAddr rfl rfl (by ((apply Len.rs; exact Rs.mono (by assumption) (by (repeat' (exact Ent.drop)))))) (by (rfl)) (by omega)) ?_))))))
    refine SLl.pu rfl rfl rfl (Pu.convInt rfl (IntWalk.i64_in _ (by omega))) ?_
    (repeat' ((((show SLl _ _ _ _ _ (⟨⟨_, _, _, _, _, _⟩, _, _⟩ :: _) _ _ _); first | refine SLl.ev rfl rfl rfl rfl ?_ | ((show SLl _ _ _ _ _ (⟨⟨_, .call ⟨.builtin .len, _, _⟩, _, _, _, _⟩, _, _⟩ :: _) _ _ _); refine SLl.rdTake rfl rfl (Rd.len rfl (by ((apply Len.row; (· (repeat (apply Sel.here))))))) ?_)))))
    refine SLl.pu rfl rfl rfl (Pu.remN rfl rfl (by omega)) ?_
    (repeat' (first | (first | refine SLl.nil ?_ | ((show SLl _ _ _ _ _ (⟨⟨_, _, _, _, _, _⟩, _, _⟩ :: _) _ _ _); first | refine SLl.ev rfl rfl rfl rfl ?_ | ((show SLl _ _ _ _ _ (⟨⟨_, .fieldAddr _ _ _, _, _, _, _⟩, _, _⟩ :: _) _ _ _); (refine SLl.pu rfl rfl rfl (Pu.fieldAddr rfl) ?_)))) | (first | refine SLc.seq ?_ | refine SLc.region rfl ?_)))
    (repeat' (first | (first | refine SLl.nil ?_ | ((show SLl _ _ _ _ _ (⟨⟨_, _, _, _, _, _⟩, _, _⟩ :: _) _ _ _); first | refine SLl.ev rfl rfl rfl rfl ?_ | ((show SLl _ _ _ _ _ (⟨⟨_, .load _ _, _, _, _, _⟩, _, _⟩ :: _) _ _ _); (refine SLl.rdSeq rfl rfl (Rd.load rfl rfl (by (first | (apply Reads.blk; (· (repeat (first | apply Sel.here | apply Sel.there))); (· rfl)) | (apply Reads.row; (· (repeat (apply Sel.here))); (· (assumption)); (· rfl))))) ?_)) | ((show SLl _ _ _ _ _ (⟨⟨_, .fieldAddr _ _ _, _, _, _, _⟩, _, _⟩ :: _) _ _ _); (refine SLl.pu rfl rfl rfl (Pu.fieldAddr rfl) ?_)) | ((show SLl _ _ _ _ _ (⟨⟨_, .indexAddr _ _ _, _, _, _, _⟩, _, _⟩ :: _) _ _ _); (refine SLl.rdSeq rfl rfl (Rd.indexAddr rfl rfl (by ((apply Len.row; (· (repeat (apply Sel.here)))))) (by (rfl)) (by omega)) ?_)) | ((show SLl _ _ _ _ _ (⟨⟨_, .binOp _ _ _ _ _, _, _, _, _⟩, _, _⟩ :: _) _ _ _); (refine SLl.pu rfl rfl rfl (Pu.add rfl rfl (IntWalk.i64_in _ (by omega))) ?_)) | ((show SLl _ _ _ _ _ (⟨⟨_, .store _ _ _, _, _, _, _⟩, _, _⟩ :: _) _ _ _); ((refine SLl.seq0 rfl (SLo.store rfl rfl rfl (by (exact One.lit rfl)) (by ((apply Wr.blk; (· (repeat (first | apply Upd.here | apply Upd.there))); (· exact Nat.le_of_ble_eq_true rfl)))) ?_)))))) | (refine SLc.region rfl ?_)))
    refine SLl.seq rfl rfl (SLo.call plain89 rfl (SLf.mono (RStep_in W _ F rb ⟨pv, Tv, tv, picks, made + 1, told, rts⟩ i r (by dsimp only; omega) (by dsimp only; omega) hr htd hok hat) ?_))
    rintro v σ ⟨tv', rfl⟩
    obtain ⟨l1, l2⟩ := hlast tv'
    (repeat' (first | (first | refine SLl.nil ?_ | ((show SLl _ _ _ _ _ (⟨⟨_, _, _, _, _, _⟩, _, _⟩ :: _) _ _ _); first | refine SLl.ev rfl rfl rfl rfl ?_ | ((show SLl _ _ _ _ _ (⟨⟨_, .binOp _ _ _ _ _, _, _, _, _⟩, _, _⟩ :: _) _ _ _); (refine SLl.pu rfl rfl rfl (Pu.add rfl rfl (IntWalk.i64_in _ (by omega))) ?_)))) | (refine SLc.region rfl ?_)))
    exact And.intro rfl (Exists.intro (n + 1, ⟨pv, Tv, tv', picks, made + 1, told ++ [i], stepR rts i⟩) (And.intro ⟨l1, by dsimp only; omega, by dsimp only; rw [l2, show most - (n + 1) = most - n - 1 by omega, har]; exact Prod.ext (by dsimp only; omega) rfl⟩ (And.intro (by dsimp only; omega) (And.intro (by (repeat' (first | exact trivial | apply And.intro | rfl))) (.skip .refl)))))
end Go.Sl
