/- backstitchlaw15.SchedRuns: the walk. -/
import Derived.Test.YtloeicnadchkpaaRuns15
namespace Go.Sl
open Go.Proofs
attribute [local irreducible] SLc SLl SLo SLf Pu Rd

theorem Wake_cG (W : World) (c : Chunk) (G F : List Chunk) (b : Nat) (pv lv : Value) (m : Sch) (id : Int) : SLf Try.prog W 57 [ptr b, .int .i64 id] (c :: (G ++ (schC b pv lv m ++ F))) (fun r σ => r = .bool (wakeM m id).1 ∧ σ = c :: (G ++ (schC b pv lv (wakeM m id).2 ++ F))) := Wake_mid W (c :: G) F b pv lv m id
set_option pp.maxSteps 1000000 in
set_option pp.deepTerms true in
set_option maxHeartbeats 4000000 in
theorem Runs15 (W : World) (lv pv mv : Value) (D : List Prg) (picks mosts : List Nat) (hl : Rs W [] lv 1 (pcells D)) (hD : ∀ p ∈ D, PrgX W p) (hlen : D.length ≤ 140737488355328)
    (hp : Rs W [] pv 1 (u8L picks)) (hpo : pv.oneCell' = true) (hpk : ∀ n ∈ picks, n < 256) (hpl : picks.length ≤ 140737488355328) (hc : Rs W [] mv 1 (u16L mosts)) (hck : ∀ n ∈ mosts, n < 65536) :
    SLf Try.prog W 13 [lv, pv, mv] [] (fun v _ => v = .bool true) := by
  have hul := @u8L_len picks
  have hul2 := @u16L_len mosts
  have hpcl := @pcells_len D
  refine SLf.enter Try.func13 rfl (Nat.le_of_ble_eq_true rfl) ?_
  (repeat' (first | (first | refine SLl.nil ?_ | ((show SLl _ _ _ _ _ (⟨⟨_, _, _, _, _, _⟩, _, _⟩ :: _) _ _ _); refine SLl.ev rfl rfl rfl rfl ?_)) | (first | refine SLc.seq ?_ | refine SLc.region rfl ?_)))
  refine SLl.seq rfl rfl (SLo.call plain43 rfl (SLf.mono (Awake15 W []) ?_))
  rintro v σ ⟨rfl, rfl⟩
  (repeat' (first | (first | refine SLl.nil ?_ | ((show SLl _ _ _ _ _ (⟨⟨_, _, _, _, _, _⟩, _, _⟩ :: _) _ _ _); refine SLl.ev rfl rfl rfl rfl ?_)) | (first | refine SLc.seq ?_ | refine SLc.region rfl ?_ | refine SLc.condF rfl ?_ | refine SLc.skip ?_)))
  refine SLl.seq rfl rfl (SLo.call plain50 rfl (SLf.mono (Small15_ok W [] lv D hl hD hlen) ?_))
  rintro v σ ⟨⟨bs, rfl, hbs⟩, rfl⟩
  cases bs with
  | false =>
    (repeat' (first | (first | refine SLl.nil ?_ | ((show SLl _ _ _ _ _ (⟨⟨_, _, _, _, _, _⟩, _, _⟩ :: _) _ _ _); first | refine SLl.ev rfl rfl rfl rfl ?_ | refine SLl.skip rfl rfl ?_)) | (first | refine SLc.seq ?_ | refine SLc.region rfl ?_ | refine SLc.condT rfl ?_ | refine SLc.ret ?_)))
    exact And.intro rfl (Exists.intro _ (Exists.intro [] (And.intro rfl (And.intro .drop rfl))))
  | true =>
  obtain ⟨hn40, hsum⟩ := hbs rfl
  (repeat' (first | (first | refine SLl.nil ?_ | ((show SLl _ _ _ _ _ (⟨⟨_, _, _, _, _, _⟩, _, _⟩ :: _) _ _ _); first | refine SLl.ev rfl rfl rfl rfl ?_ | ((show SLl _ _ _ _ _ (⟨⟨_, .call ⟨.builtin .len, _, _⟩, _, _, _, _⟩, _, _⟩ :: _) _ _ _); refine SLl.rdSeq rfl rfl (Rd.len rfl (by ((apply Len.rs; exact Rs.mono (by assumption) (by (repeat' (exact Ent.refl))))))) ?_) | ((show SLl _ _ _ _ _ (⟨⟨_, .binOp _ _ _ _ _, _, _, _, _⟩, _, _⟩ :: _) _ _ _); ((refine SLl.cmp rfl rfl rfl rfl rfl rfl ?_ ?_ <;> intro hq <;> simp only [cmpP] at hq <;> try (fail)))) | refine SLl.skip rfl rfl ?_)) | (first | refine SLc.seq ?_ | refine SLc.region rfl ?_ | refine SLc.condT rfl ?_ | refine SLc.condF rfl ?_ | refine SLc.skip ?_ | refine SLc.ret ?_)))
  · exact And.intro rfl (Exists.intro _ (Exists.intro [] (And.intro rfl (And.intro .drop rfl))))
  · exact And.intro rfl (Exists.intro _ (Exists.intro [] (And.intro rfl (And.intro .drop rfl))))
  refine SLl.seq rfl rfl (SLo.call plain35 rfl (SLf.mono (New_ok W [] pv picks hp hpl) ?_))
  rintro v σ ⟨sa, pa, rfl, rfl⟩
  (repeat' (first | (first | refine SLl.nil ?_ | ((show SLl _ _ _ _ _ (⟨⟨_, _, _, _, _, _⟩, _, _⟩ :: _) _ _ _); first | refine SLl.ev rfl rfl rfl rfl ?_ | ((show SLl _ _ _ _ _ (⟨⟨_, .binOp _ _ _ _ _, _, _, _, _⟩, _, _⟩ :: _) _ _ _); (refine SLl.pu rfl rfl rfl (Pu.eqPtrNil rfl rfl) ?_)) | ((show SLl _ _ _ _ _ (⟨⟨_, .box _ _, _, _, _, _⟩, _, _⟩ :: _) _ _ _); refine SLl.seq rfl rfl (SLo.boxC rfl (by (exact Cel.agg)) ?_); intro b) | ((show SLl _ _ _ _ _ (⟨⟨_, .alloc _, _, _, _, _⟩, _, _⟩ :: _) _ _ _); refine SLl.seq rfl rfl (SLo.alloc ?_); intro b) | ((show SLl _ _ _ _ _ (⟨⟨_, .build _ _, _, _, _, _⟩, _, _⟩ :: _) _ _ _); refine SLl.rdSeq rfl rfl (Rd.build rfl (by (repeat (first | exact CellsW.nil | (apply CellsW.cons; (· (exact Cel.one (by (exact One.lit (by assumption))))))))) (by rfl)) ?_))) | (first | refine SLc.seq ?_ | refine SLc.region rfl ?_ | refine SLc.condF rfl ?_ | refine SLc.block ?_ | refine SLc.skip ?_)))
  rename_i rb
  rename Nat => oa
  refine SLc.loop (ι := Nat × (Value × Value) × (List TB × List RT)) (fun s => [(10, .int .i64 s.1), (7, ptr sa), (8, ptr rb), (9, ptr oa), (0, lv), (2, mv)])
    (fun s => schC sa pa s.2.1.1 (iniM picks s.2.2.1) ++ (tsC sa oa (iniS s.2.2.1) ++ (rsC rb ⟨pv, s.2.1.2, .slice none 0 0, picks, 0, [], s.2.2.2⟩ ++ [])))
    (fun s => s.1 ≤ D.length ∧ Made (D.take s.1) s.2.2.1 ∧ MadeR (D.take s.1) s.2.2.2) (fun s => D.length - s.1) (0, (.slice none 0 0, .slice none 0 0), ([], [])) ⟨Nat.zero_le _, made_nil, madeR_nil⟩ (by (repeat' (first | exact trivial | apply And.intro | rfl))) ?_ ?_
  · exact .trans .in2 (.left _ (.cons .here (.nil (.cons .here (.nil (.nil .refl))))))
  rintro ⟨i, ⟨la, Tv⟩, tA, tR⟩ ⟨hi, hA, hB⟩
  dsimp only at hi hA hB ⊢
  by_cases hlt : i < D.length
  · have hx : D[i]? = some D[i] := List.getElem?_eq_getElem hlt
    have hX := hD _ (List.getElem_mem hlt)
    generalize D[i] = p at hx hX
    have hpc := pcells_at hx
    have hpr := hX.rs
    have hpo1 := hX.one
    have hla := made_len hA
    have hlb := madeR_len hB
    rw [List.length_take] at hla hlb
    (repeat' (first | (first | refine SLl.nil ?_ | ((show SLl _ _ _ _ _ (⟨⟨_, _, _, _, _, _⟩, _, _⟩ :: _) _ _ _); first | refine SLl.ev rfl rfl rfl rfl ?_ | ((show SLl _ _ _ _ _ (⟨⟨_, .load _ _, _, _, _, _⟩, _, _⟩ :: _) _ _ _); (refine SLl.rdSeq rfl rfl (Rd.load rfl rfl (by ((apply Reads.rs; (· exact Rs.mono (by assumption) (by (repeat' (exact Ent.drop)))); (· (assumption)); (· rfl))))) ?_)) | ((show SLl _ _ _ _ _ (⟨⟨_, .indexAddr _ _ _, _, _, _, _⟩, _, _⟩ :: _) _ _ _); (refine SLl.rdSeq rfl rfl (Rd.indexAddr rfl rfl (by ((apply Len.rs; exact Rs.mono (by assumption) (by (repeat' (exact Ent.drop)))))) (by (rfl)) (by omega)) ?_)) | ((show SLl _ _ _ _ _ (⟨⟨_, .call ⟨.builtin .len, _, _⟩, _, _, _, _⟩, _, _⟩ :: _) _ _ _); refine SLl.rdSeq rfl rfl (Rd.len rfl (by ((apply Len.rs; exact Rs.mono (by assumption) (by (repeat' (exact Ent.drop))))))) ?_) | ((show SLl _ _ _ _ _ (⟨⟨_, .binOp _ _ _ _ _, _, _, _, _⟩, _, _⟩ :: _) _ _ _); ((refine SLl.cmp rfl rfl rfl rfl rfl rfl ?_ ?_ <;> intro hq <;> simp only [cmpP] at hq <;> try ((exfalso; omega))))) | ((show SLl _ _ _ _ _ (⟨⟨_, .box _ _, _, _, _, _⟩, _, _⟩ :: _) _ _ _); refine SLl.seq rfl rfl (SLo.boxC rfl (by (exact Cel.agg)) ?_); intro b) | ((show SLl _ _ _ _ _ (⟨⟨_, .build _ _, _, _, _, _⟩, _, _⟩ :: _) _ _ _); refine SLl.rdSeq rfl rfl (Rd.build rfl (by (repeat (first | exact CellsW.nil | (apply CellsW.cons; (· (exact Cel.one (by (first | exact One.lit rfl | exact One.lit (by assumption))))))))) (by rfl)) ?_))) | (first | refine SLc.seq ?_ | refine SLc.region rfl ?_ | refine SLc.condT rfl ?_ | refine SLc.block ?_ | refine SLc.skip ?_)))
    refine SLl.seq rfl rfl (SLo.call plain36 rfl (SLf.mono (Go_c W _ _ sa pa la (iniM picks tA) (.func 51) #[ptr b] #[] (by simp only [iniM, List.length_map]; omega)) ?_))
    rintro v σ ⟨la', hv, rfl⟩
    have hv : v = .tuple #[.int .i64 (i : Int), .int .i64 0] := by rw [hv]; simp only [iniM, List.length_map]; rw [show tA.length = i by omega]
    subst hv
    have ha := iniM_add (picks := picks) (tbs := tA) ⟨b, p.1, p.2, 0⟩
    dsimp only at ha
    rw [ha]
    (repeat' (first | (first | refine SLl.nil ?_ | ((show SLl _ _ _ _ _ (⟨⟨_, _, _, _, _, _⟩, _, _⟩ :: _) _ _ _); first | refine SLl.ev rfl rfl rfl rfl ?_ | ((show SLl _ _ _ _ _ (⟨⟨_, .load _ _, _, _, _, _⟩, _, _⟩ :: _) _ _ _); (refine SLl.rdSeq rfl rfl (Rd.load rfl rfl (by ((apply Reads.rs; (· exact Rs.mono (by assumption) (by (repeat' (exact Ent.drop)))); (· (assumption)); (· rfl))))) ?_)) | ((show SLl _ _ _ _ _ (⟨⟨_, .indexAddr _ _ _, _, _, _, _⟩, _, _⟩ :: _) _ _ _); (refine SLl.rdSeq rfl rfl (Rd.indexAddr rfl rfl (by ((apply Len.rs; exact Rs.mono (by assumption) (by (repeat' (exact Ent.drop)))))) (by (rfl)) (by omega)) ?_)))) | (first | refine SLc.seq ?_ | refine SLc.region rfl ?_)))
    refine SLl.seq rfl rfl (SLo.call plain52 rfl (SLf.mono (RGo_c W _ _ _ _ rb ⟨pv, Tv, .slice none 0 0, picks, 0, [], tR⟩ p.1 p.2 hpo1 (by dsimp only; omega)) ?_))
    rintro v σ ⟨br, Tv', rfl, rfl⟩
    dsimp only
    (repeat' (first | (first | refine SLl.nil ?_ | ((show SLl _ _ _ _ _ (⟨⟨_, _, _, _, _, _⟩, _, _⟩ :: _) _ _ _); first | refine SLl.ev rfl rfl rfl rfl ?_ | ((show SLl _ _ _ _ _ (⟨⟨_, .binOp _ _ _ _ _, _, _, _, _⟩, _, _⟩ :: _) _ _ _); (first | refine SLl.pu rfl rfl rfl (Pu.add rfl rfl (IntWalk.i64_in _ (by omega))) ?_ | (refine SLl.cmp rfl rfl rfl rfl rfl rfl ?_ ?_ <;> intro hq <;> simp only [cmpP] at hq <;> try ((exfalso; omega))))))) | (first | refine SLc.seq ?_ | refine SLc.region rfl ?_ | refine SLc.condF rfl ?_ | refine SLc.skip ?_)))
    refine And.intro rfl (Exists.intro (i + 1, (la', Tv'), (tA ++ [⟨b, p.1, p.2, 0⟩], tR ++ [⟨br, p.1, p.2, ⟨false, false, false, 0, p.2.map Deed.abs⟩⟩])) (And.intro ⟨by dsimp only; omega, made_snoc b hA hx, madeR_snoc br hB hx⟩ (And.intro (by dsimp only; omega) (And.intro (by (repeat' (first | exact trivial | apply And.intro | rfl))) ?_))))
    dsimp only
    refine .trans .into (.left _ ?_)
    exact ts_snoc (T := ⟨b, p.1, p.2, 0⟩)
  obtain rfl : i = D.length := by omega
  rw [List.take_length] at hA hB
  have hTA := ini_TI hA hD hn40 hsum hpk
  have hTR := iniR_RI (pv := pv) (Tv := Tv) (tv := .slice none 0 0) hB hD hn40 hsum hpk hp
  have eA : abs15 (iniM picks tA) (iniS tA) = absR ⟨pv, Tv, .slice none 0 0, picks, 0, [], tR⟩ := (ini_abs hA).trans (iniR_abs hB).symm
  have hr1 : (iniM picks tA).runs = false := rfl
  have hr2 : (iniM picks tA).now = -1 := rfl
  generalize iniM picks tA = mA at hTA eA hr1 hr2 ⊢
  generalize iniS tA = sA0 at hTA eA ⊢
  generalize (⟨pv, Tv, .slice none 0 0, picks, 0, [], tR⟩ : RS) = sR0 at hTR eA ⊢
  clear hA hB
  (repeat' (first | (first | refine SLl.nil ?_ | ((show SLl _ _ _ _ _ (⟨⟨_, _, _, _, _, _⟩, _, _⟩ :: _) _ _ _); first | refine SLl.ev rfl rfl rfl rfl ?_ | ((show SLl _ _ _ _ _ (⟨⟨_, .call ⟨.builtin .len, _, _⟩, _, _, _, _⟩, _, _⟩ :: _) _ _ _); refine SLl.rdSeq rfl rfl (Rd.len rfl (by ((apply Len.rs; exact Rs.mono (by assumption) (by (repeat' (exact Ent.drop))))))) ?_) | ((show SLl _ _ _ _ _ (⟨⟨_, .binOp _ _ _ _ _, _, _, _, _⟩, _, _⟩ :: _) _ _ _); ((refine SLl.cmp rfl rfl rfl rfl rfl rfl ?_ ?_ <;> intro hq <;> simp only [cmpP] at hq <;> try ((exfalso; omega))))))) | (first | refine SLc.seq ?_ | refine SLc.region rfl ?_ | refine SLc.condF rfl ?_ | refine SLc.block ?_ | refine SLc.exit ?_)))
  refine SLc.loop (ι := Nat × Value × Sch × TS × RS) (fun s => [(16, .int .i64 s.1), (7, ptr sa), (8, ptr rb), (9, ptr oa), (2, mv)])
    (fun s => schC sa pa s.2.1 s.2.2.1 ++ (tsC sa oa s.2.2.2.1 ++ (rsC rb s.2.2.2.2 ++ [])))
    (fun s => s.1 ≤ mosts.length ∧ TI W s.2.2.1 s.2.2.2.1 ∧ s.2.2.1.runs = false ∧ s.2.2.1.now = -1 ∧ RI W s.2.2.2.2 ∧ abs15 s.2.2.1 s.2.2.2.1 = absR s.2.2.2.2) (fun s => mosts.length - s.1)
    (0, la, mA, sA0, sR0) ⟨Nat.zero_le _, hTA, hr1, hr2, hTR, eA⟩ (by (repeat' (first | exact trivial | apply And.intro | rfl))) .refl ?_
  clear hTA hTR eA hr1 hr2
  rintro ⟨j, lw, m, s, sR⟩ ⟨hj, hT, h3, h4, hR, hab⟩
  dsimp only at hj hT h3 h4 hR hab ⊢
  by_cases hlt : j < mosts.length
  · have hx : mosts[j]? = some mosts[j] := List.getElem?_eq_getElem hlt
    have hx2 := hck _ (List.getElem_mem hlt)
    generalize mosts[j] = x at hx hx2
    have hxc := u16L_at hx
    (repeat' (first | (first | refine SLl.nil ?_ | ((show SLl _ _ _ _ _ (⟨⟨_, _, _, _, _, _⟩, _, _⟩ :: _) _ _ _); first | refine SLl.ev rfl rfl rfl rfl ?_ | ((show SLl _ _ _ _ _ (⟨⟨_, .load _ _, _, _, _, _⟩, _, _⟩ :: _) _ _ _); (refine SLl.rdSeq rfl rfl (Rd.load rfl rfl (by ((apply Reads.rs; (· exact Rs.mono (by assumption) (by (repeat' (exact Ent.drop)))); (· (assumption)); (· rfl))))) ?_)) | ((show SLl _ _ _ _ _ (⟨⟨_, .indexAddr _ _ _, _, _, _, _⟩, _, _⟩ :: _) _ _ _); (refine SLl.rdSeq rfl rfl (Rd.indexAddr rfl rfl (by ((apply Len.rs; exact Rs.mono (by assumption) (by (repeat' (exact Ent.drop)))))) (by (rfl)) (by omega)) ?_)) | ((show SLl _ _ _ _ _ (⟨⟨_, .call ⟨.builtin .len, _, _⟩, _, _, _, _⟩, _, _⟩ :: _) _ _ _); refine SLl.rdSeq rfl rfl (Rd.len rfl (by ((apply Len.rs; exact Rs.mono (by assumption) (by (repeat' (exact Ent.drop))))))) ?_) | ((show SLl _ _ _ _ _ (⟨⟨_, .binOp _ _ _ _ _, _, _, _, _⟩, _, _⟩ :: _) _ _ _); ((refine SLl.cmp rfl rfl rfl rfl rfl rfl ?_ ?_ <;> intro hq <;> simp only [cmpP] at hq <;> try ((exfalso; omega))))))) | (first | refine SLc.seq ?_ | refine SLc.region rfl ?_ | refine SLc.condT rfl ?_ | refine SLc.block ?_ | refine SLc.skip ?_)))
    refine SLl.pu rfl rfl rfl (Pu.convInt rfl (IntWalk.i64_in _ (by omega))) ?_
    refine SLl.seq rfl rfl (SLo.call plain45 rfl (SLf.mono (TRun_ok W _ sa oa pa lw m s x hT h3 h4 (by omega)) ?_))
    rintro v σ ⟨lw', m', s', hT', h3', h4', _, habs, rfl, rfl⟩
    (repeat' (first | (first | refine SLl.nil ?_ | ((show SLl _ _ _ _ _ (⟨⟨_, _, _, _, _, _⟩, _, _⟩ :: _) _ _ _); first | refine SLl.ev rfl rfl rfl rfl ?_ | ((show SLl _ _ _ _ _ (⟨⟨_, .load _ _, _, _, _, _⟩, _, _⟩ :: _) _ _ _); (refine SLl.rdSeq rfl rfl (Rd.load rfl rfl (by ((apply Reads.rs; (· exact Rs.mono (by assumption) (by (repeat' (exact Ent.drop)))); (· (assumption)); (· rfl))))) ?_)) | ((show SLl _ _ _ _ _ (⟨⟨_, .indexAddr _ _ _, _, _, _, _⟩, _, _⟩ :: _) _ _ _); (refine SLl.rdSeq rfl rfl (Rd.indexAddr rfl rfl (by ((apply Len.rs; exact Rs.mono (by assumption) (by (repeat' (exact Ent.drop)))))) (by (rfl)) (by omega)) ?_)))) | (first | refine SLc.seq ?_ | refine SLc.region rfl ?_)))
    refine SLl.pu rfl rfl rfl (Pu.convInt rfl (IntWalk.i64_in _ (by omega))) ?_
    refine SLl.seq rfl rfl (SLo.call plain53 rfl (SLf.mono (RRun_mid W _ _ _ rb sR x hR (by omega)) ?_))
    rintro v σ ⟨sR', hR', habR, rfl, rfl⟩
    rw [hab] at habs ⊢
    generalize arun x (absR sR) = NB at habs habR ⊢
    obtain ⟨N, B⟩ := NB
    dsimp only at habs habR ⊢
    have hok := ((task_client W).ok m' s' hT').1
    have hfew := hR'.few
    have hto : s'.told = sR'.told := by have h1 := congrArg AS.told (habs.trans habR.symm); exact h1
    have hop : openN m' = (absR sR').opens := by rw [← opens_abs hT'.len, habs, habR]
    have htol := @natL_len sR'.told
    have htol2 : (natL s'.told).length = sR'.told.length := by rw [hto]; exact htol
    have hE1 : Ent (schC sa pa lw' m' ++ (tsC sa oa s' ++ (rsC rb sR' ++ []))) [.blk oa 32 [s'.tv], .row s'.tv 3 1 (natL s'.told), .blk rb 75 [sR'.pv, sR'.Tv, .int .i64 (sR'.made : Int), sR'.tv], .row sR'.tv 3 1 (natL sR'.told)] :=
      .trans .appR (.cons .here (.cons .here (.trans .appR (.cons .here (.cons (.there .here) .drop)))))
    (repeat' (first | (first | refine SLl.nil ?_ | ((show SLl _ _ _ _ _ (⟨⟨_, _, _, _, _, _⟩, _, _⟩ :: _) _ _ _); refine SLl.ev rfl rfl rfl rfl ?_)) | (refine SLc.seq ?_)))
    refine SLc.draws [.blk oa 32 [s'.tv], .row s'.tv 3 1 (natL s'.told), .blk rb 75 [sR'.pv, sR'.Tv, .int .i64 (sR'.made : Int), sR'.tv], .row sR'.tv 3 1 (natL sR'.told)] [(0, .take), (1, .take), (2, .take), (3, .take), (4, .take), (5, .take), (6, .take), (7, .take), (8, .take), (9, .take), (10, .take), (11, .take), (12, .take), (13, .take), (14, .take), (15, .take), (16, .take), (17, .take), (18, .take), (19, .take), (21, .take), (20, .eff true), (22, .eff true), (23, .take), (24, .take), (25, .take), (26, .take), (27, .eff true), (28, .take), (29, .take)] mixed (by kernel_rfl) hE1 ?_
    (repeat' ((((show SLl _ _ _ _ _ (⟨⟨_, _, _, _, _, _⟩, _, _⟩ :: _) _ _ _); first | refine SLl.ev rfl rfl rfl rfl ?_ | ((show SLl _ _ _ _ _ (⟨⟨_, .load _ _, _, _, _, _⟩, _, _⟩ :: _) _ _ _); (refine SLl.rdTake rfl rfl (Rd.load rfl rfl (by ((apply Reads.blk; (· (repeat (first | apply Sel.here | apply Sel.there))); (· rfl))))) ?_)) | ((show SLl _ _ _ _ _ (⟨⟨_, .fieldAddr _ _ _, _, _, _, _⟩, _, _⟩ :: _) _ _ _); (refine SLl.pu rfl rfl rfl (Pu.fieldAddr rfl) ?_)) | ((show SLl _ _ _ _ _ (⟨⟨_, .call ⟨.builtin .len, _, _⟩, _, _, _, _⟩, _, _⟩ :: _) _ _ _); refine SLl.rdTake rfl rfl (Rd.len rfl (by ((apply Len.row; (· (repeat (first | apply Sel.here | apply Sel.there))))))) ?_) | ((show SLl _ _ _ _ _ (⟨⟨_, .binOp _ _ _ _ _, _, _, _, _⟩, _, _⟩ :: _) _ _ _); ((refine SLl.cmp rfl rfl rfl rfl rfl rfl ?_ ?_ <;> intro hq <;> simp only [cmpP] at hq <;> try ((exfalso; omega)))))))))
    refine SLl.eff rfl rfl (SLo.call plain46 rfl (SLf.mono (Open_ok W _ sa pa lw' m' hok) ?_))
    rintro v σ ⟨rfl, rfl⟩
    refine And.intro (fun _ => hE1) ?_
    (repeat' (fail))
    refine SLl.eff rfl rfl (SLo.call plain54 rfl (SLf.mono (ROpen_mid W _ _ _ rb sR' (by omega)) ?_))
    rintro v σ ⟨rfl, rfl⟩
    refine And.intro (fun _ => hE1) ?_
    (repeat' ((((show SLl _ _ _ _ _ (⟨⟨_, _, _, _, _, _⟩, _, _⟩ :: _) _ _ _); first | refine SLl.ev rfl rfl rfl rfl ?_ | ((show SLl _ _ _ _ _ (⟨⟨_, .binOp _ _ _ _ _, _, _, _, _⟩, _, _⟩ :: _) _ _ _); ((refine SLl.cmp rfl rfl rfl rfl rfl rfl ?_ ?_ <;> intro hq <;> simp only [cmpP] at hq <;> try ((exfalso; omega)))))))))
    refine SLl.eff rfl rfl (SLo.call plain55 rfl (SLf.mono (Now_ok W _ sa pa lw' m') ?_))
    rintro v σ ⟨rfl, rfl⟩
    refine And.intro (fun _ => hE1) ?_
    rw [h4']
    (repeat' (first | (first | refine SLl.nil ?_ | ((show SLl _ _ _ _ _ (⟨⟨_, _, _, _, _, _⟩, _, _⟩ :: _) _ _ _); first | refine SLl.ev rfl rfl rfl rfl ?_ | ((show SLl _ _ _ _ _ (⟨⟨_, .binOp _ _ _ _ _, _, _, _, _⟩, _, _⟩ :: _) _ _ _); ((refine SLl.cmp rfl rfl rfl rfl rfl rfl ?_ ?_ <;> intro hq <;> simp only [cmpP] at hq <;> try ((exfalso; omega))))))) | (first | refine SLc.seq ?_ | refine SLc.region rfl ?_ | refine SLc.condF rfl ?_ | refine SLc.skip ?_)))
    (repeat' (fail))
    refine SLl.seq rfl rfl (SLo.call plain56 rfl (SLf.mono (Waiting_ok W _ sa pa lw' m' hok) ?_))
    rintro wv σ rfl
    have htks : absL m'.tasks s'.tbs = sR'.rts.map RT.t := congrArg AS.tks (habs.trans habR.symm)
    have hrl : sR'.rts.length = m'.tasks.length := by
      have h1 := congrArg List.length htks
      have h2 := hT'.len
      simp only [absL, List.length_zipWith, List.length_map] at h1
      omega
    have hwb : (waitN m').length ≤ 128 := Nat.le_trans pickN_le hok.few
    have hwl := @natL_len (waitN m')
    have hpl2 := @ptrL_len sR'.rts
    (repeat' (first | (first | refine SLl.nil ?_ | ((show SLl _ _ _ _ _ (⟨⟨_, _, _, _, _, _⟩, _, _⟩ :: _) _ _ _); refine SLl.ev rfl rfl rfl rfl ?_)) | (first | refine SLc.seq ?_ | refine SLc.region rfl ?_ | refine SLc.block ?_)))
    refine SLc.loop (ι := Nat) (fun t => [(23, .int .i64 t), (22, .int .i64 ((pickN waitsT m'.tasks t).length : Nat)), (21, wv), (16, .int .i64 j), (7, ptr sa), (8, ptr rb), (9, ptr oa), (2, mv)])
      (fun _ => .row wv 3 1 (natL (waitN m')) :: (rsC rb sR' ++ (schC sa pa lw' m' ++ (tsC sa oa s' ++ [])))) (fun t => t ≤ sR'.rts.length) (fun t => sR'.rts.length - t) 0 (Nat.zero_le _) (by (repeat' (first | exact trivial | apply And.intro | rfl))) (.cons .here (.trans (.left _ .swp) .swp)) ?_
    intro t ht
    by_cases htl : t < sR'.rts.length
    · have hr : sR'.rts[t]? = some sR'.rts[t] := List.getElem?_eq_getElem htl
      generalize sR'.rts[t] = r at hr
      have htk : m'.tasks[t]? = some (m'.tasks[t]'(by omega)) := List.getElem?_eq_getElem (by omega)
      generalize m'.tasks[t]'(by omega) = tk at htk
      have hps := pickN_succ (f := waitsT) htk
      have hple := @pickN_le waitsT m'.tasks t
      have hat2 := @pickN_at waitsT m'.tasks t m'.tasks.length tk (by omega) htk
      have hTB : s'.tbs[t]? = some (s'.tbs[t]'(by have := hT'.len; omega)) := List.getElem?_eq_getElem _
      have hrt : r.t = absT tk (s'.tbs[t]'(by have := hT'.len; omega)) := by
        have h1 : (sR'.rts.map RT.t)[t]? = some r.t := by rw [List.getElem?_map, hr]; rfl
        rw [← htks, absL_at htk hTB] at h1
        simpa using h1.symm
      have hpc := ptrL_at hr
      have hst : Reads W (sR'.rts.map rtC ++ (schC sa pa lw' m' ++ (tsC sa oa s' ++ []))) ⟨r.b, 2, none⟩ (.int .i64 (stA r.t)) := Reads.blk (Sel.app (Sel.many (f := rtC) hr)) rfl
      have hst2 : (waitsT tk = true ∧ stA r.t = 2) ∨ (waitsT tk = false ∧ stA r.t ≠ 2) := by
        rw [hrt]
        obtain ⟨q1, wa, dn, q2⟩ := tk
        unfold stA waitsT absT
        cases dn <;> cases wa <;> simp
      generalize stA r.t = st at hst hst2
      simp only [rsC, List.cons_append]
      rcases hst2 with ⟨hw, hs⟩ | ⟨hw, hs⟩
      · rw [hw, if_pos rfl] at hps
        have hat3 : (waitN m')[(pickN waitsT m'.tasks t).length]? = some t := hat2 hw
        have hat4 := natL_at hat3
        have hat5 := (List.getElem?_eq_some_iff.1 hat3).1
        have hps2 := congrArg List.length hps
        rw [List.length_append, List.length_singleton] at hps2
        generalize (pickN waitsT m'.tasks t).length = q at *
        (repeat' (first | (first | refine SLl.nil ?_ | ((show SLl _ _ _ _ _ (⟨⟨_, _, _, _, _, _⟩, _, _⟩ :: _) _ _ _); first | refine SLl.ev rfl rfl rfl rfl ?_ | ((show SLl _ _ _ _ _ (⟨⟨_, .load _ _, _, _, _, _⟩, _, _⟩ :: _) _ _ _); (refine SLl.rdSeq rfl rfl (Rd.load rfl rfl (by (first | (apply Reads.blk; (· (repeat (first | apply Sel.here | apply Sel.there))); (· rfl)) | (apply Reads.row; (· (repeat (first | apply Sel.here | apply Sel.there))); (· (assumption)); (· rfl)) | exact Reads.mono (by assumption) (by (repeat' (first | exact Ent.refl | apply Ent.skip)))))) ?_)) | ((show SLl _ _ _ _ _ (⟨⟨_, .fieldAddr _ _ _, _, _, _, _⟩, _, _⟩ :: _) _ _ _); (refine SLl.pu rfl rfl rfl (Pu.fieldAddr rfl) ?_)) | ((show SLl _ _ _ _ _ (⟨⟨_, .indexAddr _ _ _, _, _, _, _⟩, _, _⟩ :: _) _ _ _); (refine SLl.rdSeq rfl rfl (Rd.indexAddr rfl rfl (by ((apply Len.row; (· (repeat (first | apply Sel.here | apply Sel.there)))))) (by (rfl)) (by omega)) ?_)) | ((show SLl _ _ _ _ _ (⟨⟨_, .call ⟨.builtin .len, _, _⟩, _, _, _, _⟩, _, _⟩ :: _) _ _ _); refine SLl.rdSeq rfl rfl (Rd.len rfl (by ((apply Len.row; (· (repeat (first | apply Sel.here | apply Sel.there))))))) ?_) | ((show SLl _ _ _ _ _ (⟨⟨_, .binOp _ _ _ _ _, _, _, _, _⟩, _, _⟩ :: _) _ _ _); (first | refine SLl.pu rfl rfl rfl (Pu.add rfl rfl (IntWalk.i64_in _ (by omega))) ?_ | (refine SLl.cmp rfl rfl rfl rfl rfl rfl ?_ ?_ <;> intro hq <;> simp only [cmpP] at hq <;> try ((exfalso; omega))))))) | (first | refine SLc.seq ?_ | refine SLc.region rfl ?_ | refine SLc.condT rfl ?_ | refine SLc.condF rfl ?_ | refine SLc.block ?_ | refine SLc.skip ?_)))
        refine And.intro rfl (Exists.intro (t + 1) (And.intro (by omega) (And.intro (by omega) (And.intro ?_ .refl))))
        refine ⟨rfl, ?_, rfl, rfl, rfl, rfl, rfl, rfl, trivial⟩
        rw [hps2]
        rfl
      · rw [hw] at hps
        have hps2 := congrArg List.length hps
        rw [if_neg (by simp)] at hps2
        generalize (pickN waitsT m'.tasks t).length = q at *
        (repeat' (first | (first | refine SLl.nil ?_ | ((show SLl _ _ _ _ _ (⟨⟨_, _, _, _, _, _⟩, _, _⟩ :: _) _ _ _); first | refine SLl.ev rfl rfl rfl rfl ?_ | ((show SLl _ _ _ _ _ (⟨⟨_, .load _ _, _, _, _, _⟩, _, _⟩ :: _) _ _ _); (refine SLl.rdSeq rfl rfl (Rd.load rfl rfl (by (first | (apply Reads.blk; (· (repeat (first | apply Sel.here | apply Sel.there))); (· rfl)) | (apply Reads.row; (· (repeat (first | apply Sel.here | apply Sel.there))); (· (assumption)); (· rfl)) | exact Reads.mono (by assumption) (by (repeat' (first | exact Ent.refl | apply Ent.skip)))))) ?_)) | ((show SLl _ _ _ _ _ (⟨⟨_, .fieldAddr _ _ _, _, _, _, _⟩, _, _⟩ :: _) _ _ _); (refine SLl.pu rfl rfl rfl (Pu.fieldAddr rfl) ?_)) | ((show SLl _ _ _ _ _ (⟨⟨_, .indexAddr _ _ _, _, _, _, _⟩, _, _⟩ :: _) _ _ _); (refine SLl.rdSeq rfl rfl (Rd.indexAddr rfl rfl (by ((apply Len.row; (· (repeat (first | apply Sel.here | apply Sel.there)))))) (by (rfl)) (by omega)) ?_)) | ((show SLl _ _ _ _ _ (⟨⟨_, .call ⟨.builtin .len, _, _⟩, _, _, _, _⟩, _, _⟩ :: _) _ _ _); refine SLl.rdSeq rfl rfl (Rd.len rfl (by ((apply Len.row; (· (repeat (first | apply Sel.here | apply Sel.there))))))) ?_) | ((show SLl _ _ _ _ _ (⟨⟨_, .binOp _ _ _ _ _, _, _, _, _⟩, _, _⟩ :: _) _ _ _); (first | refine SLl.pu rfl rfl rfl (Pu.add rfl rfl (IntWalk.i64_in _ (by omega))) ?_ | (refine SLl.cmp rfl rfl rfl rfl rfl rfl ?_ ?_ <;> intro hq <;> simp only [cmpP] at hq <;> try ((exfalso; omega))))))) | (first | refine SLc.seq ?_ | refine SLc.region rfl ?_ | refine SLc.condT rfl ?_ | refine SLc.block ?_ | refine SLc.skip ?_ | refine SLc.exit ?_)))
        refine And.intro rfl (Exists.intro (t + 1) (And.intro (by omega) (And.intro (by omega) (And.intro ?_ .refl))))
        refine ⟨rfl, ?_, rfl, rfl, rfl, rfl, rfl, rfl, trivial⟩
        rw [hps2]
        rfl
    have hte : (pickN waitsT m'.tasks t).length = (waitN m').length := by rw [show t = m'.tasks.length by omega]; rfl
    rw [hte]
    simp only [rsC, List.cons_append]
    by_cases hw0 : (waitN m').length = 0
    · (repeat' (first | (first | refine SLl.nil ?_ | ((show SLl _ _ _ _ _ (⟨⟨_, _, _, _, _, _⟩, _, _⟩ :: _) _ _ _); first | refine SLl.ev rfl rfl rfl rfl ?_ | ((show SLl _ _ _ _ _ (⟨⟨_, .load _ _, _, _, _, _⟩, _, _⟩ :: _) _ _ _); (refine SLl.rdSeq rfl rfl (Rd.load rfl rfl (by ((apply Reads.blk; (· (repeat (first | apply Sel.here | apply Sel.there))); (· rfl))))) ?_)) | ((show SLl _ _ _ _ _ (⟨⟨_, .fieldAddr _ _ _, _, _, _, _⟩, _, _⟩ :: _) _ _ _); (refine SLl.pu rfl rfl rfl (Pu.fieldAddr rfl) ?_)) | ((show SLl _ _ _ _ _ (⟨⟨_, .call ⟨.builtin .len, _, _⟩, _, _, _, _⟩, _, _⟩ :: _) _ _ _); refine SLl.rdSeq rfl rfl (Rd.len rfl (by ((apply Len.row; (· (repeat (first | apply Sel.here | apply Sel.there))))))) ?_) | ((show SLl _ _ _ _ _ (⟨⟨_, .binOp _ _ _ _ _, _, _, _, _⟩, _, _⟩ :: _) _ _ _); (first | refine SLl.pu rfl rfl rfl (Pu.add rfl rfl (IntWalk.i64_in _ (by omega))) ?_ | (refine SLl.cmp rfl rfl rfl rfl rfl rfl ?_ ?_ <;> intro hq <;> simp only [cmpP] at hq <;> try ((exfalso; omega))))))) | (first | refine SLc.seq ?_ | refine SLc.region rfl ?_ | refine SLc.condF rfl ?_ | refine SLc.skip ?_ | refine SLc.exit ?_)))
      exact And.intro rfl (Exists.intro (j + 1, lw', m', s', sR') (And.intro ⟨by dsimp only; omega, hT', h3', h4', hR', habs.trans habR.symm⟩ (And.intro (by dsimp only; omega) (And.intro (by (repeat' (first | exact trivial | apply And.intro | rfl))) (.skip (.trans (.swp (a := rsC rb sR')) (.left _ .swp)))))))
    · have hw1 : (waitN m')[0]? = some ((waitN m')[0]'(by omega)) := List.getElem?_eq_getElem (by omega)
      generalize (waitN m')[0]'(by omega) = w0 at hw1
      have hw2 := natL_at hw1
      obtain ⟨i1, i2⟩ := TI_wake hT' w0
      obtain ⟨i3, i4⟩ := RI_wake hR' w0
      obtain ⟨w1, w2, w3, w4⟩ := wakeM_rest m' w0
      (repeat' (first | (first | refine SLl.nil ?_ | ((show SLl _ _ _ _ _ (⟨⟨_, _, _, _, _, _⟩, _, _⟩ :: _) _ _ _); first | refine SLl.ev rfl rfl rfl rfl ?_ | ((show SLl _ _ _ _ _ (⟨⟨_, .load _ _, _, _, _, _⟩, _, _⟩ :: _) _ _ _); (refine SLl.rdSeq rfl rfl (Rd.load rfl rfl (by (first | (apply Reads.blk; (· (repeat (first | apply Sel.here | apply Sel.there))); (· rfl)) | (apply Reads.row; (· (repeat (apply Sel.here))); (· (assumption)); (· rfl))))) ?_)) | ((show SLl _ _ _ _ _ (⟨⟨_, .fieldAddr _ _ _, _, _, _, _⟩, _, _⟩ :: _) _ _ _); (refine SLl.pu rfl rfl rfl (Pu.fieldAddr rfl) ?_)) | ((show SLl _ _ _ _ _ (⟨⟨_, .indexAddr _ _ _, _, _, _, _⟩, _, _⟩ :: _) _ _ _); (refine SLl.rdSeq rfl rfl (Rd.indexAddr rfl rfl (by ((apply Len.row; (· (repeat (apply Sel.here)))))) (by (exact ij0)) (by omega)) ?_)) | ((show SLl _ _ _ _ _ (⟨⟨_, .call ⟨.builtin .len, _, _⟩, _, _, _, _⟩, _, _⟩ :: _) _ _ _); refine SLl.rdSeq rfl rfl (Rd.len rfl (by ((apply Len.row; (· (repeat (first | apply Sel.here | apply Sel.there))))))) ?_) | ((show SLl _ _ _ _ _ (⟨⟨_, .binOp _ _ _ _ _, _, _, _, _⟩, _, _⟩ :: _) _ _ _); ((refine SLl.cmp rfl rfl rfl rfl rfl rfl ?_ ?_ <;> intro hq <;> simp only [cmpP] at hq <;> try ((exfalso; omega))))))) | (first | refine SLc.seq ?_ | refine SLc.region rfl ?_ | refine SLc.condT rfl ?_ | refine SLc.condF rfl ?_ | refine SLc.skip ?_ | refine SLc.exit ?_)))
      refine SLl.seq rfl rfl (SLo.call plain57 rfl (SLf.mono (Wake_cG W _ (rsC rb sR') _ sa pa lw' m' (w0 : Int)) ?_))
      rintro v σ ⟨rfl, rfl⟩
      (repeat' (first | (first | refine SLl.nil ?_ | ((show SLl _ _ _ _ _ (⟨⟨_, _, _, _, _, _⟩, _, _⟩ :: _) _ _ _); first | refine SLl.ev rfl rfl rfl rfl ?_ | ((show SLl _ _ _ _ _ (⟨⟨_, .load _ _, _, _, _, _⟩, _, _⟩ :: _) _ _ _); (refine SLl.rdSeq rfl rfl (Rd.load rfl rfl (by ((apply Reads.row; (· (repeat (apply Sel.here))); (· (assumption)); (· rfl))))) ?_)) | ((show SLl _ _ _ _ _ (⟨⟨_, .indexAddr _ _ _, _, _, _, _⟩, _, _⟩ :: _) _ _ _); (refine SLl.rdSeq rfl rfl (Rd.indexAddr rfl rfl (by ((apply Len.row; (· (repeat (apply Sel.here)))))) (by (exact ij0)) (by omega)) ?_)))) | (refine SLc.region rfl ?_)))
      refine SLl.seq rfl rfl (SLo.call plain58 rfl (SLf.mono (RWake_in W _ _ rb sR' w0 (by omega)) ?_))
      rintro v σ rfl
      (repeat' (first | (first | refine SLl.nil ?_ | ((show SLl _ _ _ _ _ (⟨⟨_, _, _, _, _, _⟩, _, _⟩ :: _) _ _ _); first | refine SLl.ev rfl rfl rfl rfl ?_ | ((show SLl _ _ _ _ _ (⟨⟨_, .binOp _ _ _ _ _, _, _, _, _⟩, _, _⟩ :: _) _ _ _); (refine SLl.pu rfl rfl rfl (Pu.add rfl rfl (IntWalk.i64_in _ (by omega))) ?_)))) | (refine SLc.region rfl ?_)))
      exact And.intro rfl (Exists.intro (j + 1, lw', (wakeM m' (w0 : Int)).2, s', { sR' with rts := wakeR sR'.rts w0 }) (And.intro ⟨by dsimp only; omega, i1, w4.trans h3', w3.trans h4', i3, by dsimp only; rw [i2, i4, habs, habR]⟩ (And.intro (by dsimp only; omega) (And.intro (by (repeat' (first | exact trivial | apply And.intro | rfl))) (.skip (.trans (.swp (a := rsC rb { sR' with rts := wakeR sR'.rts w0 })) (.left _ .swp)))))))
  · have hto : s.told = sR.told := congrArg AS.told hab
    have htl := hT.told
    have hmu := hT.mu
    rw [hto] at htl
    have htol := @natL_len sR.told
    (repeat' (first | (first | refine SLl.nil ?_ | ((show SLl _ _ _ _ _ (⟨⟨_, _, _, _, _, _⟩, _, _⟩ :: _) _ _ _); first | refine SLl.ev rfl rfl rfl rfl ?_ | ((show SLl _ _ _ _ _ (⟨⟨_, .call ⟨.builtin .len, _, _⟩, _, _, _, _⟩, _, _⟩ :: _) _ _ _); refine SLl.rdSeq rfl rfl (Rd.len rfl (by ((apply Len.rs; exact Rs.mono (by assumption) (by (repeat' (exact Ent.drop))))))) ?_) | ((show SLl _ _ _ _ _ (⟨⟨_, .binOp _ _ _ _ _, _, _, _, _⟩, _, _⟩ :: _) _ _ _); ((refine SLl.cmp rfl rfl rfl rfl rfl rfl ?_ ?_ <;> intro hq <;> simp only [cmpP] at hq <;> try ((exfalso; omega))))))) | (first | refine SLc.seq ?_ | refine SLc.region rfl ?_ | refine SLc.condF rfl ?_ | refine SLc.block ?_ | refine SLc.exit ?_)))
    refine SLc.loop (ι := Nat) (fun k => [(24, .int .i64 k), (8, ptr rb), (9, ptr oa)]) (fun _ => [.blk oa 32 [s.tv], .row s.tv 3 1 (natL sR.told), .blk rb 75 [sR.pv, sR.Tv, .int .i64 (sR.made : Int), sR.tv], .row sR.tv 3 1 (natL sR.told)]) (fun k => k ≤ sR.told.length) (fun k => sR.told.length - k) 0 (Nat.zero_le _) (by (repeat' (first | exact trivial | apply And.intro | rfl))) ?_ ?_
    · rw [← hto]
      exact .trans .appR (.cons .here (.cons .here (.trans .appR (.cons .here (.cons (by rw [hto]; exact .there .here) .drop)))))
    intro k hk
    by_cases hkl : k < sR.told.length
    · have hx : sR.told[k]? = some sR.told[k] := List.getElem?_eq_getElem hkl
      generalize sR.told[k] = x at hx
      have hxc := natL_at hx
      (repeat' (first | (first | refine SLl.nil ?_ | ((show SLl _ _ _ _ _ (⟨⟨_, _, _, _, _, _⟩, _, _⟩ :: _) _ _ _); first | refine SLl.ev rfl rfl rfl rfl ?_ | ((show SLl _ _ _ _ _ (⟨⟨_, .load _ _, _, _, _, _⟩, _, _⟩ :: _) _ _ _); (refine SLl.rdSeq rfl rfl (Rd.load rfl rfl (by ((apply Reads.blk; (· (repeat (apply Sel.here))); (· rfl))))) ?_)) | ((show SLl _ _ _ _ _ (⟨⟨_, .call ⟨.builtin .len, _, _⟩, _, _, _, _⟩, _, _⟩ :: _) _ _ _); refine SLl.rdSeq rfl rfl (Rd.len rfl (by ((apply Len.row; (· (repeat (first | apply Sel.here | apply Sel.there))))))) ?_) | ((show SLl _ _ _ _ _ (⟨⟨_, .binOp _ _ _ _ _, _, _, _, _⟩, _, _⟩ :: _) _ _ _); ((refine SLl.cmp rfl rfl rfl rfl rfl rfl ?_ ?_ <;> intro hq <;> simp only [cmpP] at hq <;> try ((exfalso; omega))))))) | (first | refine SLc.seq ?_ | refine SLc.region rfl ?_ | refine SLc.condT rfl ?_ | refine SLc.block ?_ | refine SLc.skip ?_)))
      refine SLc.drawsI [.blk oa 32 [s.tv], .row s.tv 3 1 (natL sR.told), .blk rb 75 [sR.pv, sR.Tv, .int .i64 (sR.made : Int), sR.tv], .row sR.tv 3 1 (natL sR.told)] (List.replicate 12 .take) mixed (by kernel_rfl) .refl ?_
      (repeat' (first | (first | refine SLl.nil ?_ | ((show SLl _ _ _ _ _ (⟨⟨_, _, _, _, _, _⟩, _, _⟩ :: _) _ _ _); first | refine SLl.ev rfl rfl rfl rfl ?_ | ((show SLl _ _ _ _ _ (⟨⟨_, .load _ _, _, _, _, _⟩, _, _⟩ :: _) _ _ _); (refine SLl.rdTake rfl rfl (Rd.load rfl rfl (by (first | (apply Reads.blk; (· (repeat (first | apply Sel.here | apply Sel.there))); (· rfl)) | (apply Reads.row; (· (repeat (first | apply Sel.here | apply Sel.there))); (· (assumption)); (· rfl))))) ?_)) | ((show SLl _ _ _ _ _ (⟨⟨_, .fieldAddr _ _ _, _, _, _, _⟩, _, _⟩ :: _) _ _ _); (refine SLl.pu rfl rfl rfl (Pu.fieldAddr rfl) ?_)) | ((show SLl _ _ _ _ _ (⟨⟨_, .indexAddr _ _ _, _, _, _, _⟩, _, _⟩ :: _) _ _ _); (refine SLl.rdTake rfl rfl (Rd.indexAddr rfl rfl (by ((apply Len.row; (· (repeat (first | apply Sel.here | apply Sel.there)))))) (by (rfl)) (by omega)) ?_)) | ((show SLl _ _ _ _ _ (⟨⟨_, .binOp _ _ _ _ _, _, _, _, _⟩, _, _⟩ :: _) _ _ _); (first | refine SLl.pu rfl rfl rfl (Pu.add rfl rfl (IntWalk.i64_in _ (by omega))) ?_ | (refine SLl.cmp rfl rfl rfl rfl rfl rfl ?_ ?_ <;> intro hq <;> simp only [cmpP] at hq <;> try ((exfalso; omega))))))) | (first | refine SLc.region rfl ?_ | refine SLc.condF rfl ?_ | refine SLc.skip ?_)))
      exact And.intro rfl (Exists.intro (k + 1) (And.intro (by omega) (And.intro (by omega) (And.intro (by (repeat' (first | exact trivial | apply And.intro | rfl))) .refl))))
    · (repeat' (first | (first | refine SLl.nil ?_ | ((show SLl _ _ _ _ _ (⟨⟨_, _, _, _, _, _⟩, _, _⟩ :: _) _ _ _); first | refine SLl.ev rfl rfl rfl rfl ?_ | ((show SLl _ _ _ _ _ (⟨⟨_, .load _ _, _, _, _, _⟩, _, _⟩ :: _) _ _ _); (refine SLl.rdSeq rfl rfl (Rd.load rfl rfl (by ((apply Reads.blk; (· (repeat (apply Sel.here))); (· rfl))))) ?_)) | ((show SLl _ _ _ _ _ (⟨⟨_, .call ⟨.builtin .len, _, _⟩, _, _, _, _⟩, _, _⟩ :: _) _ _ _); refine SLl.rdSeq rfl rfl (Rd.len rfl (by ((apply Len.row; (· (repeat (first | apply Sel.here | apply Sel.there))))))) ?_) | ((show SLl _ _ _ _ _ (⟨⟨_, .binOp _ _ _ _ _, _, _, _, _⟩, _, _⟩ :: _) _ _ _); ((refine SLl.cmp rfl rfl rfl rfl rfl rfl ?_ ?_ <;> intro hq <;> simp only [cmpP] at hq <;> try ((exfalso; omega))))))) | (first | refine SLc.seq ?_ | refine SLc.region rfl ?_ | refine SLc.condF rfl ?_ | refine SLc.exit ?_ | refine SLc.ret ?_)))
      exact And.intro rfl (Exists.intro _ (Exists.intro [] (And.intro rfl (And.intro .drop rfl))))
end Go.Sl
