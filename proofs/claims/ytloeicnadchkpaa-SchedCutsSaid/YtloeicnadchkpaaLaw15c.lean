/- backstitchlaw15.SchedCuts: the walk. -/
import Derived.Test.YtloeicnadchkpaaIni15
namespace Go.Sl
open Go.Proofs
attribute [local irreducible] SLc SLl SLo SLf Pu Rd

theorem Go_A (W : World) (c1 c2 : Chunk) (F : List Chunk) (sa : Nat) (pv lv : Value) (picks : List Nat) (tbs : List TB) (T : TB) (hn : tbs.length < 128) :
    SLf Try.prog W 36 [ptr sa, .func (.func 51) #[ptr T.b] #[]] (c1 :: c2 :: (schC sa pv lv (iniM picks tbs) ++ F)) (fun _ σ => ∃ lv', σ = c1 :: c2 :: (schC sa pv lv' (iniM picks (tbs ++ [T])) ++ F)) := by
  refine SLf.mono (Go_mid W [c1, c2] F sa pv lv (iniM picks tbs) (.func 51) #[ptr T.b] #[] (by simpa [iniM] using hn)) ?_
  rintro v σ ⟨lv', _, rfl⟩
  rw [iniM_add]
  exact ⟨lv', rfl⟩
theorem Go_B (W : World) (c1 c2 : Chunk) (A B F : List Chunk) (sb : Nat) (pv lv : Value) (picks : List Nat) (tbs : List TB) (T : TB) (hn : tbs.length < 128) :
    SLf Try.prog W 36 [ptr sb, .func (.func 51) #[ptr T.b] #[]] (c1 :: c2 :: (A ++ (B ++ (schC sb pv lv (iniM picks tbs) ++ F)))) (fun _ σ => ∃ lv', σ = c1 :: c2 :: (A ++ (B ++ (schC sb pv lv' (iniM picks (tbs ++ [T])) ++ F)))) := by
  refine SLf.ent (.trans (.cons .here (.cons .here (.trans (.left A .swp) .swp))) .in2) (SLf.to (Go_ok W (c1 :: c2 :: (A ++ (B ++ F))) sb pv lv (iniM picks tbs) (.func 51) #[ptr T.b] #[] (by simpa [iniM] using hn)) ?_)
  rintro v σ ⟨lv', _, rfl⟩
  rw [iniM_add]
  exact ⟨_, .trans .out2 (.cons .here (.cons .here (.trans .swp (.left A .swp)))), lv', rfl⟩
set_option pp.maxSteps 1000000 in
set_option pp.deepTerms true in
set_option maxHeartbeats 2000000 in
theorem Cuts15 (W : World) (lv pv cv : Value) (D : List Prg) (picks cuts : List Nat) (hl : Rs W [] lv 1 (pcells D)) (hD : ∀ p ∈ D, PrgX W p) (hlen : D.length ≤ 140737488355328)
    (hp : Rs W [] pv 1 (u8L picks)) (hpk : ∀ n ∈ picks, n < 256) (hpl : picks.length ≤ 140737488355328) (hc : Rs W [] cv 1 (u8L cuts)) (hck : ∀ n ∈ cuts, n < 256) (hcl : cuts.length ≤ 140737488355328) :
    SLf Try.prog W 12 [lv, pv, cv] [] (fun v _ => v = .bool true) := by
  have hul := @u8L_len picks
  have hul2 := @u8L_len cuts
  have hpcl := @pcells_len D
  refine SLf.enter Try.func12 rfl (Nat.le_of_ble_eq_true rfl) ?_
  (repeat' (first | (first | refine SLl.nil ?_ | ((show SLl _ _ _ _ _ (⟨⟨_, _, _, _, _, _⟩, _, _⟩ :: _) _ _ _); refine SLl.ev rfl rfl rfl rfl ?_)) | (first | refine SLc.seq ?_ | refine SLc.region rfl ?_)))
  refine SLl.seq rfl rfl (SLo.call plain43 rfl (SLf.mono (Awake15 W []) ?_))
  rintro v σ ⟨rfl, rfl⟩
  (repeat' (first | (first | refine SLl.nil ?_ | ((show SLl _ _ _ _ _ (⟨⟨_, _, _, _, _, _⟩, _, _⟩ :: _) _ _ _); refine SLl.ev rfl rfl rfl rfl ?_)) | (first | refine SLc.seq ?_ | refine SLc.region rfl ?_ | refine SLc.condF rfl ?_ | refine SLc.skip ?_)))
  refine SLl.seq rfl rfl (SLo.call plain50 rfl (SLf.mono (Small15_ok W [] lv D hl hD hlen) ?_))
  rintro v σ ⟨⟨bs, rfl, hbs⟩, rfl⟩
  cases bs with
  | false =>
    (repeat' (first | (first | refine SLl.nil ?_ | ((show SLl _ _ _ _ _ (⟨⟨_, _, _, _, _, _⟩, _, _⟩ :: _) _ _ _); first | refine SLl.ev rfl rfl rfl rfl ?_ | refine SLl.skip rfl rfl ?_)) | (first | refine SLc.seq ?_ | refine SLc.region rfl ?_ | refine SLc.condT rfl ?_ | refine SLc.ret ?_)))
    exact And.intro rfl (Exists.intro _ (Exists.intro [] (And.intro rfl (And.intro .drop rfl))))
  | true =>
  obtain ⟨hn40, hsum⟩ := hbs rfl
  (repeat' (first | (first | refine SLl.nil ?_ | ((show SLl _ _ _ _ _ (⟨⟨_, _, _, _, _, _⟩, _, _⟩ :: _) _ _ _); first | refine SLl.ev rfl rfl rfl rfl ?_ | ((show SLl _ _ _ _ _ (⟨⟨_, .call ⟨.builtin .len, _, _⟩, _, _, _, _⟩, _, _⟩ :: _) _ _ _); refine SLl.rdSeq rfl rfl (Rd.len rfl (by ((apply Len.rs; exact Rs.mono (by assumption) (by (repeat' (exact Ent.refl))))))) ?_) | ((show SLl _ _ _ _ _ (⟨⟨_, .binOp _ _ _ _ _, _, _, _, _⟩, _, _⟩ :: _) _ _ _); ((refine SLl.cmp rfl rfl rfl rfl rfl rfl ?_ ?_ <;> intro hq <;> simp only [cmpP] at hq <;> try (fail)))) | refine SLl.skip rfl rfl ?_)) | (first | refine SLc.seq ?_ | refine SLc.region rfl ?_ | refine SLc.condT rfl ?_ | refine SLc.condF rfl ?_ | refine SLc.skip ?_ | refine SLc.ret ?_)))
  · exact And.intro rfl (Exists.intro _ (Exists.intro [] (And.intro rfl (And.intro .drop rfl))))
  · exact And.intro rfl (Exists.intro _ (Exists.intro [] (And.intro rfl (And.intro .drop rfl))))
  refine SLl.seq rfl rfl (SLo.call plain35 rfl (SLf.mono (New_ok W [] pv picks hp hpl) ?_))
  rintro v σ ⟨sa, pa, rfl, rfl⟩
  (repeat' ((((show SLl _ _ _ _ _ (⟨⟨_, _, _, _, _, _⟩, _, _⟩ :: _) _ _ _); refine SLl.ev rfl rfl rfl rfl ?_))))
  refine SLl.seq rfl rfl (SLo.call plain35 rfl (SLf.mono (New_ok W _ pv picks (hp.mono .drop) hpl) ?_))
  rintro v σ ⟨sb, pb, rfl, rfl⟩
  (repeat' (first | (first | refine SLl.nil ?_ | ((show SLl _ _ _ _ _ (⟨⟨_, _, _, _, _, _⟩, _, _⟩ :: _) _ _ _); first | refine SLl.ev rfl rfl rfl rfl ?_ | ((show SLl _ _ _ _ _ (⟨⟨_, .binOp _ _ _ _ _, _, _, _, _⟩, _, _⟩ :: _) _ _ _); (refine SLl.pu rfl rfl rfl (Pu.eqPtrNil rfl rfl) ?_)) | ((show SLl _ _ _ _ _ (⟨⟨_, .alloc _, _, _, _, _⟩, _, _⟩ :: _) _ _ _); refine SLl.seq rfl rfl (SLo.alloc ?_); intro b))) | (first | refine SLc.seq ?_ | refine SLc.region rfl ?_ | refine SLc.condF rfl ?_ | refine SLc.block ?_ | refine SLc.skip ?_)))
  rename_i oa
  refine SLc.loop (ι := Nat × (Value × Value) × (List TB × List TB)) (fun s => [(11, .int .i64 s.1), (7, ptr sa), (8, ptr sb), (9, ptr oa), (10, ptr b), (0, lv), (2, cv)])
    (fun s => schC sa pa s.2.1.1 (iniM picks s.2.2.1) ++ (tsC sa oa (iniS s.2.2.1) ++ (schC sb pb s.2.1.2 (iniM picks s.2.2.2) ++ (tsC sb b (iniS s.2.2.2) ++ []))))
    (fun s => s.1 ≤ D.length ∧ Made (D.take s.1) s.2.2.1 ∧ Made (D.take s.1) s.2.2.2) (fun s => D.length - s.1) (0, (.slice none 0 0, .slice none 0 0), ([], [])) ⟨Nat.zero_le _, made_nil, made_nil⟩ (by (repeat' (first | exact trivial | apply And.intro | rfl))) ?_ ?_
  · refine .trans .in2 (.trans (.left _ .in2) (.trans .swp (.left _ ?_)))
    exact .cons (Sel.right _ (.there .here)) (.nil (.left _ (.cons .here (.nil .refl))))
  rintro ⟨i, ⟨la, lb⟩, tA, tB⟩ ⟨hi, hA, hB⟩
  dsimp only at hi hA hB ⊢
  by_cases hlt : i < D.length
  · have hx : D[i]? = some D[i] := List.getElem?_eq_getElem hlt
    have hX := hD _ (List.getElem_mem hlt)
    generalize D[i] = p at hx hX
    have hpc := pcells_at hx
    have hpr := hX.rs
    have hpo := hX.one
    have hla := made_len hA
    have hlb := made_len hB
    rw [List.length_take] at hla hlb
    (repeat' (first | (first | refine SLl.nil ?_ | ((show SLl _ _ _ _ _ (⟨⟨_, _, _, _, _, _⟩, _, _⟩ :: _) _ _ _); first | refine SLl.ev rfl rfl rfl rfl ?_ | ((show SLl _ _ _ _ _ (⟨⟨_, .call ⟨.builtin .len, _, _⟩, _, _, _, _⟩, _, _⟩ :: _) _ _ _); refine SLl.rdSeq rfl rfl (Rd.len rfl (by ((apply Len.rs; exact Rs.mono (by assumption) (by (repeat' (exact Ent.drop))))))) ?_) | ((show SLl _ _ _ _ _ (⟨⟨_, .binOp _ _ _ _ _, _, _, _, _⟩, _, _⟩ :: _) _ _ _); ((refine SLl.cmp rfl rfl rfl rfl rfl rfl ?_ ?_ <;> intro hq <;> simp only [cmpP] at hq <;> try ((exfalso; omega))))))) | (first | refine SLc.seq ?_ | refine SLc.region rfl ?_ | refine SLc.condT rfl ?_ | refine SLc.block ?_ | refine SLc.skip ?_)))
    refine SLc.join (fun e ds σ => ds = [] ∧ ∃ ba bb, Sub [(12, ptr ba), (13, ptr bb), (11, .int .i64 i), (7, ptr sa), (8, ptr sb), (9, ptr oa), (10, ptr b), (0, lv), (2, cv)] e ∧ Ent σ (.blk ba 69 [ptr sa, p.1, .int .i64 0, ptr oa] :: .blk bb 69 [ptr sb, p.1, .int .i64 0, ptr b] :: (schC sa pa la (iniM picks tA) ++ (tsC sa oa (iniS tA) ++ (schC sb pb lb (iniM picks tB) ++ (tsC sb b (iniS tB) ++ [])))))) ?_ ?_
    · refine SLc.draws2 [] [0, 1, 2, 3, 4, 5, 7, 8, 9, 10, 11, 12] 6 [(14, .take), (13, .eff true), (15, .take)] 13 [(6, .eff true), (14, .take), (15, .take)] mixed (by kernel_rfl) .drop ?_
      (repeat' ((first | refine SLl.nil ?_ | ((show SLl _ _ _ _ _ (⟨⟨_, _, _, _, _, _⟩, _, _⟩ :: _) _ _ _); first | refine SLl.ev rfl rfl rfl rfl ?_ | ((show SLl _ _ _ _ _ (⟨⟨_, .load _ _, _, _, _, _⟩, _, _⟩ :: _) _ _ _); (refine SLl.rdTake rfl rfl (Rd.load rfl rfl (by ((apply Reads.rs; (· exact Rs.mono (by assumption) (by (repeat' (exact Ent.refl)))); (· (assumption)); (· rfl))))) ?_)) | ((show SLl _ _ _ _ _ (⟨⟨_, .indexAddr _ _ _, _, _, _, _⟩, _, _⟩ :: _) _ _ _); (refine SLl.rdTake rfl rfl (Rd.indexAddr rfl rfl (by ((apply Len.rs; exact Rs.mono (by assumption) (by (repeat' (exact Ent.refl)))))) (by (rfl)) (by omega)) ?_)) | ((show SLl _ _ _ _ _ (⟨⟨_, .build _ _, _, _, _, _⟩, _, _⟩ :: _) _ _ _); refine SLl.rdTake rfl rfl (Rd.build rfl (by (repeat (first | exact CellsW.nil | (apply CellsW.cons; (· (exact Cel.one (by (first | exact One.lit rfl | exact One.lit (by assumption))))))))) (by rfl)) ?_)))))
      refine And.intro ?_ ?_
      · refine SLl.eff rfl rfl (SLo.boxC rfl (by (exact Cel.agg)) ?_)
        intro ba
        refine And.intro (fun _ => .drop) ?_
        (repeat' ((((show SLl _ _ _ _ _ (⟨⟨_, _, _, _, _, _⟩, _, _⟩ :: _) _ _ _); refine SLl.ev rfl rfl rfl rfl ?_))))
        refine SLl.eff rfl rfl (SLo.boxC rfl (by (exact Cel.agg)) ?_)
        intro bb
        refine And.intro (fun _ => .drop) ?_
        (repeat' ((first | refine SLl.nil ?_ | ((show SLl _ _ _ _ _ (⟨⟨_, _, _, _, _, _⟩, _, _⟩ :: _) _ _ _); refine SLl.ev rfl rfl rfl rfl ?_))))
        exact And.intro rfl (Exists.intro ba (Exists.intro bb (And.intro (by (repeat' (first | exact trivial | apply And.intro | rfl))) (.cons (.there .here) (.cons .here .refl)))))
      · refine SLl.eff rfl rfl (SLo.boxC rfl (by (exact Cel.agg)) ?_)
        intro bb
        refine And.intro (fun _ => .drop) ?_
        refine SLl.eff rfl rfl (SLo.boxC rfl (by (exact Cel.agg)) ?_)
        intro ba
        refine And.intro (fun _ => .drop) ?_
        (repeat' ((first | refine SLl.nil ?_ | ((show SLl _ _ _ _ _ (⟨⟨_, _, _, _, _, _⟩, _, _⟩ :: _) _ _ _); refine SLl.ev rfl rfl rfl rfl ?_))))
        exact And.intro rfl (Exists.intro ba (Exists.intro bb (And.intro (by (repeat' (first | exact trivial | apply And.intro | rfl))) .refl)))
    rintro e ds σ ⟨rfl, ba, bb, hsub, hent⟩
    refine SLc.weaken hsub hent ?_
    clear hsub hent
    (repeat' (first | (((show SLl _ _ _ _ _ (⟨⟨_, _, _, _, _, _⟩, _, _⟩ :: _) _ _ _); refine SLl.ev rfl rfl rfl rfl ?_)) | (first | refine SLc.seq ?_ | refine SLc.region rfl ?_)))
    refine SLl.seq rfl rfl (SLo.call plain36 rfl (SLf.mono (Go_A W _ _ _ sa pa la picks tA ⟨ba, p.1, p.2, 0⟩ (by omega)) ?_))
    rintro v σ ⟨la', rfl⟩
    (repeat' (first | (first | refine SLl.nil ?_ | ((show SLl _ _ _ _ _ (⟨⟨_, _, _, _, _, _⟩, _, _⟩ :: _) _ _ _); refine SLl.ev rfl rfl rfl rfl ?_)) | (refine SLc.region rfl ?_)))
    refine SLl.seq rfl rfl (SLo.call plain36 rfl (SLf.mono (Go_B W _ _ _ _ _ sb pb lb picks tB ⟨bb, p.1, p.2, 0⟩ (by omega)) ?_))
    rintro v' σ ⟨lb', rfl⟩
    (repeat' (first | (first | refine SLl.nil ?_ | ((show SLl _ _ _ _ _ (⟨⟨_, _, _, _, _, _⟩, _, _⟩ :: _) _ _ _); first | refine SLl.ev rfl rfl rfl rfl ?_ | ((show SLl _ _ _ _ _ (⟨⟨_, .binOp _ _ _ _ _, _, _, _, _⟩, _, _⟩ :: _) _ _ _); (refine SLl.pu rfl rfl rfl (Pu.add rfl rfl (IntWalk.i64_in _ (by omega))) ?_)))) | (refine SLc.region rfl ?_)))
    refine And.intro rfl (Exists.intro (i + 1, (la', lb'), (tA ++ [⟨ba, p.1, p.2, 0⟩], tB ++ [⟨bb, p.1, p.2, 0⟩])) (And.intro ⟨by dsimp only; omega, made_snoc ba hA hx, made_snoc bb hB hx⟩ (And.intro (by dsimp only; omega) (And.intro (by (repeat' (first | exact trivial | apply And.intro | rfl))) ?_))))
    dsimp only
    refine .trans .in2 (.left _ (.trans (.cons .here .into) (.trans (b := tsC sa oa (iniS (tA ++ [⟨ba, p.1, p.2, 0⟩])) ++ (.blk bb 69 [ptr sb, p.1, .int .i64 0, ptr b] :: (schC sb pb lb' (iniM picks (tB ++ [⟨bb, p.1, p.2, 0⟩])) ++ (tsC sb b (iniS tB) ++ [])))) ?_ (.left _ (.trans .into (.left _ ?_))))))
    · exact ts_snoc (T := ⟨ba, p.1, p.2, 0⟩)
    · exact ts_snoc (T := ⟨bb, p.1, p.2, 0⟩)
  obtain rfl : i = D.length := by omega
  rw [List.take_length] at hA hB
  have hTA := ini_TI hA hD hn40 hsum hpk
  have hTB := ini_TI hB hD hn40 hsum hpk
  have eA := ini_abs (picks := picks) hA
  have eB := ini_abs (picks := picks) hB
  have hend := ini_ends (picks := picks) hn40 hsum
  have hN := arun_le 5000 (ini picks D)
  generalize ini picks D = A0 at eA eB hend hN
  have hr1 : (iniM picks tA).runs = false := rfl
  have hr2 : (iniM picks tA).now = -1 := rfl
  have hr3 : (iniM picks tB).runs = false := rfl
  have hr4 : (iniM picks tB).now = -1 := rfl
  generalize iniM picks tA = mA at hTA eA hr1 hr2 ⊢
  generalize iniM picks tB = mB0 at hTB eB hr3 hr4 ⊢
  generalize iniS tA = sA0 at hTA eA ⊢
  generalize iniS tB = sB0 at hTB eB ⊢
  clear hA hB
  (repeat' (first | (first | refine SLl.nil ?_ | ((show SLl _ _ _ _ _ (⟨⟨_, _, _, _, _, _⟩, _, _⟩ :: _) _ _ _); first | refine SLl.ev rfl rfl rfl rfl ?_ | ((show SLl _ _ _ _ _ (⟨⟨_, .call ⟨.builtin .len, _, _⟩, _, _, _, _⟩, _, _⟩ :: _) _ _ _); refine SLl.rdSeq rfl rfl (Rd.len rfl (by ((apply Len.rs; exact Rs.mono (by assumption) (by (repeat' (exact Ent.drop))))))) ?_) | ((show SLl _ _ _ _ _ (⟨⟨_, .binOp _ _ _ _ _, _, _, _, _⟩, _, _⟩ :: _) _ _ _); ((refine SLl.cmp rfl rfl rfl rfl rfl rfl ?_ ?_ <;> intro hq <;> simp only [cmpP] at hq <;> try ((exfalso; omega))))))) | (first | refine SLc.seq ?_ | refine SLc.region rfl ?_ | refine SLc.condF rfl ?_ | refine SLc.exit ?_)))
  refine SLl.seq rfl rfl (SLo.call plain45 rfl (SLf.mono (SLf.to (R' := fun r σ => ∃ tv, r = .tuple #[.int .i64 ((arun 5000 A0).1 : Int), .int .i64 (arun 5000 A0).2.err] ∧ σ = schC sb pb lb mB0 ++ (tsC sb b sB0 ++ (.blk oa 32 [tv] :: .row tv 3 1 (natL (arun 5000 A0).2.told) :: []))) (TRun_ok W _ sa oa pa la mA sA0 5000 hTA hr1 hr2 (by decide)) ?_) ?_))
  · rintro v σ ⟨la', m, s, _, _, _, _, habs, rfl, rfl⟩
    have ht : s.told = (arun 5000 A0).2.told := by rw [← eA, ← habs]; rfl
    refine ⟨_, ?_, s.tv, by rw [eA], rfl⟩
    rw [← ht]
    exact .trans .appR (.trans (.cons .here (.cons .here .appR)) (.trans .in2 (.left _ .in2)))
  rintro v σ ⟨tva, rfl, rfl⟩
  clear hTA eA hr1 hr2
  (repeat' (first | (first | refine SLl.nil ?_ | ((show SLl _ _ _ _ _ (⟨⟨_, _, _, _, _, _⟩, _, _⟩ :: _) _ _ _); refine SLl.ev rfl rfl rfl rfl ?_)) | (first | refine SLc.seq ?_ | refine SLc.region rfl ?_ | refine SLc.block ?_)))
  refine SLc.loop (ι := (Nat × Nat) × Value × Sch × TS) (fun s => [(17, .int .i64 s.1.1), (16, .int .i64 s.1.2), (14, .int .i64 ((arun 5000 A0).1 : Int)), (15, .int .i64 (arun 5000 A0).2.err), (8, ptr sb), (9, ptr oa), (10, ptr b), (2, cv)])
    (fun s => schC sb pb s.2.1 s.2.2.1 ++ (tsC sb b s.2.2.2 ++ (.blk oa 32 [tva] :: .row tva 3 1 (natL (arun 5000 A0).2.told) :: [])))
    (fun s => s.1.1 ≤ cuts.length ∧ TI W s.2.2.1 s.2.2.2 ∧ s.2.2.1.runs = false ∧ s.2.2.1.now = -1 ∧ (arun 5000 (abs15 s.2.2.1 s.2.2.2)).2 = (arun 5000 A0).2 ∧ s.1.2 + (arun 5000 (abs15 s.2.2.1 s.2.2.2)).1 = (arun 5000 A0).1) (fun s => cuts.length - s.1.1)
    ((0, 0), lb, mB0, sB0) ⟨Nat.zero_le _, hTB, hr3, hr4, by dsimp only; rw [eB], by dsimp only; rw [eB]; omega⟩ (by (repeat' (first | exact trivial | apply And.intro | rfl))) .refl ?_
  clear hTB eB hr3 hr4
  rintro ⟨⟨j, M⟩, lw, mB, sB⟩ ⟨hj, hT, h3, h4, e1, e2⟩
  dsimp only at hj hT h3 h4 e1 e2 ⊢
  generalize hNN : (arun 5000 A0).1 = NN at hN e2 ⊢
  generalize hBB : (arun 5000 A0).2 = BB at hend e1 ⊢
  by_cases hlt : j < cuts.length
  · have hx : cuts[j]? = some cuts[j] := List.getElem?_eq_getElem hlt
    have hx2 := hck _ (List.getElem_mem hlt)
    generalize cuts[j] = x at hx hx2
    have hxc := u8L_at hx
    (repeat' (first | (first | refine SLl.nil ?_ | ((show SLl _ _ _ _ _ (⟨⟨_, _, _, _, _, _⟩, _, _⟩ :: _) _ _ _); first | refine SLl.ev rfl rfl rfl rfl ?_ | ((show SLl _ _ _ _ _ (⟨⟨_, .load _ _, _, _, _, _⟩, _, _⟩ :: _) _ _ _); (refine SLl.rdSeq rfl rfl (Rd.load rfl rfl (by ((apply Reads.rs; (· exact Rs.mono (by assumption) (by (repeat' (exact Ent.drop)))); (· (assumption)); (· rfl))))) ?_)) | ((show SLl _ _ _ _ _ (⟨⟨_, .indexAddr _ _ _, _, _, _, _⟩, _, _⟩ :: _) _ _ _); (refine SLl.rdSeq rfl rfl (Rd.indexAddr rfl rfl (by ((apply Len.rs; exact Rs.mono (by assumption) (by (repeat' (exact Ent.drop)))))) (by (rfl)) (by omega)) ?_)) | ((show SLl _ _ _ _ _ (⟨⟨_, .call ⟨.builtin .len, _, _⟩, _, _, _, _⟩, _, _⟩ :: _) _ _ _); refine SLl.rdSeq rfl rfl (Rd.len rfl (by ((apply Len.rs; exact Rs.mono (by assumption) (by (repeat' (exact Ent.drop))))))) ?_) | ((show SLl _ _ _ _ _ (⟨⟨_, .binOp _ _ _ _ _, _, _, _, _⟩, _, _⟩ :: _) _ _ _); ((refine SLl.cmp rfl rfl rfl rfl rfl rfl ?_ ?_ <;> intro hq <;> simp only [cmpP] at hq <;> try ((exfalso; omega))))))) | (first | refine SLc.seq ?_ | refine SLc.region rfl ?_ | refine SLc.condT rfl ?_ | refine SLc.block ?_ | refine SLc.skip ?_)))
    refine SLl.pu rfl rfl rfl (Pu.remN (j := 9) rfl rfl (by omega)) ?_
    refine SLl.pu rfl rfl rfl (Pu.convInt rfl (IntWalk.i64_in _ (by omega))) ?_
    have hx9 : x % 9 < 9 := Nat.mod_lt _ (by omega)
    generalize x % 9 = c at hx9
    obtain ⟨p1, p2⟩ := arun_piece (A := abs15 mB sB) c (by rw [e1]; exact hend)
    refine SLl.seq rfl rfl (SLo.call plain45 rfl (SLf.mono (TRun_ok W _ sb b pb lw mB sB c hT h3 h4 (by omega)) ?_))
    rintro v σ ⟨lw', m', s', hT', h3', h4', _, habs, rfl, rfl⟩
    rw [← habs] at p1 p2
    (repeat' (first | (first | refine SLl.nil ?_ | ((show SLl _ _ _ _ _ (⟨⟨_, _, _, _, _, _⟩, _, _⟩ :: _) _ _ _); first | refine SLl.ev rfl rfl rfl rfl ?_ | ((show SLl _ _ _ _ _ (⟨⟨_, .binOp _ _ _ _ _, _, _, _, _⟩, _, _⟩ :: _) _ _ _); (refine SLl.pu rfl rfl rfl (Pu.add rfl rfl (IntWalk.i64_in _ (by omega))) ?_)))) | (refine SLc.region rfl ?_)))
    refine And.intro rfl (Exists.intro ((j + 1, M + (arun c (abs15 mB sB)).1), lw', m', s') (And.intro ⟨by dsimp only; omega, hT', h3', h4', p1.trans e1, by dsimp only; omega⟩ (And.intro (by dsimp only; omega) (And.intro (by (repeat' (first | exact trivial | apply And.intro | rfl))) .refl))))
  obtain rfl : j = cuts.length := by omega
  (repeat' (first | (first | refine SLl.nil ?_ | ((show SLl _ _ _ _ _ (⟨⟨_, _, _, _, _, _⟩, _, _⟩ :: _) _ _ _); first | refine SLl.ev rfl rfl rfl rfl ?_ | ((show SLl _ _ _ _ _ (⟨⟨_, .call ⟨.builtin .len, _, _⟩, _, _, _, _⟩, _, _⟩ :: _) _ _ _); refine SLl.rdSeq rfl rfl (Rd.len rfl (by ((apply Len.rs; exact Rs.mono (by assumption) (by (repeat' (exact Ent.drop))))))) ?_) | ((show SLl _ _ _ _ _ (⟨⟨_, .binOp _ _ _ _ _, _, _, _, _⟩, _, _⟩ :: _) _ _ _); ((refine SLl.cmp rfl rfl rfl rfl rfl rfl ?_ ?_ <;> intro hq <;> simp only [cmpP] at hq <;> try ((exfalso; omega))))))) | (first | refine SLc.seq ?_ | refine SLc.region rfl ?_ | refine SLc.condF rfl ?_ | refine SLc.exit ?_)))
  refine SLl.seq rfl rfl (SLo.call plain45 rfl (SLf.mono (SLf.to (R' := fun r σ => ∃ tv, BB.told.length ≤ 100000 ∧ r = .tuple #[.int .i64 ((arun 5000 (abs15 mB sB)).1 : Int), .int .i64 BB.err] ∧ σ = .blk b 32 [tv] :: .row tv 3 1 (natL BB.told) :: .blk oa 32 [tva] :: .row tva 3 1 (natL BB.told) :: []) (TRun_ok W _ sb b pb lw mB sB 5000 hT h3 h4 (by decide)) ?_) ?_))
  · rintro v σ ⟨lw', m', s', hI', _, _, _, habs, rfl, rfl⟩
    have ht : s'.told = BB.told := by rw [← e1, ← habs]; rfl
    have hl1 := hI'.told
    have hl2 := hI'.mu
    refine ⟨_, ?_, s'.tv, by rw [← ht]; omega, by rw [e1], rfl⟩
    rw [← ht]
    exact .trans .appR (.cons .here (.cons .here .appR))
  rintro v σ ⟨tvb, hbt, rfl, rfl⟩
  have hTl := @natL_len BB.told
  (repeat' (first | (first | refine SLl.nil ?_ | ((show SLl _ _ _ _ _ (⟨⟨_, _, _, _, _, _⟩, _, _⟩ :: _) _ _ _); first | refine SLl.ev rfl rfl rfl rfl ?_ | ((show SLl _ _ _ _ _ (⟨⟨_, .load _ _, _, _, _, _⟩, _, _⟩ :: _) _ _ _); (refine SLl.rdSeq rfl rfl (Rd.load rfl rfl (by ((apply Reads.blk; (· (repeat (first | apply Sel.here | apply Sel.there))); (· rfl))))) ?_)) | ((show SLl _ _ _ _ _ (⟨⟨_, .call ⟨.builtin .len, _, _⟩, _, _, _, _⟩, _, _⟩ :: _) _ _ _); refine SLl.rdSeq rfl rfl (Rd.len rfl (by ((apply Len.row; (· (repeat (first | apply Sel.here | apply Sel.there))))))) ?_) | ((show SLl _ _ _ _ _ (⟨⟨_, .binOp _ _ _ _ _, _, _, _, _⟩, _, _⟩ :: _) _ _ _); (first | refine SLl.pu rfl rfl rfl (Pu.add rfl rfl (IntWalk.i64_in _ (by omega))) ?_ | (refine SLl.cmp rfl rfl rfl rfl rfl rfl ?_ ?_ <;> intro hq <;> simp only [cmpP] at hq <;> try ((exfalso; omega))))))) | (first | refine SLc.seq ?_ | refine SLc.region rfl ?_ | refine SLc.condF rfl ?_ | refine SLc.block ?_ | refine SLc.skip ?_)))
  refine SLc.loop (ι := Nat) (fun k => [(22, .int .i64 k), (9, ptr oa), (10, ptr b)]) (fun _ => [.blk b 32 [tvb], .row tvb 3 1 (natL BB.told), .blk oa 32 [tva], .row tva 3 1 (natL BB.told)]) (fun k => k ≤ BB.told.length) (fun k => BB.told.length - k) 0 (Nat.zero_le _) (by (repeat' (first | exact trivial | apply And.intro | rfl))) .refl ?_
  intro k hk
  by_cases hkl : k < BB.told.length
  · have hx : BB.told[k]? = some BB.told[k] := List.getElem?_eq_getElem hkl
    generalize BB.told[k] = x at hx
    have hxc := natL_at hx
    (repeat' (first | (first | refine SLl.nil ?_ | ((show SLl _ _ _ _ _ (⟨⟨_, _, _, _, _, _⟩, _, _⟩ :: _) _ _ _); first | refine SLl.ev rfl rfl rfl rfl ?_ | ((show SLl _ _ _ _ _ (⟨⟨_, .load _ _, _, _, _, _⟩, _, _⟩ :: _) _ _ _); (refine SLl.rdSeq rfl rfl (Rd.load rfl rfl (by ((apply Reads.blk; (· (repeat (first | apply Sel.here | apply Sel.there))); (· rfl))))) ?_)) | ((show SLl _ _ _ _ _ (⟨⟨_, .call ⟨.builtin .len, _, _⟩, _, _, _, _⟩, _, _⟩ :: _) _ _ _); refine SLl.rdSeq rfl rfl (Rd.len rfl (by ((apply Len.row; (· (repeat (first | apply Sel.here | apply Sel.there))))))) ?_) | ((show SLl _ _ _ _ _ (⟨⟨_, .binOp _ _ _ _ _, _, _, _, _⟩, _, _⟩ :: _) _ _ _); ((refine SLl.cmp rfl rfl rfl rfl rfl rfl ?_ ?_ <;> intro hq <;> simp only [cmpP] at hq <;> try ((exfalso; omega))))))) | (first | refine SLc.seq ?_ | refine SLc.region rfl ?_ | refine SLc.condT rfl ?_ | refine SLc.block ?_ | refine SLc.skip ?_)))
    refine SLc.drawsI [.blk b 32 [tvb], .row tvb 3 1 (natL BB.told), .blk oa 32 [tva], .row tva 3 1 (natL BB.told)] (List.replicate 9 .take) mixed (by kernel_rfl) .refl ?_
    (repeat' (first | (first | refine SLl.nil ?_ | ((show SLl _ _ _ _ _ (⟨⟨_, _, _, _, _, _⟩, _, _⟩ :: _) _ _ _); first | refine SLl.ev rfl rfl rfl rfl ?_ | ((show SLl _ _ _ _ _ (⟨⟨_, .load _ _, _, _, _, _⟩, _, _⟩ :: _) _ _ _); (refine SLl.rdTake rfl rfl (Rd.load rfl rfl (by (first | (apply Reads.blk; (· (repeat (first | apply Sel.here | apply Sel.there))); (· rfl)) | (apply Reads.row; (· (repeat (first | apply Sel.here | apply Sel.there))); (· (assumption)); (· rfl))))) ?_)) | ((show SLl _ _ _ _ _ (⟨⟨_, .indexAddr _ _ _, _, _, _, _⟩, _, _⟩ :: _) _ _ _); (refine SLl.rdTake rfl rfl (Rd.indexAddr rfl rfl (by ((apply Len.row; (· (repeat (first | apply Sel.here | apply Sel.there)))))) (by (rfl)) (by omega)) ?_)) | ((show SLl _ _ _ _ _ (⟨⟨_, .binOp _ _ _ _ _, _, _, _, _⟩, _, _⟩ :: _) _ _ _); (first | refine SLl.pu rfl rfl rfl (Pu.add rfl rfl (IntWalk.i64_in _ (by omega))) ?_ | (refine SLl.cmp rfl rfl rfl rfl rfl rfl ?_ ?_ <;> intro hq <;> simp only [cmpP] at hq <;> try ((exfalso; omega))))))) | (first | refine SLc.region rfl ?_ | refine SLc.condF rfl ?_ | refine SLc.skip ?_)))
    exact And.intro rfl (Exists.intro (k + 1) (And.intro (by omega) (And.intro (by omega) (And.intro (by (repeat' (first | exact trivial | apply And.intro | rfl))) .refl))))
  · (repeat' (first | (first | refine SLl.nil ?_ | ((show SLl _ _ _ _ _ (⟨⟨_, _, _, _, _, _⟩, _, _⟩ :: _) _ _ _); first | refine SLl.ev rfl rfl rfl rfl ?_ | ((show SLl _ _ _ _ _ (⟨⟨_, .load _ _, _, _, _, _⟩, _, _⟩ :: _) _ _ _); (refine SLl.rdSeq rfl rfl (Rd.load rfl rfl (by ((apply Reads.blk; (· (repeat (first | apply Sel.here | apply Sel.there))); (· rfl))))) ?_)) | ((show SLl _ _ _ _ _ (⟨⟨_, .call ⟨.builtin .len, _, _⟩, _, _, _, _⟩, _, _⟩ :: _) _ _ _); refine SLl.rdSeq rfl rfl (Rd.len rfl (by ((apply Len.row; (· (repeat (first | apply Sel.here | apply Sel.there))))))) ?_) | ((show SLl _ _ _ _ _ (⟨⟨_, .binOp _ _ _ _ _, _, _, _, _⟩, _, _⟩ :: _) _ _ _); ((refine SLl.cmp rfl rfl rfl rfl rfl rfl ?_ ?_ <;> intro hq <;> simp only [cmpP] at hq <;> try ((exfalso; omega))))))) | (first | refine SLc.seq ?_ | refine SLc.region rfl ?_ | refine SLc.condF rfl ?_ | refine SLc.exit ?_ | refine SLc.ret ?_)))
    exact And.intro rfl (Exists.intro _ (Exists.intro [] (And.intro rfl (And.intro .drop rfl))))
end Go.Sl
