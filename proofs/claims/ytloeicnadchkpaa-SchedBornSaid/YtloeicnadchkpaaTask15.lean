/- backstitchlaw15: what a task of the law does in a step. -/
import Derived.Test.YtloeicnadchkpaaMid
namespace Go.Sl
open Go.Proofs
attribute [local irreducible] SLc SLl SLo SLf Pu Rd

structure Deed where
  wv : Value
  wake : List Nat
  ans : Nat
def Deed.cells (d : Deed) : List Value := [d.wv, .int .u8 (d.ans : Int)]
structure DeedOk (W : World) (d : Deed) : Prop where
  rs : Rs W [] d.wv 1 (u8L d.wake)
  few : d.wake.length ≤ 100000
  wake : ∀ n ∈ d.wake, n < 256
  ans : d.ans < 256
  one : d.wv.oneCell' = true
def lastDeed : Deed := ⟨.slice none 0 0, [], 3⟩
theorem lastDeed_ok (W : World) : DeedOk W lastDeed := ⟨Rs.nil, Nat.zero_le _, fun _ h => (by cases h), by decide, rfl⟩
def wakesN (m : Sch) (l : List Nat) : Sch := l.foldl (fun (m : Sch) (n : Nat) => (wakeM m (n : Int)).2) m
theorem wakesN_snoc {m : Sch} {l : List Nat} {n : Nat} : wakesN m (l ++ [n]) = (wakeM (wakesN m l) (n : Int)).2 := by simp [wakesN]
/-- A task of the law: its block, its deeds, how many were done. -/
structure TB where
  b : Nat
  dv : Value
  ds : List Deed
  at_ : Nat
def TB.deed (t : TB) : Deed := (t.ds[t.at_]?).getD lastDeed
def tbC (sb ob : Nat) (t : TB) : Chunk := .blk t.b 69 [ptr sb, t.dv, .int .i64 (t.at_ : Int), ptr ob]
structure TBOk (W : World) (t : TB) : Prop where
  rs : Rs W [] t.dv 2 (t.ds.map Deed.cells)
  ok : ∀ d ∈ t.ds, DeedOk W d
  few : t.ds.length ≤ 1000000
theorem TBOk.deed {W : World} {t : TB} (h : TBOk W t) : DeedOk W t.deed := by
  unfold TB.deed
  cases hd : t.ds[t.at_]? with
  | none => exact lastDeed_ok W
  | some d => exact h.ok d (List.mem_of_getElem? hd)
theorem Now_in3 (W : World) (c1 c2 c3 : Chunk) (F : List Chunk) (b : Nat) (pv lv : Value) (m : Sch) : SLf Try.prog W 55 [ptr b] (c1 :: c2 :: c3 :: (schC b pv lv m ++ F)) (fun r σ => r = .int .i64 m.now ∧ σ = c1 :: c2 :: c3 :: (schC b pv lv m ++ F)) := Now_mid W [c1, c2, c3] F b pv lv m
theorem Wake_in4 (W : World) (c1 c2 c3 c4 : Chunk) (F : List Chunk) (b : Nat) (pv lv : Value) (m : Sch) (id : Int) : SLf Try.prog W 57 [ptr b, .int .i64 id] (c1 :: c2 :: c3 :: c4 :: (schC b pv lv m ++ F)) (fun r σ => r = .bool (wakeM m id).1 ∧ σ = c1 :: c2 :: c3 :: c4 :: (schC b pv lv (wakeM m id).2 ++ F)) := Wake_mid W [c1, c2, c3, c4] F b pv lv m id
set_option pp.maxSteps 1000000 in
set_option pp.deepTerms true in
set_option maxHeartbeats 1000000 in
theorem Step15_ok (W : World) (F : List Chunk) (sb : Nat) (pv lv : Value) (m : Sch) (ob : Nat) (T : TB) (tv : Value) (told : List Nat) (i : Nat) (hT : TBOk W T) (hat : T.at_ ≤ 1000000) (htl : told.length ≤ 1000000) (hnow : m.now = (i : Int)) :
    SLf Try.prog W 51 [ptr T.b] (.blk T.b 69 [ptr sb, T.dv, .int .i64 (T.at_ : Int), ptr ob] :: .blk ob 32 [tv] :: .row tv 3 1 (natL told) :: (schC sb pv lv m ++ F))
      (fun v σ => ∃ tv', v = .int .i64 (T.deed.ans : Int) ∧ σ = .blk T.b 69 [ptr sb, T.dv, .int .i64 ((T.at_ + 1 : Nat) : Int), ptr ob] :: .blk ob 32 [tv'] :: .row tv' 3 1 (natL (told ++ [i])) :: (schC sb pv lv (wakesN m T.deed.wake) ++ F)) := by
  have hD := hT.deed
  have hdl : (T.ds.map Deed.cells).length = T.ds.length := List.length_map ..
  have hrs := hT.rs
  have hfew := hT.few
  have hone := hT.ok
  have hdd : T.deed = (T.ds[T.at_]?).getD lastDeed := rfl
  generalize T.deed = D at hD hdd ⊢
  obtain ⟨tb, dv, ds, at_⟩ := T
  clear hT
  dsimp only at hrs hfew hdl hone hat hdd ⊢
  have htol := @natL_len told
  refine SLf.enter Try.func51 rfl (Nat.le_of_ble_eq_true rfl) ?_
  (repeat' (first | (first | refine SLl.nil ?_ | ((show SLl _ _ _ _ _ (⟨⟨_, _, _, _, _, _⟩, _, _⟩ :: _) _ _ _); refine SLl.ev rfl rfl rfl rfl ?_)) | (first | refine SLc.seq ?_ | refine SLc.region rfl ?_)))
  refine SLc.draws [.blk tb 69 [ptr sb, dv, .int .i64 (at_ : Int), ptr ob], .blk ob 32 [tv]] [(0, .take), (1, .take), (2, .take), (3, .take), (4, .take), (5, .take), (6, .take), (7, .take), (8, .take), (9, .take), (10, .take), (11, .take), (12, .take), (13, .take), (14, .eff true), (15, .eff true), (16, .eff true), (17, .take), (18, .eff false)] mixed (by kernel_rfl) (.cons .here (.cons .here .drop)) ?_
  (repeat' ((((show SLl _ _ _ _ _ (⟨⟨_, _, _, _, _, _⟩, _, _⟩ :: _) _ _ _); first | refine SLl.ev rfl rfl rfl rfl ?_ | ((show SLl _ _ _ _ _ (⟨⟨_, .load _ _, _, _, _, _⟩, _, _⟩ :: _) _ _ _); (refine SLl.rdTake rfl rfl (Rd.load rfl rfl (by ((apply Reads.blk; (· (repeat (first | apply Sel.here | apply Sel.there))); (· rfl))))) ?_)) | ((show SLl _ _ _ _ _ (⟨⟨_, .fieldAddr _ _ _, _, _, _, _⟩, _, _⟩ :: _) _ _ _); (refine SLl.pu rfl rfl rfl (Pu.fieldAddr rfl) ?_))))))
  refine SLl.eff rfl rfl (SLo.call plain55 rfl (SLf.mono (Now_in3 W _ _ _ F sb pv lv m) ?_))
  rintro v σ ⟨rfl, rfl⟩
  refine And.intro (fun _ => .cons .here (.cons .here .drop)) ?_
  rw [hnow]
  refine SLl.eff rfl rfl (SLo.buildSliceE (natL [i]) (by decide) (by decide) rfl (by (repeat (first | exact CellsW.nil | (apply CellsW.cons; (· (exact Cel.one (by (exact One.lit rfl)))))))) natL_one rfl (by rfl) ?_)
  intro nv hnv
  refine And.intro (fun _ => .skip (.cons .here (.cons .here .drop))) ?_
  refine SLl.eff rfl rfl (SLo.append (es := natL told) (ys := natL [i]) (by rfl) (by omega) rfl rfl (.there (.there (.there .here))) (Src.row .here natL_one) natL_ones (by simp only [natL_len, List.length_singleton] at *; omega) (by simp only [natL_len, List.length_singleton] at *; omega) ?_)
  intro tv' htv
  refine And.intro (fun _ => .skip (.skip (.cons .here (.cons .here .drop)))) ?_
  (repeat' ((((show SLl _ _ _ _ _ (⟨⟨_, _, _, _, _, _⟩, _, _⟩ :: _) _ _ _); refine SLl.ev rfl rfl rfl rfl ?_))))
  refine SLl.eff0 rfl (SLo.store rfl rfl rfl (One.len (Len.row .here)) (Wr.blk (.there (.there (.there .here))) (Nat.le_of_ble_eq_true rfl)) ?_)
  refine And.intro (fun h => by cases h) ?_
  refine SLl.nil ?_
  refine SLc.weaken (e' := [(0, ptr tb)]) (σ' := .blk tb 69 [ptr sb, dv, .int .i64 (at_ : Int), ptr ob] :: .blk ob 32 [tv'] :: .row tv' 3 1 (natL (told ++ [i])) :: (schC sb pv lv m ++ F)) (by (repeat' (first | exact trivial | apply And.intro | rfl))) ?_ ?_
  · exact .cons (.there (.there .here)) (.cons (.there (.there .here)) (Ent.row natL_app (.skip .refl)))
  (repeat' (first | (first | refine SLl.nil ?_ | ((show SLl _ _ _ _ _ (⟨⟨_, _, _, _, _, _⟩, _, _⟩ :: _) _ _ _); first | ((show SLl _ _ _ _ _ (⟨⟨_, .store _ _ _, _, _, _, _⟩, _, _⟩ :: _) _ _ _); ((refine SLl.seq0 rfl (SLo.storeN rfl rfl rfl (by (repeat' (first | exact trivial | (apply And.intro; (· (exact One.lit rfl)))))) (Nat.le_of_ble_eq_true rfl) (by (repeat (apply Upd.here))) ?_)))) | ((show SLl _ _ _ _ _ (⟨⟨_, .alloc _, _, _, _, _⟩, _, _⟩ :: _) _ _ _); refine SLl.seq rfl rfl (SLo.alloc ?_); intro b) | ((show SLl _ _ _ _ _ (⟨⟨_, .build _ _, _, _, _, _⟩, _, _⟩ :: _) _ _ _); refine SLl.rdSeq rfl rfl (Rd.build rfl (by (repeat (first | exact CellsW.nil | (apply CellsW.cons; (· (exact Cel.one (by (exact One.lit rfl)))))))) (by rfl)) ?_))) | (first | refine SLc.seq ?_ | refine SLc.region rfl ?_)))
  have hDo := hD.one
  have hDr := hD.rs
  have hDf := hD.few
  have hDa := hD.ans
  refine SLc.join4 (fun e ds σ => ds = [] ∧ Sub [(3, ptr b), (0, ptr tb)] e ∧ Ent σ (.blk b 140 [D.wv, .int .u8 (D.ans : Int)] :: .blk tb 69 [ptr sb, dv, .int .i64 (at_ : Int), ptr ob] :: .blk ob 32 [tv'] :: .row tv' 3 1 (natL (told ++ [i])) :: (schC sb pv lv m ++ F))) ?_ ?_
  · refine SLc.draws [.blk tb 69 [ptr sb, dv, .int .i64 (at_ : Int), ptr ob]] [(0, .take), (1, .take), (2, .take), (3, .take), (4, .take), (5, .take), (6, .take), (7, .take), (8, .take), (9, .take)] mixed (by kernel_rfl) (.cons (.there .here) .drop) ?_
    (repeat' (first | (first | refine SLl.nil ?_ | ((show SLl _ _ _ _ _ (⟨⟨_, _, _, _, _, _⟩, _, _⟩ :: _) _ _ _); first | refine SLl.ev rfl rfl rfl rfl ?_ | ((show SLl _ _ _ _ _ (⟨⟨_, .load _ _, _, _, _, _⟩, _, _⟩ :: _) _ _ _); (refine SLl.rdTake rfl rfl (Rd.load rfl rfl (by ((apply Reads.blk; (· (repeat (apply Sel.here))); (· rfl))))) ?_)) | ((show SLl _ _ _ _ _ (⟨⟨_, .fieldAddr _ _ _, _, _, _, _⟩, _, _⟩ :: _) _ _ _); (refine SLl.pu rfl rfl rfl (Pu.fieldAddr rfl) ?_)) | ((show SLl _ _ _ _ _ (⟨⟨_, .call ⟨.builtin .len, _, _⟩, _, _, _, _⟩, _, _⟩ :: _) _ _ _); refine SLl.rdTake rfl rfl (Rd.len rfl (by ((apply Len.rs; exact Rs.mono (by assumption) (by (repeat' (exact Ent.drop))))))) ?_) | ((show SLl _ _ _ _ _ (⟨⟨_, .binOp _ _ _ _ _, _, _, _, _⟩, _, _⟩ :: _) _ _ _); ((refine SLl.cmp rfl rfl rfl rfl rfl rfl ?_ ?_ <;> intro hq <;> simp only [cmpP] at hq <;> try (fail)))))) | (first | refine SLc.condT rfl ?_ | refine SLc.condF rfl ?_ | refine SLc.skip ?_)))
    · have hlt : at_ < ds.length := by omega
      have hx : ds[at_]? = some ds[at_] := List.getElem?_eq_getElem hlt
      rw [hx, Option.getD_some] at hdd
      have hxc : (ds.map Deed.cells)[at_]? = some [D.wv, .int .u8 (D.ans : Int)] := by rw [List.getElem?_map, hx, ← hdd]; rfl
      refine SLc.draws [.blk tb 69 [ptr sb, dv, .int .i64 (at_ : Int), ptr ob]] [(0, .take), (1, .take), (2, .take), (3, .take), (4, .take), (5, .take), (6, .take), (7, .take), (8, .take), (9, .take), (10, .eff false)] mixed (by kernel_rfl) (.cons (.there .here) .drop) ?_
      (repeat' ((((show SLl _ _ _ _ _ (⟨⟨_, _, _, _, _, _⟩, _, _⟩ :: _) _ _ _); first | refine SLl.ev rfl rfl rfl rfl ?_ | ((show SLl _ _ _ _ _ (⟨⟨_, .load _ _, _, _, _, _⟩, _, _⟩ :: _) _ _ _); (first | refine SLl.rdTake rfl rfl (Rd.load rfl rfl (by (first | (apply Reads.blk; (· (repeat (apply Sel.here))); (· rfl)) | (apply Reads.rs; (· exact Rs.mono (by assumption) (by (repeat' (exact Ent.drop)))); (· (assumption)); (· rfl))))) ?_ | refine SLl.rdTake rfl rfl (Rd.loadN rfl rfl (by ((apply ReadsN.rs0; (· exact Rs.mono (by assumption) (by (repeat' (exact Ent.drop)))); (· (assumption))))) (by rfl)) ?_)) | ((show SLl _ _ _ _ _ (⟨⟨_, .fieldAddr _ _ _, _, _, _, _⟩, _, _⟩ :: _) _ _ _); (refine SLl.pu rfl rfl rfl (Pu.fieldAddr rfl) ?_)) | ((show SLl _ _ _ _ _ (⟨⟨_, .indexAddr _ _ _, _, _, _, _⟩, _, _⟩ :: _) _ _ _); (refine SLl.rdTake rfl rfl (Rd.indexAddr rfl rfl (by ((apply Len.rs; exact Rs.mono (by assumption) (by (repeat' (exact Ent.drop)))))) (by (rfl)) (by omega)) ?_))))))
      refine SLl.eff0 rfl (SLo.storeN rfl rfl rfl (by (repeat' (first | exact trivial | (apply And.intro; (· (first | exact One.lit rfl | exact One.lit (by assumption))))))) (Nat.le_of_ble_eq_true rfl) .here ?_)
      refine And.intro (fun h => by cases h) ?_
      (repeat' ((refine SLl.nil ?_)))
      exact And.intro rfl (And.intro (by (repeat' (first | exact trivial | apply And.intro | rfl))) .refl)
    · have hno : ds[at_]? = none := List.getElem?_eq_none (by omega)
      rw [hno, Option.getD_none] at hdd
      subst hdd
      exact And.intro rfl (And.intro (by (repeat' (first | exact trivial | apply And.intro | rfl))) .refl)
  rintro e ds' σ ⟨rfl, hsub, hent⟩
  refine SLc.weaken hsub hent ?_
  clear hsub hent
  (repeat' (first | (first | refine SLl.nil ?_ | ((show SLl _ _ _ _ _ (⟨⟨_, _, _, _, _, _⟩, _, _⟩ :: _) _ _ _); first | refine SLl.ev rfl rfl rfl rfl ?_ | ((show SLl _ _ _ _ _ (⟨⟨_, .load _ _, _, _, _, _⟩, _, _⟩ :: _) _ _ _); (refine SLl.rdSeq rfl rfl (Rd.load rfl rfl (by ((apply Reads.blk; (· (repeat (first | apply Sel.here | apply Sel.there))); (· rfl))))) ?_)) | ((show SLl _ _ _ _ _ (⟨⟨_, .fieldAddr _ _ _, _, _, _, _⟩, _, _⟩ :: _) _ _ _); (refine SLl.pu rfl rfl rfl (Pu.fieldAddr rfl) ?_)) | ((show SLl _ _ _ _ _ (⟨⟨_, .binOp _ _ _ _ _, _, _, _, _⟩, _, _⟩ :: _) _ _ _); (refine SLl.pu rfl rfl rfl (Pu.add rfl rfl (IntWalk.i64_in _ (by omega))) ?_)) | ((show SLl _ _ _ _ _ (⟨⟨_, .store _ _ _, _, _, _, _⟩, _, _⟩ :: _) _ _ _); ((refine SLl.seq0 rfl (SLo.store rfl rfl rfl (by (exact One.lit rfl)) (by ((apply Wr.blk; (· (repeat (first | apply Upd.here | apply Upd.there))); (· exact Nat.le_of_ble_eq_true rfl)))) ?_)))))) | (first | refine SLc.seq ?_ | refine SLc.region rfl ?_ | refine SLc.block ?_)))
  have hul := @u8L_len D.wake
  refine SLc.loop (ι := Nat) (fun k => [(4, .int .i64 k), (3, ptr b), (0, ptr tb)]) (fun k => .blk b 140 [D.wv, .int .u8 (D.ans : Int)] :: .blk tb 69 [ptr sb, dv, .int .i64 ((at_ + 1 : Nat) : Int), ptr ob] :: .blk ob 32 [tv'] :: .row tv' 3 1 (natL (told ++ [i])) :: (schC sb pv lv (wakesN m (D.wake.take k)) ++ F)) (fun k => k ≤ D.wake.length) (fun k => D.wake.length - k) 0 (Nat.zero_le _) (by (repeat' (first | exact trivial | apply And.intro | rfl))) .refl ?_
  intro k hk
  by_cases hlt : k < D.wake.length
  · have hx : D.wake[k]? = some D.wake[k] := List.getElem?_eq_getElem hlt
    have htk : D.wake.take (k + 1) = D.wake.take k ++ [D.wake[k]] := List.take_succ_eq_append_getElem hlt
    have hx2 := hD.wake _ (List.getElem_mem hlt)
    generalize D.wake[k] = x at hx htk hx2
    have hxc := u8L_at hx
    (repeat' (first | (first | refine SLl.nil ?_ | ((show SLl _ _ _ _ _ (⟨⟨_, _, _, _, _, _⟩, _, _⟩ :: _) _ _ _); first | refine SLl.ev rfl rfl rfl rfl ?_ | ((show SLl _ _ _ _ _ (⟨⟨_, .load _ _, _, _, _, _⟩, _, _⟩ :: _) _ _ _); (refine SLl.rdSeq rfl rfl (Rd.load rfl rfl (by ((apply Reads.blk; (· (repeat (apply Sel.here))); (· rfl))))) ?_)) | ((show SLl _ _ _ _ _ (⟨⟨_, .fieldAddr _ _ _, _, _, _, _⟩, _, _⟩ :: _) _ _ _); (refine SLl.pu rfl rfl rfl (Pu.fieldAddr rfl) ?_)) | ((show SLl _ _ _ _ _ (⟨⟨_, .call ⟨.builtin .len, _, _⟩, _, _, _, _⟩, _, _⟩ :: _) _ _ _); refine SLl.rdSeq rfl rfl (Rd.len rfl (by ((apply Len.rs; exact Rs.mono (by assumption) (by (repeat' (exact Ent.drop))))))) ?_) | ((show SLl _ _ _ _ _ (⟨⟨_, .binOp _ _ _ _ _, _, _, _, _⟩, _, _⟩ :: _) _ _ _); ((refine SLl.cmp rfl rfl rfl rfl rfl rfl ?_ ?_ <;> intro hq <;> simp only [cmpP] at hq <;> try ((exfalso; omega))))))) | (first | refine SLc.seq ?_ | refine SLc.region rfl ?_ | refine SLc.condT rfl ?_ | refine SLc.block ?_ | refine SLc.skip ?_)))
    refine SLc.draws [.blk b 140 [D.wv, .int .u8 (D.ans : Int)], .blk tb 69 [ptr sb, dv, .int .i64 ((at_ + 1 : Nat) : Int), ptr ob]] [(0, .take), (1, .take), (2, .take), (3, .take), (4, .take), (5, .take), (6, .take), (7, .take), (8, .take), (9, .take), (10, .eff true)] mixed (by kernel_rfl) (.cons .here (.cons .here .drop)) ?_
    (repeat' ((((show SLl _ _ _ _ _ (⟨⟨_, _, _, _, _, _⟩, _, _⟩ :: _) _ _ _); first | refine SLl.ev rfl rfl rfl rfl ?_ | ((show SLl _ _ _ _ _ (⟨⟨_, .load _ _, _, _, _, _⟩, _, _⟩ :: _) _ _ _); (refine SLl.rdTake rfl rfl (Rd.load rfl rfl (by (first | (apply Reads.blk; (· (repeat (first | apply Sel.here | apply Sel.there))); (· rfl)) | (apply Reads.rs; (· exact Rs.mono (by assumption) (by (repeat' (exact Ent.drop)))); (· (assumption)); (· rfl))))) ?_)) | ((show SLl _ _ _ _ _ (⟨⟨_, .fieldAddr _ _ _, _, _, _, _⟩, _, _⟩ :: _) _ _ _); (refine SLl.pu rfl rfl rfl (Pu.fieldAddr rfl) ?_)) | ((show SLl _ _ _ _ _ (⟨⟨_, .indexAddr _ _ _, _, _, _, _⟩, _, _⟩ :: _) _ _ _); (refine SLl.rdTake rfl rfl (Rd.indexAddr rfl rfl (by ((apply Len.rs; exact Rs.mono (by assumption) (by (repeat' (exact Ent.drop)))))) (by (rfl)) (by omega)) ?_))))))
    refine SLl.pu rfl rfl rfl (Pu.convInt rfl (IntWalk.i64_in _ (by omega))) ?_
    refine SLl.eff rfl rfl (SLo.call plain57 rfl (SLf.mono (Wake_in4 W _ _ _ _ F sb pv lv _ (x : Int)) ?_))
    rintro v σ ⟨rfl, rfl⟩
    refine And.intro (fun _ => .cons .here (.cons .here .drop)) ?_
    rw [← wakesN_snoc, ← htk]
    (repeat' (first | (first | refine SLl.nil ?_ | ((show SLl _ _ _ _ _ (⟨⟨_, _, _, _, _, _⟩, _, _⟩ :: _) _ _ _); first | refine SLl.ev rfl rfl rfl rfl ?_ | ((show SLl _ _ _ _ _ (⟨⟨_, .binOp _ _ _ _ _, _, _, _, _⟩, _, _⟩ :: _) _ _ _); (refine SLl.pu rfl rfl rfl (Pu.add rfl rfl (IntWalk.i64_in _ (by omega))) ?_)))) | (refine SLc.region rfl ?_)))
    exact And.intro rfl (Exists.intro (k + 1) (And.intro (by omega) (And.intro (by omega) (And.intro (by (repeat' (first | exact trivial | apply And.intro | rfl))) .refl))))
  · have htk : D.wake.take k = D.wake := List.take_of_length_le (by omega)
    rw [htk]
    (repeat' (first | (first | refine SLl.nil ?_ | ((show SLl _ _ _ _ _ (⟨⟨_, _, _, _, _, _⟩, _, _⟩ :: _) _ _ _); first | refine SLl.ev rfl rfl rfl rfl ?_ | ((show SLl _ _ _ _ _ (⟨⟨_, .load _ _, _, _, _, _⟩, _, _⟩ :: _) _ _ _); (refine SLl.rdSeq rfl rfl (Rd.load rfl rfl (by ((apply Reads.blk; (· (repeat (apply Sel.here))); (· rfl))))) ?_)) | ((show SLl _ _ _ _ _ (⟨⟨_, .fieldAddr _ _ _, _, _, _, _⟩, _, _⟩ :: _) _ _ _); (refine SLl.pu rfl rfl rfl (Pu.fieldAddr rfl) ?_)) | ((show SLl _ _ _ _ _ (⟨⟨_, .call ⟨.builtin .len, _, _⟩, _, _, _, _⟩, _, _⟩ :: _) _ _ _); refine SLl.rdSeq rfl rfl (Rd.len rfl (by ((apply Len.rs; exact Rs.mono (by assumption) (by (repeat' (exact Ent.drop))))))) ?_) | ((show SLl _ _ _ _ _ (⟨⟨_, .binOp _ _ _ _ _, _, _, _, _⟩, _, _⟩ :: _) _ _ _); ((refine SLl.cmp rfl rfl rfl rfl rfl rfl ?_ ?_ <;> intro hq <;> simp only [cmpP] at hq <;> try ((exfalso; omega))))))) | (first | refine SLc.seq ?_ | refine SLc.region rfl ?_ | refine SLc.condF rfl ?_ | refine SLc.exit ?_)))
    refine SLl.pu rfl rfl rfl (Pu.convInt rfl (IntWalk.i64_in _ (by omega))) ?_
    (repeat' (first | (first | refine SLl.nil ?_ | ((show SLl _ _ _ _ _ (⟨⟨_, _, _, _, _, _⟩, _, _⟩ :: _) _ _ _); refine SLl.ev rfl rfl rfl rfl ?_)) | (refine SLc.ret ?_)))
    exact And.intro rfl (Exists.intro _ (Exists.intro _ (And.intro rfl (And.intro (.skip .refl) (Exists.intro tv' (And.intro rfl rfl))))))
end Go.Sl
