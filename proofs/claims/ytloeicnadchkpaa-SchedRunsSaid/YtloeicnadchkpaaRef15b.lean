/- backstitchref15: the reference's scheduler: step, Run. -/
import Derived.Test.YtloeicnadchkpaaRef15
namespace Go.Sl
open Go.Proofs
attribute [local irreducible] SLc SLl SLo SLf Pu Rd

structure RTOk (W : World) (r : RT) : Prop where
  rs : Rs W [] r.dv 2 (r.ds.map Deed.cells)
  ok : ∀ d ∈ r.ds, DeedOk W d
  few : r.ds.length ≤ 1000000
  ds : r.t.ds = r.ds.map Deed.abs
def RT.deed (r : RT) : Deed := (r.ds[r.t.at_]?).getD lastDeed
theorem RTOk.deed {W : World} {r : RT} (h : RTOk W r) : DeedOk W r.deed ∧ r.t.deed = (r.deed.wake, r.deed.ans) := by
  unfold RT.deed AT.deed
  rw [h.ds, List.getElem?_map]
  cases hd : r.ds[r.t.at_]? with
  | none => exact ⟨lastDeed_ok W, rfl⟩
  | some d => exact ⟨h.ok d (List.mem_of_getElem? hd), rfl⟩
def RT.up (r : RT) : RT := { r with t := { r.t with at_ := r.t.at_ + 1 } }
def RT.said (x : Nat) (r : RT) : RT := { r with t := r.t.said x }
def wakesR (l : List RT) (ns : List Nat) : List RT := ns.foldl wakeR l
theorem wakesR_snoc {l : List RT} {ns : List Nat} {n : Nat} : wakesR l (ns ++ [n]) = wakeR (wakesR l ns) n := by simp [wakesR]
theorem wakesR_t (ns : List Nat) : ∀ (l : List RT), (wakesR l ns).map RT.t = ns.foldl wakeL (l.map RT.t) := by
  induction ns with
  | nil => exact fun _ => rfl
  | cons n r ih => exact fun l => (ih (wakeR l n)).trans (by rw [wakeR_t]; rfl)
theorem wakesR_len (ns : List Nat) : ∀ (l : List RT), (wakesR l ns).length = l.length := by
  induction ns with
  | nil => exact fun _ => rfl
  | cons n r ih => exact fun l => (ih (wakeR l n)).trans (wakeR_len l n)
def RT.k (r : RT) : Nat × Value × List Deed × Bool × List (List Nat × Nat) := (r.b, r.dv, r.ds, r.t.done, r.t.ds)
theorem wakeR_k (l : List RT) (n : Nat) : (wakeR l n).map RT.k = l.map RT.k := by
  unfold wakeR
  split
  · rename_i r hr
    refine set_map_same hr ?_
    unfold RT.k AT.wake
    split <;> rfl
  · rfl
theorem wakesR_k (ns : List Nat) : ∀ (l : List RT), (wakesR l ns).map RT.k = l.map RT.k := by
  induction ns with
  | nil => exact fun _ => rfl
  | cons n r ih => exact fun l => (ih (wakeR l n)).trans (wakeR_k l n)
def stepR (l : List RT) (i : Nat) : List RT := match l[i]? with
  | none => l
  | some r => match (wakesR (l.set i r.up) r.deed.wake)[i]? with
    | none => l
    | some u => (wakesR (l.set i r.up) r.deed.wake).set i (u.said r.deed.ans)
theorem stepR_t {W : World} {l : List RT} {i : Nat} {r : RT} (hr : l[i]? = some r) (h : RTOk W r) : (stepR l i).map RT.t = stepL (l.map RT.t) i := by
  unfold stepR stepL
  rw [List.getElem?_map, hr]
  dsimp only [Option.map_some]
  rw [h.deed.2]
  dsimp only
  have e : (l.map RT.t).set i { r.t with at_ := r.t.at_ + 1 } = (l.set i r.up).map RT.t := by rw [List.map_set]; rfl
  rw [e, ← wakesR_t, List.getElem?_map]
  cases (wakesR (l.set i r.up) r.deed.wake)[i]? with
  | none => rfl
  | some u => dsimp only [Option.map_some]; rw [List.map_set]; rfl
theorem stepR_k (l : List RT) (i : Nat) : (stepR l i).map (fun r => (r.b, r.dv, r.ds, r.t.ds)) = l.map fun r => (r.b, r.dv, r.ds, r.t.ds) := by
  unfold stepR
  cases hr : l[i]? with
  | none => rfl
  | some r =>
    dsimp only
    have h1 := wakesR_k r.deed.wake (l.set i r.up)
    have h2 := congrArg (List.map fun x : Nat × Value × List Deed × Bool × List (List Nat × Nat) => (x.1, x.2.1, x.2.2.1, x.2.2.2.2)) h1
    rw [List.map_map, List.map_map] at h2
    have h3 : (wakesR (l.set i r.up) r.deed.wake).map (fun r => (r.b, r.dv, r.ds, r.t.ds)) = l.map fun r => (r.b, r.dv, r.ds, r.t.ds) := h2.trans (set_map_same (f := fun r : RT => (r.b, r.dv, r.ds, r.t.ds)) hr rfl)
    cases hu : (wakesR (l.set i r.up) r.deed.wake)[i]? with
    | none => rfl
    | some u =>
      dsimp only
      rw [← h3]
      refine set_map_same (f := fun r : RT => (r.b, r.dv, r.ds, r.t.ds)) hu ?_
      unfold RT.said AT.said
      split
      · rfl
      · split
        · split <;> rfl
        · rfl
theorem RWake_in (W : World) (c : Chunk) (F : List Chunk) (rb : Nat) (s : RS) (n : Nat) (hT : s.rts.length ≤ 100000) :
    SLf Try.prog W 58 [ptr rb, .int .i64 (n : Int)] (c :: (rsC rb s ++ F)) (fun _ σ => σ = c :: (rsC rb { s with rts := wakeR s.rts n } ++ F)) := by
  refine SLf.ent .into (SLf.to (RWake_ok W (c :: F) rb s n hT) ?_)
  rintro v σ rfl
  exact ⟨_, .out, rfl⟩
theorem ROpen_in (W : World) (c : Chunk) (F : List Chunk) (rb : Nat) (s : RS) (hT : s.rts.length ≤ 100000) :
    SLf Try.prog W 54 [ptr rb] (c :: (rsC rb s ++ F)) (fun v σ => v = .int .i64 ((absR s).opens : Int) ∧ σ = c :: (rsC rb s ++ F)) := by
  refine SLf.ent .into (SLf.to (ROpen_ok W (c :: F) rb s hT) ?_)
  rintro v σ ⟨rfl, rfl⟩
  exact ⟨_, .out, rfl, rfl⟩
set_option pp.maxSteps 1000000 in
set_option pp.deepTerms true in
set_option maxHeartbeats 2000000 in
theorem RStep_ok (W : World) (F : List Chunk) (rb : Nat) (s : RS) (i : Nat) (r : RT) (hT : s.rts.length ≤ 100000) (htl : s.told.length ≤ 1000000) (hr : s.rts[i]? = some r) (hd : r.t.done = false) (hok : RTOk W r) (hat : r.t.at_ ≤ 1000000) :
    SLf Try.prog W 89 [ptr rb, .int .i64 (i : Int)] (rsC rb s ++ F) (fun _ σ => ∃ tv', σ = rsC rb { s with tv := tv', told := s.told ++ [i], rts := stepR s.rts i } ++ F) := by
  obtain ⟨pv, Tv, tv, picks, made, told, rts⟩ := s
  dsimp only at hT htl hr ⊢
  have hpl := @ptrL_len rts
  have hpc := ptrL_at hr
  have hlt := (List.getElem?_eq_some_iff.1 hr).1
  have htol := @natL_len told
  have hD := hok.deed.1
  have hrs := hok.rs
  have hfew := hok.few
  have hdl : (r.ds.map Deed.cells).length = r.ds.length := List.length_map ..
  have hdv : Reads W (rts.map rtC ++ F) ⟨r.b, 0, none⟩ r.dv := Reads.blk (Sel.app (Sel.many (f := rtC) hr)) rfl
  have hav : Reads W (rts.map rtC ++ F) ⟨r.b, 1, none⟩ (.int .i64 (r.t.at_ : Int)) := Reads.blk (Sel.app (Sel.many (f := rtC) hr)) rfl
  have hsr : stepR rts i = match (wakesR (rts.set i r.up) r.deed.wake)[i]? with
    | none => rts
    | some u => (wakesR (rts.set i r.up) r.deed.wake).set i (u.said r.deed.ans) := by unfold stepR; rw [hr]
  rw [hsr]
  have hdd : r.deed = (r.ds[r.t.at_]?).getD lastDeed := rfl
  refine SLf.enter Try.func89 rfl (Nat.le_of_ble_eq_true rfl) ?_
  simp only [rsC, List.cons_append]
  generalize r.deed = D at hD hdd ⊢
  (repeat' (first | (first | refine SLl.nil ?_ | ((show SLl _ _ _ _ _ (⟨⟨_, _, _, _, _, _⟩, _, _⟩ :: _) _ _ _); first | refine SLl.ev rfl rfl rfl rfl ?_ | ((show SLl _ _ _ _ _ (⟨⟨_, .load _ _, _, _, _, _⟩, _, _⟩ :: _) _ _ _); (refine SLl.rdSeq rfl rfl (Rd.load rfl rfl (by (first | (apply Reads.blk; (· (repeat (apply Sel.here))); (· rfl)) | (apply Reads.row; (· (repeat (first | apply Sel.here | apply Sel.there))); (· (assumption)); (· rfl))))) ?_)) | ((show SLl _ _ _ _ _ (⟨⟨_, .fieldAddr _ _ _, _, _, _, _⟩, _, _⟩ :: _) _ _ _); (refine SLl.pu rfl rfl rfl (Pu.fieldAddr rfl) ?_)) | ((show SLl _ _ _ _ _ (⟨⟨_, .indexAddr _ _ _, _, _, _, _⟩, _, _⟩ :: _) _ _ _); (refine SLl.rdSeq rfl rfl (Rd.indexAddr rfl rfl (by ((apply Len.row; (· (repeat (first | apply Sel.here | apply Sel.there)))))) (by (rfl)) (by omega)) ?_)))) | (first | refine SLc.seq ?_ | refine SLc.region rfl ?_)))
  refine SLl.seq rfl rfl (SLo.buildSliceE (natL [i]) (by decide) (by decide) rfl (by (repeat (first | exact CellsW.nil | (apply CellsW.cons; (· (exact Cel.one (by (exact One.lit rfl)))))))) natL_one rfl (by rfl) ?_)
  intro nv hnv
  refine SLl.seq rfl rfl (SLo.append (es := natL told) (ys := natL [i]) (by rfl) (by omega) rfl rfl (by (repeat (first | apply Sel.here | apply Sel.there))) (Src.row .here natL_one) natL_ones (by simp only [natL_len, List.length_singleton] at *; omega) (by simp only [natL_len, List.length_singleton] at *; omega) ?_)
  intro tv' htv
  have hne : natL told ++ natL [i] = natL (told ++ [i]) := natL_app
  rw [hne]
  (repeat' (first | (first | refine SLl.nil ?_ | ((show SLl _ _ _ _ _ (⟨⟨_, _, _, _, _, _⟩, _, _⟩ :: _) _ _ _); first | refine SLl.ev rfl rfl rfl rfl ?_ | ((show SLl _ _ _ _ _ (⟨⟨_, .fieldAddr _ _ _, _, _, _, _⟩, _, _⟩ :: _) _ _ _); (refine SLl.pu rfl rfl rfl (Pu.fieldAddr rfl) ?_)) | ((show SLl _ _ _ _ _ (⟨⟨_, .store _ _ _, _, _, _, _⟩, _, _⟩ :: _) _ _ _); (first | (refine SLl.seq0 rfl (SLo.store rfl rfl rfl (by (exact One.len (by ((apply Len.row; (· (repeat (apply Sel.here)))))))) (by ((apply Wr.blk; (· (repeat (first | apply Upd.here | apply Upd.there))); (· exact Nat.le_of_ble_eq_true rfl)))) ?_)) | (refine SLl.seq0 rfl (SLo.storeN rfl rfl rfl (by (repeat' (first | exact trivial | (apply And.intro; (· (exact One.lit rfl)))))) (Nat.le_of_ble_eq_true rfl) (by (repeat (apply Upd.here))) ?_)))) | ((show SLl _ _ _ _ _ (⟨⟨_, .alloc _, _, _, _, _⟩, _, _⟩ :: _) _ _ _); refine SLl.seq rfl rfl (SLo.alloc ?_); intro b) | ((show SLl _ _ _ _ _ (⟨⟨_, .build _ _, _, _, _, _⟩, _, _⟩ :: _) _ _ _); refine SLl.rdSeq rfl rfl (Rd.build rfl (by (repeat (first | exact CellsW.nil | (apply CellsW.cons; (· (exact Cel.one (by (exact One.lit rfl)))))))) (by rfl)) ?_))) | (first | refine SLc.seq ?_ | refine SLc.region rfl ?_)))
  refine SLc.weaken (e' := [(5, ptr b), (4, ptr r.b), (1, .int .i64 i), (0, ptr rb)]) (σ' := .blk b 140 [.slice none 0 0, .int .u8 3] :: .blk rb 75 [pv, Tv, .int .i64 (made : Int), tv'] :: .row Tv 82 1 (ptrL rts) :: .row tv' 3 1 (natL (told ++ [i])) :: (rts.map rtC ++ F)) (by (repeat' (first | exact trivial | apply And.intro | rfl))) ?_ ?_
  · exact .cons (by (repeat (apply Sel.here))) (.cons (by (repeat (first | apply Sel.here | apply Sel.there))) (.cons (by (repeat (first | apply Sel.here | apply Sel.there))) (.cons (by (repeat (apply Sel.here))) (.skip .refl))))
  have hDo := hD.one
  have hDr := hD.rs
  have hDf := hD.few
  have hDa := hD.ans
  refine SLc.join4 (fun e ds σ => ds = [] ∧ Sub [(5, ptr b), (4, ptr r.b), (1, .int .i64 i), (0, ptr rb)] e ∧ Ent σ (.blk b 140 [D.wv, .int .u8 (D.ans : Int)] :: .blk rb 75 [pv, Tv, .int .i64 (made : Int), tv'] :: .row Tv 82 1 (ptrL rts) :: .row tv' 3 1 (natL (told ++ [i])) :: (rts.map rtC ++ F))) ?_ ?_
  · refine SLc.draws (rts.map rtC ++ F) [(0, .take), (1, .take), (2, .take), (3, .take), (4, .take), (5, .take), (6, .take), (7, .take), (8, .take), (9, .take)] mixed (by kernel_rfl) (.skip (.skip (.skip (.skip .refl)))) ?_
    (repeat' (first | (first | refine SLl.nil ?_ | ((show SLl _ _ _ _ _ (⟨⟨_, _, _, _, _, _⟩, _, _⟩ :: _) _ _ _); first | refine SLl.ev rfl rfl rfl rfl ?_ | ((show SLl _ _ _ _ _ (⟨⟨_, .load _ _, _, _, _, _⟩, _, _⟩ :: _) _ _ _); (refine SLl.rdTake rfl rfl (Rd.load rfl rfl (by (exact Reads.mono (by assumption) (by (repeat' (exact Ent.refl)))))) ?_)) | ((show SLl _ _ _ _ _ (⟨⟨_, .fieldAddr _ _ _, _, _, _, _⟩, _, _⟩ :: _) _ _ _); (refine SLl.pu rfl rfl rfl (Pu.fieldAddr rfl) ?_)) | ((show SLl _ _ _ _ _ (⟨⟨_, .call ⟨.builtin .len, _, _⟩, _, _, _, _⟩, _, _⟩ :: _) _ _ _); refine SLl.rdTake rfl rfl (Rd.len rfl (by ((apply Len.rs; exact Rs.mono (by assumption) (by (repeat' (exact Ent.drop))))))) ?_) | ((show SLl _ _ _ _ _ (⟨⟨_, .binOp _ _ _ _ _, _, _, _, _⟩, _, _⟩ :: _) _ _ _); ((refine SLl.cmp rfl rfl rfl rfl rfl rfl ?_ ?_ <;> intro hq <;> simp only [cmpP] at hq <;> try (fail)))))) | (first | refine SLc.condT rfl ?_ | refine SLc.condF rfl ?_ | refine SLc.skip ?_)))
    · have hx : r.ds[r.t.at_]? = some (r.ds[r.t.at_]'(by omega)) := List.getElem?_eq_getElem (by omega)
      rw [hx, Option.getD_some] at hdd
      have hxc : (r.ds.map Deed.cells)[r.t.at_]? = some [D.wv, .int .u8 (D.ans : Int)] := by rw [List.getElem?_map, hx, ← hdd]; rfl
      refine SLc.draws (rts.map rtC ++ F) [(0, .take), (1, .take), (2, .take), (3, .take), (4, .take), (5, .take), (6, .take), (7, .take), (8, .take), (9, .take), (10, .eff false)] mixed (by kernel_rfl) (.skip (.skip (.skip (.skip .refl)))) ?_
      (repeat' ((((show SLl _ _ _ _ _ (⟨⟨_, _, _, _, _, _⟩, _, _⟩ :: _) _ _ _); first | refine SLl.ev rfl rfl rfl rfl ?_ | ((show SLl _ _ _ _ _ (⟨⟨_, .load _ _, _, _, _, _⟩, _, _⟩ :: _) _ _ _); (first | refine SLl.rdTake rfl rfl (Rd.load rfl rfl (by (first | (apply Reads.rs; (· exact Rs.mono (by assumption) (by (repeat' (exact Ent.drop)))); (· (assumption)); (· rfl)) | exact Reads.mono (by assumption) (by (repeat' (exact Ent.refl)))))) ?_ | refine SLl.rdTake rfl rfl (Rd.loadN rfl rfl (by ((apply ReadsN.rs0; (· exact Rs.mono (by assumption) (by (repeat' (exact Ent.drop)))); (· (assumption))))) (by rfl)) ?_)) | ((show SLl _ _ _ _ _ (⟨⟨_, .fieldAddr _ _ _, _, _, _, _⟩, _, _⟩ :: _) _ _ _); (refine SLl.pu rfl rfl rfl (Pu.fieldAddr rfl) ?_)) | ((show SLl _ _ _ _ _ (⟨⟨_, .indexAddr _ _ _, _, _, _, _⟩, _, _⟩ :: _) _ _ _); (refine SLl.rdTake rfl rfl (Rd.indexAddr rfl rfl (by ((apply Len.rs; exact Rs.mono (by assumption) (by (repeat' (exact Ent.drop)))))) (by (rfl)) (by omega)) ?_))))))
      refine SLl.eff0 rfl (SLo.storeN rfl rfl rfl (by (repeat' (first | exact trivial | (apply And.intro; (· (first | exact One.lit rfl | exact One.lit (by assumption))))))) (Nat.le_of_ble_eq_true rfl) .here ?_)
      refine And.intro (fun h => by cases h) ?_
      (repeat' ((refine SLl.nil ?_)))
      exact And.intro rfl (And.intro (by (repeat' (first | exact trivial | apply And.intro | rfl))) .refl)
    · have hno : r.ds[r.t.at_]? = none := List.getElem?_eq_none (by omega)
      rw [hno, Option.getD_none] at hdd
      subst hdd
      exact And.intro rfl (And.intro (by (repeat' (first | exact trivial | apply And.intro | rfl))) .refl)
  rintro e ds' σ ⟨rfl, hsub, hent⟩
  refine SLc.weaken hsub hent ?_
  clear hsub hent
  (repeat' (first | (((show SLl _ _ _ _ _ (⟨⟨_, _, _, _, _, _⟩, _, _⟩ :: _) _ _ _); first | refine SLl.ev rfl rfl rfl rfl ?_ | ((show SLl _ _ _ _ _ (⟨⟨_, .load _ _, _, _, _, _⟩, _, _⟩ :: _) _ _ _); (refine SLl.rdSeq rfl rfl (Rd.load rfl rfl (by (exact Reads.mono (by assumption) (by (repeat' (first | exact Ent.refl | apply Ent.skip)))))) ?_)) | ((show SLl _ _ _ _ _ (⟨⟨_, .fieldAddr _ _ _, _, _, _, _⟩, _, _⟩ :: _) _ _ _); (refine SLl.pu rfl rfl rfl (Pu.fieldAddr rfl) ?_)) | ((show SLl _ _ _ _ _ (⟨⟨_, .binOp _ _ _ _ _, _, _, _, _⟩, _, _⟩ :: _) _ _ _); (refine SLl.pu rfl rfl rfl (Pu.add rfl rfl (IntWalk.i64_in _ (by omega))) ?_)))) | (first | refine SLc.seq ?_ | refine SLc.region rfl ?_)))
  refine SLl.seq0 rfl (SLo.store rfl rfl rfl (One.lit rfl) (Wr.blk (.there (.there (.there (.there (Upd.app (Upd.many (f := rtC) (p' := r.up) hr)))))) (Nat.le_of_ble_eq_true rfl)) ?_)
  have hpu : ptrL rts = ptrL (rts.set i r.up) := (set_map_same (f := fun r : RT => [ptr r.b]) (b := r.up) hr rfl).symm
  have hlu : (rts.set i r.up).length ≤ 100000 := by rw [List.length_set]; exact hT
  have hru : (rts.set i r.up)[i]? = some r.up := List.getElem?_set_self hlt
  have hkk := wakesR_k D.wake (rts.set i r.up)
  have hwl := fun ns => wakesR_len ns (rts.set i r.up)
  rw [hpu]
  generalize rts.set i r.up = l1 at *
  clear hpu hpc hdv hav hsr hpl
  (repeat' (first | (first | refine SLl.nil ?_ | ((show SLl _ _ _ _ _ (⟨⟨_, _, _, _, _, _⟩, _, _⟩ :: _) _ _ _); refine SLl.ev rfl rfl rfl rfl ?_)) | (first | refine SLc.seq ?_ | refine SLc.region rfl ?_ | refine SLc.block ?_)))
  have hul := @u8L_len D.wake
  refine SLc.loop (ι := Nat) (fun k => [(6, .int .i64 k), (5, ptr b), (4, ptr r.b), (0, ptr rb)]) (fun k => .blk b 140 [D.wv, .int .u8 (D.ans : Int)] :: (rsC rb ⟨pv, Tv, tv', picks, made, told ++ [i], wakesR l1 (D.wake.take k)⟩ ++ F)) (fun k => k ≤ D.wake.length) (fun k => D.wake.length - k) 0 (Nat.zero_le _) (by (repeat' (first | exact trivial | apply And.intro | rfl))) .refl ?_
  intro k hk
  by_cases hkl : k < D.wake.length
  · have hx : D.wake[k]? = some D.wake[k] := List.getElem?_eq_getElem hkl
    have htk : D.wake.take (k + 1) = D.wake.take k ++ [D.wake[k]] := List.take_succ_eq_append_getElem hkl
    have hx2 := hD.wake _ (List.getElem_mem hkl)
    generalize D.wake[k] = x at hx htk hx2
    have hxc := u8L_at hx
    (repeat' (first | (first | refine SLl.nil ?_ | ((show SLl _ _ _ _ _ (⟨⟨_, _, _, _, _, _⟩, _, _⟩ :: _) _ _ _); first | refine SLl.ev rfl rfl rfl rfl ?_ | ((show SLl _ _ _ _ _ (⟨⟨_, .load _ _, _, _, _, _⟩, _, _⟩ :: _) _ _ _); (refine SLl.rdSeq rfl rfl (Rd.load rfl rfl (by (first | (apply Reads.blk; (· (repeat (apply Sel.here))); (· rfl)) | (apply Reads.rs; (· exact Rs.mono (by assumption) (by (repeat' (exact Ent.drop)))); (· (assumption)); (· rfl))))) ?_)) | ((show SLl _ _ _ _ _ (⟨⟨_, .fieldAddr _ _ _, _, _, _, _⟩, _, _⟩ :: _) _ _ _); (refine SLl.pu rfl rfl rfl (Pu.fieldAddr rfl) ?_)) | ((show SLl _ _ _ _ _ (⟨⟨_, .indexAddr _ _ _, _, _, _, _⟩, _, _⟩ :: _) _ _ _); (refine SLl.rdSeq rfl rfl (Rd.indexAddr rfl rfl (by ((apply Len.rs; exact Rs.mono (by assumption) (by (repeat' (exact Ent.drop)))))) (by (rfl)) (by omega)) ?_)) | ((show SLl _ _ _ _ _ (⟨⟨_, .call ⟨.builtin .len, _, _⟩, _, _, _, _⟩, _, _⟩ :: _) _ _ _); refine SLl.rdSeq rfl rfl (Rd.len rfl (by ((apply Len.rs; exact Rs.mono (by assumption) (by (repeat' (exact Ent.drop))))))) ?_) | ((show SLl _ _ _ _ _ (⟨⟨_, .binOp _ _ _ _ _, _, _, _, _⟩, _, _⟩ :: _) _ _ _); ((refine SLl.cmp rfl rfl rfl rfl rfl rfl ?_ ?_ <;> intro hq <;> simp only [cmpP] at hq <;> try ((exfalso; omega))))))) | (first | refine SLc.seq ?_ | refine SLc.region rfl ?_ | refine SLc.condT rfl ?_ | refine SLc.block ?_ | refine SLc.skip ?_)))
    refine SLl.pu rfl rfl rfl (Pu.convInt rfl (IntWalk.i64_in _ (by omega))) ?_
    refine SLl.seq rfl rfl (SLo.call plain58 rfl (SLf.mono (RWake_in W _ F rb ⟨pv, Tv, tv', picks, made, told ++ [i], wakesR l1 (D.wake.take k)⟩ x (by dsimp only; rw [hwl]; exact hlu)) ?_))
    rintro v σ rfl
    dsimp only
    rw [← wakesR_snoc, ← htk]
    (repeat' (first | (first | refine SLl.nil ?_ | ((show SLl _ _ _ _ _ (⟨⟨_, _, _, _, _, _⟩, _, _⟩ :: _) _ _ _); first | refine SLl.ev rfl rfl rfl rfl ?_ | ((show SLl _ _ _ _ _ (⟨⟨_, .binOp _ _ _ _ _, _, _, _, _⟩, _, _⟩ :: _) _ _ _); (refine SLl.pu rfl rfl rfl (Pu.add rfl rfl (IntWalk.i64_in _ (by omega))) ?_)))) | (refine SLc.region rfl ?_)))
    exact And.intro rfl (Exists.intro (k + 1) (And.intro (by omega) (And.intro (by omega) (And.intro (by (repeat' (first | exact trivial | apply And.intro | rfl))) .refl))))
  have htk : D.wake.take k = D.wake := List.take_of_length_le (by omega)
  rw [htk]
  have hil : i < (wakesR l1 D.wake).length := by rw [hwl]; exact (List.getElem?_eq_some_iff.1 hru).1
  have hu : (wakesR l1 D.wake)[i]? = some (wakesR l1 D.wake)[i] := List.getElem?_eq_getElem hil
  generalize wakesR l1 D.wake = l2 at hkk hil hu ⊢
  generalize l2[i] = u at hu
  have huk : u.k = r.up.k := by
    have h1 : (l2.map RT.k)[i]? = some u.k := by rw [List.getElem?_map, hu]; rfl
    rw [hkk, List.getElem?_map, hru] at h1
    simpa using h1.symm
  have hub : u.b = r.b := congrArg Prod.fst huk
  have hud : u.t.done = false := (congrArg (fun x => x.2.2.2.1) huk).trans hd
  rw [← hub, hu]
  have hpu2 : ∀ u' : RT, u'.b = u.b → ptrL (l2.set i u') = ptrL l2 := fun u' h => set_map_same (f := fun r : RT => [ptr r.b]) hu (by rw [h])
  have hwo : Reads W (l2.map rtC ++ F) ⟨u.b, 3, none⟩ (.bool u.t.woken) := Reads.blk (Sel.app (Sel.many (f := rtC) hu)) rfl
  clear hub huk hkk hru hwl hlu htk
  dsimp only
  rw [hpu2 (u.said D.ans) rfl]
  clear hpu2
  simp only [rsC, List.cons_append]
  obtain ⟨ub, udv, uds, ⟨wa, dn, wo, at_, ads⟩⟩ := u
  dsimp only at hud hwo
  subst hud
  (repeat' (first | (first | refine SLl.nil ?_ | ((show SLl _ _ _ _ _ (⟨⟨_, _, _, _, _, _⟩, _, _⟩ :: _) _ _ _); first | refine SLl.ev rfl rfl rfl rfl ?_ | ((show SLl _ _ _ _ _ (⟨⟨_, .load _ _, _, _, _, _⟩, _, _⟩ :: _) _ _ _); (refine SLl.rdSeq rfl rfl (Rd.load rfl rfl (by ((apply Reads.blk; (· (repeat (apply Sel.here))); (· rfl))))) ?_)) | ((show SLl _ _ _ _ _ (⟨⟨_, .fieldAddr _ _ _, _, _, _, _⟩, _, _⟩ :: _) _ _ _); (refine SLl.pu rfl rfl rfl (Pu.fieldAddr rfl) ?_)) | ((show SLl _ _ _ _ _ (⟨⟨_, .call ⟨.builtin .len, _, _⟩, _, _, _, _⟩, _, _⟩ :: _) _ _ _); refine SLl.rdSeq rfl rfl (Rd.len rfl (by ((apply Len.rs; exact Rs.mono (by assumption) (by (repeat' (exact Ent.drop))))))) ?_) | ((show SLl _ _ _ _ _ (⟨⟨_, .binOp _ _ _ _ _, _, _, _, _⟩, _, _⟩ :: _) _ _ _); ((refine SLl.cmp rfl rfl rfl rfl rfl rfl ?_ ?_ <;> intro hq <;> simp only [cmpP] at hq <;> try ((exfalso; omega))))))) | (first | refine SLc.seq ?_ | refine SLc.region rfl ?_ | refine SLc.condF rfl ?_ | refine SLc.exit ?_)))
  refine SLl.pu rfl rfl rfl (Pu.convInt rfl (IntWalk.i64_in _ (by omega))) ?_
  by_cases h3 : D.ans = 3
  · rw [h3]
    (repeat' (first | (first | refine SLl.nil ?_ | ((show SLl _ _ _ _ _ (⟨⟨_, _, _, _, _, _⟩, _, _⟩ :: _) _ _ _); first | refine SLl.ev rfl rfl rfl rfl ?_ | ((show SLl _ _ _ _ _ (⟨⟨_, .fieldAddr _ _ _, _, _, _, _⟩, _, _⟩ :: _) _ _ _); (refine SLl.pu rfl rfl rfl (Pu.fieldAddr rfl) ?_)) | ((show SLl _ _ _ _ _ (⟨⟨_, .binOp _ _ _ _ _, _, _, _, _⟩, _, _⟩ :: _) _ _ _); ((refine SLl.cmp rfl rfl rfl rfl rfl rfl ?_ ?_ <;> intro hq <;> simp only [cmpP] at hq <;> try ((exfalso; omega))))))) | (first | refine SLc.seq ?_ | refine SLc.region rfl ?_ | refine SLc.condT rfl ?_ | refine SLc.block ?_)))
    refine SLl.seq0 rfl (SLo.store rfl rfl rfl (One.lit rfl) (Wr.blk (.there (.there (.there (.there (Upd.app (Upd.many (f := rtC) (p' := ⟨ub, udv, uds, ⟨wa, true, wo, at_, ads⟩⟩) hu)))))) (Nat.le_of_ble_eq_true rfl)) ?_)
    (repeat' ((refine SLl.nil ?_)))
    exact And.intro rfl (Exists.intro _ (Exists.intro _ (And.intro rfl (And.intro (.skip .refl) (Exists.intro tv' rfl)))))
  by_cases h2 : D.ans = 2
  · rw [h2]
    cases wo with
    | true =>
      (repeat' (first | (first | refine SLl.nil ?_ | ((show SLl _ _ _ _ _ (⟨⟨_, _, _, _, _, _⟩, _, _⟩ :: _) _ _ _); first | refine SLl.ev rfl rfl rfl rfl ?_ | ((show SLl _ _ _ _ _ (⟨⟨_, .load _ _, _, _, _, _⟩, _, _⟩ :: _) _ _ _); (refine SLl.rdSeq rfl rfl (Rd.load rfl rfl (by (exact Reads.mono (by assumption) (by (repeat' (first | exact Ent.refl | apply Ent.skip)))))) ?_)) | ((show SLl _ _ _ _ _ (⟨⟨_, .fieldAddr _ _ _, _, _, _, _⟩, _, _⟩ :: _) _ _ _); (refine SLl.pu rfl rfl rfl (Pu.fieldAddr rfl) ?_)) | ((show SLl _ _ _ _ _ (⟨⟨_, .binOp _ _ _ _ _, _, _, _, _⟩, _, _⟩ :: _) _ _ _); ((refine SLl.cmp rfl rfl rfl rfl rfl rfl ?_ ?_ <;> intro hq <;> simp only [cmpP] at hq <;> try ((exfalso; omega))))))) | (first | refine SLc.seq ?_ | refine SLc.region rfl ?_ | refine SLc.condT rfl ?_ | refine SLc.condF rfl ?_ | refine SLc.block ?_)))
      refine SLl.seq0 rfl (SLo.store rfl rfl rfl (One.lit rfl) (Wr.blk (.there (.there (.there (.there (Upd.app (Upd.many (f := rtC) (p' := ⟨ub, udv, uds, ⟨wa, false, false, at_, ads⟩⟩) hu)))))) (Nat.le_of_ble_eq_true rfl)) ?_)
      (repeat' ((refine SLl.nil ?_)))
      exact And.intro rfl (Exists.intro _ (Exists.intro _ (And.intro rfl (And.intro (.skip .refl) (Exists.intro tv' rfl)))))
    | false =>
      (repeat' (first | (first | refine SLl.nil ?_ | ((show SLl _ _ _ _ _ (⟨⟨_, _, _, _, _, _⟩, _, _⟩ :: _) _ _ _); first | refine SLl.ev rfl rfl rfl rfl ?_ | ((show SLl _ _ _ _ _ (⟨⟨_, .load _ _, _, _, _, _⟩, _, _⟩ :: _) _ _ _); (refine SLl.rdSeq rfl rfl (Rd.load rfl rfl (by (exact Reads.mono (by assumption) (by (repeat' (first | exact Ent.refl | apply Ent.skip)))))) ?_)) | ((show SLl _ _ _ _ _ (⟨⟨_, .fieldAddr _ _ _, _, _, _, _⟩, _, _⟩ :: _) _ _ _); (refine SLl.pu rfl rfl rfl (Pu.fieldAddr rfl) ?_)) | ((show SLl _ _ _ _ _ (⟨⟨_, .binOp _ _ _ _ _, _, _, _, _⟩, _, _⟩ :: _) _ _ _); ((refine SLl.cmp rfl rfl rfl rfl rfl rfl ?_ ?_ <;> intro hq <;> simp only [cmpP] at hq <;> try ((exfalso; omega))))))) | (first | refine SLc.seq ?_ | refine SLc.region rfl ?_ | refine SLc.condT rfl ?_ | refine SLc.condF rfl ?_ | refine SLc.block ?_)))
      refine SLl.seq0 rfl (SLo.store rfl rfl rfl (One.lit rfl) (Wr.blk (.there (.there (.there (.there (Upd.app (Upd.many (f := rtC) (p' := ⟨ub, udv, uds, ⟨true, false, false, at_, ads⟩⟩) hu)))))) (Nat.le_of_ble_eq_true rfl)) ?_)
      (repeat' ((refine SLl.nil ?_)))
      exact And.intro rfl (Exists.intro _ (Exists.intro _ (And.intro rfl (And.intro (.skip .refl) (Exists.intro tv' rfl)))))
  have e : RT.said D.ans ⟨ub, udv, uds, ⟨wa, false, wo, at_, ads⟩⟩ = ⟨ub, udv, uds, ⟨wa, false, wo, at_, ads⟩⟩ := by simp [RT.said, AT.said, h3, h2]
  rw [e, set_same hu]
  (repeat' (first | (first | refine SLl.nil ?_ | ((show SLl _ _ _ _ _ (⟨⟨_, _, _, _, _, _⟩, _, _⟩ :: _) _ _ _); first | refine SLl.ev rfl rfl rfl rfl ?_ | ((show SLl _ _ _ _ _ (⟨⟨_, .binOp _ _ _ _ _, _, _, _, _⟩, _, _⟩ :: _) _ _ _); ((refine SLl.cmp rfl rfl rfl rfl rfl rfl ?_ ?_ <;> intro hq <;> simp only [cmpP] at hq <;> try ((exfalso; omega))))))) | (first | refine SLc.seq ?_ | refine SLc.region rfl ?_ | refine SLc.condF rfl ?_ | refine SLc.block ?_ | refine SLc.skip ?_)))
  exact And.intro rfl (Exists.intro _ (Exists.intro _ (And.intro rfl (And.intro (.skip .refl) (Exists.intro tv' rfl)))))
end Go.Sl
