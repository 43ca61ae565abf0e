/- backstitchref15: the reference's scheduler: its memory; Go, Wake, Open, runnable. -/
import Derived.Test.YtloeicnadchkpaaIni15
namespace Go.Sl
open Go.Proofs
attribute [local irreducible] SLc SLl SLo SLf Pu Rd

theorem Upd.many {α : Type} {f : α → Chunk} : ∀ {l : List α} {k : Nat} {p p' : α}, l[k]? = some p → Upd (f p) (f p') (l.map f) ((l.set k p').map f)
  | [], _, _, _, h => by simp at h
  | x :: l, 0, p, p', h => by simp at h; subst h; exact .here
  | x :: l, k + 1, p, p', h => by simp at h; exact .there (Upd.many h)
theorem Upd.app {c d : Chunk} {l l' F : List Chunk} (h : Upd c d l l') : Upd c d (l ++ F) (l' ++ F) := by
  induction h with
  | here => exact .here
  | there _ ih => exact .there ih
structure RT where
  b : Nat
  dv : Value
  ds : List Deed
  t : AT
def stA (t : AT) : Int := if t.done then 3 else if t.waits then 2 else 1
def rtC (r : RT) : Chunk := .blk r.b 81 [r.dv, .int .i64 (r.t.at_ : Int), .int .i64 (stA r.t), .bool r.t.woken]
def ptrL (l : List RT) : List (List Value) := l.map fun r => [ptr r.b]
theorem ptrL_len {l : List RT} : (ptrL l).length = l.length := by simp [ptrL]
theorem ptrL_at {l : List RT} {k : Nat} {r : RT} (h : l[k]? = some r) : (ptrL l)[k]? = some [ptr r.b] := by simp [ptrL, h]
theorem ptrL_one {l : List RT} : ∀ c ∈ ptrL l, c.length = 1 := fun c hc => by obtain ⟨x, _, rfl⟩ := List.mem_map.1 hc; rfl
theorem ptrL_ones {W : World} {σ : List Chunk} {l : List RT} : ∀ c ∈ ptrL l, ∀ q ∈ c, One W σ q := fun c hc q hq => by
  obtain ⟨x, _, rfl⟩ := List.mem_map.1 hc
  simp only [List.mem_singleton] at hq
  subst hq
  exact One.lit rfl
structure RS where
  pv : Value
  Tv : Value
  tv : Value
  picks : List Nat
  made : Nat
  told : List Nat
  rts : List RT
def rsC (rb : Nat) (s : RS) : List Chunk := .blk rb 75 [s.pv, s.Tv, .int .i64 (s.made : Int), s.tv] :: .row s.Tv 82 1 (ptrL s.rts) :: .row s.tv 3 1 (natL s.told) :: s.rts.map rtC
def absR (s : RS) : AS := ⟨s.picks, s.rts.map RT.t, s.made, s.told⟩
def wakeR (l : List RT) (n : Nat) : List RT := match l[n]? with
  | some r => l.set n { r with t := r.t.wake }
  | none => l
theorem wakeR_t (l : List RT) (n : Nat) : (wakeR l n).map RT.t = wakeL (l.map RT.t) n := by
  unfold wakeR wakeL
  rw [List.getElem?_map]
  cases h : l[n]? with
  | none => rfl
  | some r => simp only [Option.map_some, List.map_set]
theorem wakeR_ptr (l : List RT) (n : Nat) : ptrL (wakeR l n) = ptrL l := by
  unfold wakeR ptrL
  split
  · rename_i r hr; exact set_map_same hr rfl
  · rfl
theorem wakeR_len (l : List RT) (n : Nat) : (wakeR l n).length = l.length := by
  unfold wakeR
  split <;> simp
theorem RGo_ok (W : World) (F : List Chunk) (rb : Nat) (s : RS) (dv : Value) (ds : List Deed) (hdo : dv.oneCell' = true) (hn : s.rts.length < 128) :
    SLf Try.prog W 52 [ptr rb, dv] (rsC rb s ++ F) (fun r σ => ∃ b Tv', r = .tuple #[.int .i64 (s.rts.length : Int), .int .i64 0] ∧ σ = rsC rb { s with Tv := Tv', rts := s.rts ++ [⟨b, dv, ds, ⟨false, false, false, 0, ds.map Deed.abs⟩⟩] } ++ F) := by
  have hpl := @ptrL_len s.rts
  refine SLf.enter Try.func52 rfl (Nat.le_of_ble_eq_true rfl) ?_
  simp only [rsC, List.cons_append]
  (repeat' (first | (first | refine SLl.nil ?_ | ((show SLl _ _ _ _ _ (⟨⟨_, _, _, _, _, _⟩, _, _⟩ :: _) _ _ _); first | refine SLl.ev rfl rfl rfl rfl ?_ | ((show SLl _ _ _ _ _ (⟨⟨_, .load _ _, _, _, _, _⟩, _, _⟩ :: _) _ _ _); (refine SLl.rdSeq rfl rfl (Rd.load rfl rfl (by ((apply Reads.blk; (· (repeat (apply Sel.here))); (· rfl))))) ?_)) | ((show SLl _ _ _ _ _ (⟨⟨_, .fieldAddr _ _ _, _, _, _, _⟩, _, _⟩ :: _) _ _ _); (refine SLl.pu rfl rfl rfl (Pu.fieldAddr rfl) ?_)) | ((show SLl _ _ _ _ _ (⟨⟨_, .call ⟨.builtin .len, _, _⟩, _, _, _, _⟩, _, _⟩ :: _) _ _ _); refine SLl.rdSeq rfl rfl (Rd.len rfl (by ((apply Len.row; (· (repeat (first | apply Sel.here | apply Sel.there))))))) ?_) | ((show SLl _ _ _ _ _ (⟨⟨_, .binOp _ _ _ _ _, _, _, _, _⟩, _, _⟩ :: _) _ _ _); ((refine SLl.cmp rfl rfl rfl rfl rfl rfl ?_ ?_ <;> intro hq <;> simp only [cmpP] at hq <;> try ((exfalso; omega))))) | ((show SLl _ _ _ _ _ (⟨⟨_, .box _ _, _, _, _, _⟩, _, _⟩ :: _) _ _ _); refine SLl.seq rfl rfl (SLo.boxC rfl (by (exact Cel.agg)) ?_); intro b) | ((show SLl _ _ _ _ _ (⟨⟨_, .build _ _, _, _, _, _⟩, _, _⟩ :: _) _ _ _); refine SLl.rdSeq rfl rfl (Rd.build rfl (by (repeat (first | exact CellsW.nil | (apply CellsW.cons; (· (exact Cel.one (by (first | exact One.lit rfl | exact One.lit (by assumption))))))))) (by rfl)) ?_))) | (first | refine SLc.seq ?_ | refine SLc.region rfl ?_ | refine SLc.condF rfl ?_ | refine SLc.skip ?_)))
  refine SLl.seq rfl rfl (SLo.buildSliceE [[ptr b]] (by decide) (by decide) rfl (by (repeat (first | exact CellsW.nil | (apply CellsW.cons; (· (exact Cel.one (by (exact One.lit rfl)))))))) (by simp) rfl (by rfl) ?_)
  intro nv hnv
  refine SLl.seq rfl rfl (SLo.append (es := ptrL s.rts) (ys := [[ptr b]]) (by rfl) (by omega) rfl rfl (by (repeat (first | apply Sel.here | apply Sel.there))) (Src.row .here (by simp)) (One.lits (by simp [Value.oneCell'])) (by simp only [List.length_singleton]; omega) (by simp only [List.length_singleton]; omega) ?_)
  intro Tv' hTv
  have hpl2 : (ptrL s.rts ++ [[ptr b]]).length = s.rts.length + 1 := by simp [ptrL]
  have hpe : ptrL s.rts ++ [[ptr b]] = ptrL (s.rts ++ [⟨b, dv, ds, ⟨false, false, false, 0, ds.map Deed.abs⟩⟩]) := by simp [ptrL]
  rw [hpe] at hpl2 ⊢
  (repeat' (first | (first | refine SLl.nil ?_ | ((show SLl _ _ _ _ _ (⟨⟨_, _, _, _, _, _⟩, _, _⟩ :: _) _ _ _); first | refine SLl.ev rfl rfl rfl rfl ?_ | ((show SLl _ _ _ _ _ (⟨⟨_, .load _ _, _, _, _, _⟩, _, _⟩ :: _) _ _ _); (refine SLl.rdSeq rfl rfl (Rd.load rfl rfl (by ((apply Reads.blk; (· (repeat (first | apply Sel.here | apply Sel.there))); (· rfl))))) ?_)) | ((show SLl _ _ _ _ _ (⟨⟨_, .fieldAddr _ _ _, _, _, _, _⟩, _, _⟩ :: _) _ _ _); (refine SLl.pu rfl rfl rfl (Pu.fieldAddr rfl) ?_)) | ((show SLl _ _ _ _ _ (⟨⟨_, .call ⟨.builtin .len, _, _⟩, _, _, _, _⟩, _, _⟩ :: _) _ _ _); refine SLl.rdSeq rfl rfl (Rd.len rfl (by ((apply Len.row; (· (repeat (apply Sel.here))))))) ?_) | ((show SLl _ _ _ _ _ (⟨⟨_, .binOp _ _ _ _ _, _, _, _, _⟩, _, _⟩ :: _) _ _ _); (refine SLl.pu rfl rfl rfl (Pu.sub rfl rfl (IntWalk.i64_in _ (by omega))) ?_)) | ((show SLl _ _ _ _ _ (⟨⟨_, .store _ _ _, _, _, _, _⟩, _, _⟩ :: _) _ _ _); ((refine SLl.seq0 rfl (SLo.store rfl rfl rfl (by (exact One.len (by ((apply Len.row; (· (repeat (apply Sel.here)))))))) (by ((apply Wr.blk; (· (repeat (first | apply Upd.here | apply Upd.there))); (· exact Nat.le_of_ble_eq_true rfl)))) ?_)))))) | (first | refine SLc.seq ?_ | refine SLc.region rfl ?_ | refine SLc.ret ?_)))
  refine And.intro rfl (Exists.intro _ (Exists.intro _ (And.intro rfl (And.intro ?_ (Exists.intro b (Exists.intro Tv' (And.intro (congrArg (fun z : Int => Value.tuple #[.int .i64 z, .int .i64 0]) (by omega)) rfl)))))))
  refine .cons (by (repeat (first | apply Sel.here | apply Sel.there))) (.cons (by (repeat (apply Sel.here))) (.cons (by (repeat (first | apply Sel.here | apply Sel.there))) ?_))
  have e : (s.rts ++ [(⟨b, dv, ds, ⟨false, false, false, 0, ds.map Deed.abs⟩⟩ : RT)]).map rtC ++ F = s.rts.map rtC ++ (rtC ⟨b, dv, ds, ⟨false, false, false, 0, ds.map Deed.abs⟩⟩ :: F) := by simp
  rw [e]
  exact .skip .into
theorem RWake_ok (W : World) (F : List Chunk) (rb : Nat) (s : RS) (n : Nat) (hT : s.rts.length ≤ 100000) :
    SLf Try.prog W 58 [ptr rb, .int .i64 (n : Int)] (rsC rb s ++ F) (fun _ σ => σ = rsC rb { s with rts := wakeR s.rts n } ++ F) := by
  have hpl := @ptrL_len s.rts
  refine SLf.enter Try.func58 rfl (Nat.le_of_ble_eq_true rfl) ?_
  simp only [rsC, List.cons_append]
  rw [wakeR_ptr]
  cases hr : s.rts[n]? with
  | none =>
    have hge : s.rts.length ≤ n := List.getElem?_eq_none_iff.1 hr
    have hw : wakeR s.rts n = s.rts := by simp [wakeR, hr]
    rw [hw]
    (repeat' (first | (first | refine SLl.nil ?_ | ((show SLl _ _ _ _ _ (⟨⟨_, _, _, _, _, _⟩, _, _⟩ :: _) _ _ _); first | refine SLl.ev rfl rfl rfl rfl ?_ | ((show SLl _ _ _ _ _ (⟨⟨_, .load _ _, _, _, _, _⟩, _, _⟩ :: _) _ _ _); (refine SLl.rdSeq rfl rfl (Rd.load rfl rfl (by ((apply Reads.blk; (· (repeat (apply Sel.here))); (· rfl))))) ?_)) | ((show SLl _ _ _ _ _ (⟨⟨_, .fieldAddr _ _ _, _, _, _, _⟩, _, _⟩ :: _) _ _ _); (refine SLl.pu rfl rfl rfl (Pu.fieldAddr rfl) ?_)) | ((show SLl _ _ _ _ _ (⟨⟨_, .call ⟨.builtin .len, _, _⟩, _, _, _, _⟩, _, _⟩ :: _) _ _ _); refine SLl.rdSeq rfl rfl (Rd.len rfl (by ((apply Len.row; (· (repeat (first | apply Sel.here | apply Sel.there))))))) ?_) | ((show SLl _ _ _ _ _ (⟨⟨_, .binOp _ _ _ _ _, _, _, _, _⟩, _, _⟩ :: _) _ _ _); ((refine SLl.cmp rfl rfl rfl rfl rfl rfl ?_ ?_ <;> intro hq <;> simp only [cmpP] at hq <;> try ((exfalso; omega))))) | refine SLl.skip rfl rfl ?_)) | (first | refine SLc.seq ?_ | refine SLc.region rfl ?_ | refine SLc.condT rfl ?_ | refine SLc.ret ?_)))
    exact And.intro rfl (Exists.intro _ (Exists.intro _ (And.intro rfl (And.intro .refl rfl))))
  | some r =>
    have hlt := (List.getElem?_eq_some_iff.1 hr).1
    have hw : wakeR s.rts n = s.rts.set n { r with t := r.t.wake } := by simp [wakeR, hr]
    rw [hw]
    have hpc := ptrL_at hr
    have hst : Reads W (s.rts.map rtC ++ F) ⟨r.b, 2, none⟩ (.int .i64 (stA r.t)) := Reads.blk (Sel.app (Sel.many (f := rtC) hr)) rfl
    obtain ⟨rbk, dv, ds, ⟨wa, dn, wo, at_, ads⟩⟩ := r
    dsimp only at hst hpc
    cases dn with
    | true =>
      have e : stA ⟨wa, true, wo, at_, ads⟩ = 3 := rfl
      have e2 : AT.wake ⟨wa, true, wo, at_, ads⟩ = ⟨wa, true, wo, at_, ads⟩ := rfl
      rw [e] at hst
      rw [e2, set_same hr]
      (repeat' (first | (first | refine SLl.nil ?_ | ((show SLl _ _ _ _ _ (⟨⟨_, _, _, _, _, _⟩, _, _⟩ :: _) _ _ _); first | refine SLl.ev rfl rfl rfl rfl ?_ | ((show SLl _ _ _ _ _ (⟨⟨_, .load _ _, _, _, _, _⟩, _, _⟩ :: _) _ _ _); (refine SLl.rdSeq rfl rfl (Rd.load rfl rfl (by (first | (apply Reads.blk; (· (repeat (first | apply Sel.here | apply Sel.there))); (· rfl)) | (apply Reads.row; (· (repeat (first | apply Sel.here | apply Sel.there))); (· (assumption)); (· rfl)) | exact Reads.mono (by assumption) (by (repeat' (first | exact Ent.refl | apply Ent.skip)))))) ?_)) | ((show SLl _ _ _ _ _ (⟨⟨_, .fieldAddr _ _ _, _, _, _, _⟩, _, _⟩ :: _) _ _ _); (refine SLl.pu rfl rfl rfl (Pu.fieldAddr rfl) ?_)) | ((show SLl _ _ _ _ _ (⟨⟨_, .indexAddr _ _ _, _, _, _, _⟩, _, _⟩ :: _) _ _ _); (refine SLl.rdSeq rfl rfl (Rd.indexAddr rfl rfl (by ((apply Len.row; (· (repeat (first | apply Sel.here | apply Sel.there)))))) (by (rfl)) (by omega)) ?_)) | ((show SLl _ _ _ _ _ (⟨⟨_, .call ⟨.builtin .len, _, _⟩, _, _, _, _⟩, _, _⟩ :: _) _ _ _); refine SLl.rdSeq rfl rfl (Rd.len rfl (by ((apply Len.row; (· (repeat (first | apply Sel.here | apply Sel.there))))))) ?_) | ((show SLl _ _ _ _ _ (⟨⟨_, .binOp _ _ _ _ _, _, _, _, _⟩, _, _⟩ :: _) _ _ _); ((refine SLl.cmp rfl rfl rfl rfl rfl rfl ?_ ?_ <;> intro hq <;> simp only [cmpP] at hq <;> try (first | exact (hq trivial).elim | (exfalso; omega))))))) | (first | refine SLc.seq ?_ | refine SLc.region rfl ?_ | refine SLc.condT rfl ?_ | refine SLc.ret ?_)))
      exact And.intro rfl (Exists.intro _ (Exists.intro _ (And.intro rfl (And.intro .refl rfl))))
    | false =>
      cases wa with
      | true =>
        have e : stA ⟨true, false, wo, at_, ads⟩ = 2 := rfl
        have e2 : AT.wake ⟨true, false, wo, at_, ads⟩ = ⟨false, false, wo, at_, ads⟩ := by cases wo <;> rfl
        rw [e] at hst
        rw [e2]
        (repeat' (first | (first | refine SLl.nil ?_ | ((show SLl _ _ _ _ _ (⟨⟨_, _, _, _, _, _⟩, _, _⟩ :: _) _ _ _); first | refine SLl.ev rfl rfl rfl rfl ?_ | ((show SLl _ _ _ _ _ (⟨⟨_, .load _ _, _, _, _, _⟩, _, _⟩ :: _) _ _ _); (refine SLl.rdSeq rfl rfl (Rd.load rfl rfl (by (first | (apply Reads.blk; (· (repeat (first | apply Sel.here | apply Sel.there))); (· rfl)) | (apply Reads.row; (· (repeat (first | apply Sel.here | apply Sel.there))); (· (assumption)); (· rfl)) | exact Reads.mono (by assumption) (by (repeat' (first | exact Ent.refl | apply Ent.skip)))))) ?_)) | ((show SLl _ _ _ _ _ (⟨⟨_, .fieldAddr _ _ _, _, _, _, _⟩, _, _⟩ :: _) _ _ _); (refine SLl.pu rfl rfl rfl (Pu.fieldAddr rfl) ?_)) | ((show SLl _ _ _ _ _ (⟨⟨_, .indexAddr _ _ _, _, _, _, _⟩, _, _⟩ :: _) _ _ _); (refine SLl.rdSeq rfl rfl (Rd.indexAddr rfl rfl (by ((apply Len.row; (· (repeat (first | apply Sel.here | apply Sel.there)))))) (by (rfl)) (by omega)) ?_)) | ((show SLl _ _ _ _ _ (⟨⟨_, .call ⟨.builtin .len, _, _⟩, _, _, _, _⟩, _, _⟩ :: _) _ _ _); refine SLl.rdSeq rfl rfl (Rd.len rfl (by ((apply Len.row; (· (repeat (first | apply Sel.here | apply Sel.there))))))) ?_) | ((show SLl _ _ _ _ _ (⟨⟨_, .binOp _ _ _ _ _, _, _, _, _⟩, _, _⟩ :: _) _ _ _); ((refine SLl.cmp rfl rfl rfl rfl rfl rfl ?_ ?_ <;> intro hq <;> simp only [cmpP] at hq <;> try ((exfalso; omega))))))) | (first | refine SLc.seq ?_ | refine SLc.region rfl ?_ | refine SLc.condF rfl ?_ | refine SLc.skip ?_)))
        refine SLl.seq0 rfl (SLo.store rfl rfl rfl (One.lit rfl) (Wr.blk (.there (.there (.there (Upd.app (Upd.many (f := rtC) (p' := ⟨rbk, dv, ds, ⟨false, false, wo, at_, ads⟩⟩) hr))))) (Nat.le_of_ble_eq_true rfl)) ?_)
        (repeat' (first | (first | refine SLl.nil ?_ | ((show SLl _ _ _ _ _ (⟨⟨_, _, _, _, _, _⟩, _, _⟩ :: _) _ _ _); refine SLl.ev rfl rfl rfl rfl ?_)) | (first | refine SLc.seq ?_ | refine SLc.region rfl ?_ | refine SLc.ret ?_)))
        exact And.intro rfl (Exists.intro _ (Exists.intro _ (And.intro rfl (And.intro .refl rfl))))
      | false =>
        have e : stA ⟨false, false, wo, at_, ads⟩ = 1 := rfl
        have e2 : AT.wake ⟨false, false, wo, at_, ads⟩ = ⟨false, false, true, at_, ads⟩ := by cases wo <;> rfl
        rw [e] at hst
        rw [e2]
        (repeat' (first | (first | refine SLl.nil ?_ | ((show SLl _ _ _ _ _ (⟨⟨_, _, _, _, _, _⟩, _, _⟩ :: _) _ _ _); first | refine SLl.ev rfl rfl rfl rfl ?_ | ((show SLl _ _ _ _ _ (⟨⟨_, .load _ _, _, _, _, _⟩, _, _⟩ :: _) _ _ _); (refine SLl.rdSeq rfl rfl (Rd.load rfl rfl (by (first | (apply Reads.blk; (· (repeat (first | apply Sel.here | apply Sel.there))); (· rfl)) | (apply Reads.row; (· (repeat (first | apply Sel.here | apply Sel.there))); (· (assumption)); (· rfl)) | exact Reads.mono (by assumption) (by (repeat' (first | exact Ent.refl | apply Ent.skip)))))) ?_)) | ((show SLl _ _ _ _ _ (⟨⟨_, .fieldAddr _ _ _, _, _, _, _⟩, _, _⟩ :: _) _ _ _); (refine SLl.pu rfl rfl rfl (Pu.fieldAddr rfl) ?_)) | ((show SLl _ _ _ _ _ (⟨⟨_, .indexAddr _ _ _, _, _, _, _⟩, _, _⟩ :: _) _ _ _); (refine SLl.rdSeq rfl rfl (Rd.indexAddr rfl rfl (by ((apply Len.row; (· (repeat (first | apply Sel.here | apply Sel.there)))))) (by (rfl)) (by omega)) ?_)) | ((show SLl _ _ _ _ _ (⟨⟨_, .call ⟨.builtin .len, _, _⟩, _, _, _, _⟩, _, _⟩ :: _) _ _ _); refine SLl.rdSeq rfl rfl (Rd.len rfl (by ((apply Len.row; (· (repeat (first | apply Sel.here | apply Sel.there))))))) ?_) | ((show SLl _ _ _ _ _ (⟨⟨_, .binOp _ _ _ _ _, _, _, _, _⟩, _, _⟩ :: _) _ _ _); ((refine SLl.cmp rfl rfl rfl rfl rfl rfl ?_ ?_ <;> intro hq <;> simp only [cmpP] at hq <;> try (first | exact (hq trivial).elim | (exfalso; omega))))))) | (first | refine SLc.seq ?_ | refine SLc.region rfl ?_ | refine SLc.condT rfl ?_ | refine SLc.condF rfl ?_ | refine SLc.skip ?_)))
        refine SLl.seq0 rfl (SLo.store rfl rfl rfl (One.lit rfl) (Wr.blk (.there (.there (.there (Upd.app (Upd.many (f := rtC) (p' := ⟨rbk, dv, ds, ⟨false, false, true, at_, ads⟩⟩) hr))))) (Nat.le_of_ble_eq_true rfl)) ?_)
        have hr2 : (s.rts.set n ⟨rbk, dv, ds, ⟨false, false, true, at_, ads⟩⟩)[n]? = some ⟨rbk, dv, ds, ⟨false, false, true, at_, ads⟩⟩ := List.getElem?_set_self hlt
        have e3 := set_same hr2
        (repeat' (first | (first | refine SLl.nil ?_ | ((show SLl _ _ _ _ _ (⟨⟨_, _, _, _, _, _⟩, _, _⟩ :: _) _ _ _); first | refine SLl.ev rfl rfl rfl rfl ?_ | ((show SLl _ _ _ _ _ (⟨⟨_, .load _ _, _, _, _, _⟩, _, _⟩ :: _) _ _ _); (refine SLl.rdSeq rfl rfl (Rd.load rfl rfl (by (first | (apply Reads.blk; (· (repeat (apply Sel.here))); (· rfl)) | (apply Reads.row; (· (repeat (first | apply Sel.here | apply Sel.there))); (· (assumption)); (· rfl))))) ?_)) | ((show SLl _ _ _ _ _ (⟨⟨_, .fieldAddr _ _ _, _, _, _, _⟩, _, _⟩ :: _) _ _ _); (refine SLl.pu rfl rfl rfl (Pu.fieldAddr rfl) ?_)) | ((show SLl _ _ _ _ _ (⟨⟨_, .indexAddr _ _ _, _, _, _, _⟩, _, _⟩ :: _) _ _ _); (refine SLl.rdSeq rfl rfl (Rd.indexAddr rfl rfl (by ((apply Len.row; (· (repeat (first | apply Sel.here | apply Sel.there)))))) (by (rfl)) (by omega)) ?_)))) | (first | refine SLc.seq ?_ | refine SLc.region rfl ?_)))
        refine SLl.seq0 rfl (SLo.store rfl rfl rfl (One.lit rfl) (Wr.blk (.there (.there (.there (Upd.app (Upd.many (f := rtC) (p' := ⟨rbk, dv, ds, ⟨false, false, true, at_, ads⟩⟩) hr2))))) (Nat.le_of_ble_eq_true rfl)) ?_)
        rw [e3]
        (repeat' (first | (first | refine SLl.nil ?_ | ((show SLl _ _ _ _ _ (⟨⟨_, _, _, _, _, _⟩, _, _⟩ :: _) _ _ _); refine SLl.ev rfl rfl rfl rfl ?_)) | (first | refine SLc.seq ?_ | refine SLc.region rfl ?_ | refine SLc.ret ?_)))
        exact And.intro rfl (Exists.intro _ (Exists.intro _ (And.intro rfl (And.intro .refl rfl))))
def openR (l : List RT) (k : Nat) : Nat := (((l.take k).map RT.t).filter fun t => !t.done).length
theorem openR_succ {l : List RT} {k : Nat} {r : RT} (h : l[k]? = some r) : openR l (k + 1) = openR l k + if r.t.done then 0 else 1 := by
  obtain ⟨hk, rfl⟩ := List.getElem?_eq_some_iff.1 h
  unfold openR
  rw [List.take_succ_eq_append_getElem hk, List.map_append, List.filter_append, List.length_append]
  cases hd : (l[k]).t.done <;> simp [hd]
theorem openR_le {l : List RT} {k : Nat} : openR l k ≤ k := by
  unfold openR
  have := List.length_filter_le (fun t : AT => !t.done) ((l.take k).map RT.t)
  rw [List.length_map, List.length_take] at this
  omega
theorem ROpen_ok (W : World) (F : List Chunk) (rb : Nat) (s : RS) (hT : s.rts.length ≤ 100000) :
    SLf Try.prog W 54 [ptr rb] (rsC rb s ++ F) (fun v σ => v = .int .i64 ((absR s).opens : Int) ∧ σ = rsC rb s ++ F) := by
  have hpl := @ptrL_len s.rts
  have hop : (absR s).opens = openR s.rts s.rts.length := by unfold AS.opens openR absR; rw [List.take_length]
  rw [hop]
  refine SLf.enter Try.func54 rfl (Nat.le_of_ble_eq_true rfl) ?_
  simp only [rsC, List.cons_append]
  (repeat' (first | (first | refine SLl.nil ?_ | ((show SLl _ _ _ _ _ (⟨⟨_, _, _, _, _, _⟩, _, _⟩ :: _) _ _ _); refine SLl.ev rfl rfl rfl rfl ?_)) | (first | refine SLc.seq ?_ | refine SLc.region rfl ?_ | refine SLc.block ?_)))
  refine SLc.loop (ι := Nat) (fun k => [(4, .int .i64 k), (3, .int .i64 (openR s.rts k : Nat)), (0, ptr rb)]) (fun _ => .blk rb 75 [s.pv, s.Tv, .int .i64 (s.made : Int), s.tv] :: .row s.Tv 82 1 (ptrL s.rts) :: .row s.tv 3 1 (natL s.told) :: (s.rts.map rtC ++ F)) (fun k => k ≤ s.rts.length) (fun k => s.rts.length - k) 0 (Nat.zero_le _) (by (repeat' (first | exact trivial | apply And.intro | rfl))) .refl ?_
  intro k hk
  by_cases hlt : k < s.rts.length
  · have hr : s.rts[k]? = some s.rts[k] := List.getElem?_eq_getElem hlt
    generalize s.rts[k] = r at hr
    have hpc := ptrL_at hr
    have hst : Reads W (s.rts.map rtC ++ F) ⟨r.b, 2, none⟩ (.int .i64 (stA r.t)) := Reads.blk (Sel.app (Sel.many (f := rtC) hr)) rfl
    have hos := openR_succ hr
    have hol := @openR_le s.rts k
    have hst3 : (r.t.done = true ∧ stA r.t = 3) ∨ (r.t.done = false ∧ stA r.t ≠ 3) := by
      unfold stA
      cases r.t.done
      · refine .inr ⟨rfl, ?_⟩
        cases r.t.waits <;> simp
      · exact .inl ⟨rfl, rfl⟩
    generalize stA r.t = st at hst hst3
    rcases hst3 with ⟨hd, hs3⟩ | ⟨hd, hs3⟩
    all_goals
      rw [hd] at hos
      (repeat' (first | (first | refine SLl.nil ?_ | ((show SLl _ _ _ _ _ (⟨⟨_, _, _, _, _, _⟩, _, _⟩ :: _) _ _ _); first | refine SLl.ev rfl rfl rfl rfl ?_ | ((show SLl _ _ _ _ _ (⟨⟨_, .load _ _, _, _, _, _⟩, _, _⟩ :: _) _ _ _); (refine SLl.rdSeq rfl rfl (Rd.load rfl rfl (by (first | (apply Reads.blk; (· (repeat (first | apply Sel.here | apply Sel.there))); (· rfl)) | (apply Reads.row; (· (repeat (first | apply Sel.here | apply Sel.there))); (· (assumption)); (· rfl)) | exact Reads.mono (by assumption) (by (repeat' (first | exact Ent.refl | apply Ent.skip)))))) ?_)) | ((show SLl _ _ _ _ _ (⟨⟨_, .fieldAddr _ _ _, _, _, _, _⟩, _, _⟩ :: _) _ _ _); (refine SLl.pu rfl rfl rfl (Pu.fieldAddr rfl) ?_)) | ((show SLl _ _ _ _ _ (⟨⟨_, .indexAddr _ _ _, _, _, _, _⟩, _, _⟩ :: _) _ _ _); (refine SLl.rdSeq rfl rfl (Rd.indexAddr rfl rfl (by ((apply Len.row; (· (repeat (first | apply Sel.here | apply Sel.there)))))) (by (rfl)) (by omega)) ?_)) | ((show SLl _ _ _ _ _ (⟨⟨_, .call ⟨.builtin .len, _, _⟩, _, _, _, _⟩, _, _⟩ :: _) _ _ _); refine SLl.rdSeq rfl rfl (Rd.len rfl (by ((apply Len.row; (· (repeat (first | apply Sel.here | apply Sel.there))))))) ?_) | ((show SLl _ _ _ _ _ (⟨⟨_, .binOp _ _ _ _ _, _, _, _, _⟩, _, _⟩ :: _) _ _ _); (first | refine SLl.pu rfl rfl rfl (Pu.add rfl rfl (IntWalk.i64_in _ (by omega))) ?_ | (refine SLl.cmp rfl rfl rfl rfl rfl rfl ?_ ?_ <;> intro hq <;> simp only [cmpP] at hq <;> try ((exfalso; omega))))))) | (first | refine SLc.seq ?_ | refine SLc.region rfl ?_ | refine SLc.condT rfl ?_ | refine SLc.condF rfl ?_ | refine SLc.block ?_ | refine SLc.skip ?_)))
      refine And.intro rfl (Exists.intro (k + 1) (And.intro (by omega) (And.intro (by omega) (And.intro ?_ .refl))))
      refine ⟨rfl, ?_, rfl, trivial⟩
      rw [hos]
      rfl
  · obtain rfl : k = s.rts.length := by omega
    (repeat' (first | (first | refine SLl.nil ?_ | ((show SLl _ _ _ _ _ (⟨⟨_, _, _, _, _, _⟩, _, _⟩ :: _) _ _ _); first | refine SLl.ev rfl rfl rfl rfl ?_ | ((show SLl _ _ _ _ _ (⟨⟨_, .load _ _, _, _, _, _⟩, _, _⟩ :: _) _ _ _); (refine SLl.rdSeq rfl rfl (Rd.load rfl rfl (by ((apply Reads.blk; (· (repeat (apply Sel.here))); (· rfl))))) ?_)) | ((show SLl _ _ _ _ _ (⟨⟨_, .fieldAddr _ _ _, _, _, _, _⟩, _, _⟩ :: _) _ _ _); (refine SLl.pu rfl rfl rfl (Pu.fieldAddr rfl) ?_)) | ((show SLl _ _ _ _ _ (⟨⟨_, .call ⟨.builtin .len, _, _⟩, _, _, _, _⟩, _, _⟩ :: _) _ _ _); refine SLl.rdSeq rfl rfl (Rd.len rfl (by ((apply Len.row; (· (repeat (first | apply Sel.here | apply Sel.there))))))) ?_) | ((show SLl _ _ _ _ _ (⟨⟨_, .binOp _ _ _ _ _, _, _, _, _⟩, _, _⟩ :: _) _ _ _); ((refine SLl.cmp rfl rfl rfl rfl rfl rfl ?_ ?_ <;> intro hq <;> simp only [cmpP] at hq <;> try ((exfalso; omega))))))) | (first | refine SLc.seq ?_ | refine SLc.region rfl ?_ | refine SLc.condF rfl ?_ | refine SLc.exit ?_ | refine SLc.ret ?_)))
    exact And.intro rfl (Exists.intro _ (Exists.intro _ (And.intro rfl (And.intro .refl (And.intro rfl rfl)))))
def canR (l : List RT) (k : Nat) : List Nat := (List.range k).filter fun i => (((l[i]?).map RT.t).map AT.runs).getD false
theorem canR_succ {l : List RT} {k : Nat} {r : RT} (h : l[k]? = some r) : canR l (k + 1) = if r.t.runs then canR l k ++ [k] else canR l k := by
  unfold canR
  rw [List.range_succ, List.filter_append]
  simp only [List.filter_cons, List.filter_nil, h, Option.map_some, Option.getD_some]
  split <;> simp
theorem canR_le {l : List RT} {k : Nat} : (canR l k).length ≤ k := by
  have := List.length_filter_le (fun i => (((l[i]?).map RT.t).map AT.runs).getD false) (List.range k)
  simpa [canR] using this
theorem can_absR (s : RS) : (absR s).can = canR s.rts s.rts.length := by
  unfold AS.can canR absR
  dsimp only
  rw [List.length_map]
  refine List.filter_congr fun i _ => ?_
  rw [List.getElem?_map]
theorem RCan_ok (W : World) (F : List Chunk) (rb : Nat) (s : RS) (hT : s.rts.length ≤ 100000) :
    SLf Try.prog W 88 [ptr rb] (rsC rb s ++ F) (fun v σ => σ = .row v 3 1 (natL (absR s).can) :: (rsC rb s ++ F)) := by
  have hpl := @ptrL_len s.rts
  rw [can_absR]
  refine SLf.enter Try.func88 rfl (Nat.le_of_ble_eq_true rfl) ?_
  simp only [rsC, List.cons_append]
  (repeat' (first | (first | refine SLl.nil ?_ | ((show SLl _ _ _ _ _ (⟨⟨_, _, _, _, _, _⟩, _, _⟩ :: _) _ _ _); refine SLl.ev rfl rfl rfl rfl ?_)) | (first | refine SLc.seq ?_ | refine SLc.region rfl ?_ | refine SLc.block ?_)))
  refine SLc.loop (ι := Nat × Value) (fun p => [(4, .int .i64 p.1), (3, p.2), (0, ptr rb)]) (fun p => .row p.2 3 1 (natL (canR s.rts p.1)) :: .blk rb 75 [s.pv, s.Tv, .int .i64 (s.made : Int), s.tv] :: .row s.Tv 82 1 (ptrL s.rts) :: .row s.tv 3 1 (natL s.told) :: (s.rts.map rtC ++ F)) (fun p => p.1 ≤ s.rts.length) (fun p => s.rts.length - p.1) (0, .slice none 0 0) (Nat.zero_le _) (by (repeat' (first | exact trivial | apply And.intro | rfl))) (.nil .refl) ?_
  rintro ⟨k, ov⟩ hk
  dsimp only at hk ⊢
  by_cases hlt : k < s.rts.length
  · have hr : s.rts[k]? = some s.rts[k] := List.getElem?_eq_getElem hlt
    generalize s.rts[k] = r at hr
    have hpc := ptrL_at hr
    have hst : Reads W (s.rts.map rtC ++ F) ⟨r.b, 2, none⟩ (.int .i64 (stA r.t)) := Reads.blk (Sel.app (Sel.many (f := rtC) hr)) rfl
    have hos := canR_succ hr
    have hol := @canR_le s.rts k
    have hcl := @natL_len (canR s.rts k)
    have hst3 : (r.t.runs = true ∧ stA r.t = 1) ∨ (r.t.runs = false ∧ stA r.t ≠ 1) := by
      unfold stA AT.runs
      cases r.t.done <;> cases r.t.waits <;> simp
    generalize stA r.t = st at hst hst3
    rcases hst3 with ⟨hd, hs3⟩ | ⟨hd, hs3⟩
    · rw [hd] at hos
      (repeat' (first | (first | refine SLl.nil ?_ | ((show SLl _ _ _ _ _ (⟨⟨_, _, _, _, _, _⟩, _, _⟩ :: _) _ _ _); first | refine SLl.ev rfl rfl rfl rfl ?_ | ((show SLl _ _ _ _ _ (⟨⟨_, .load _ _, _, _, _, _⟩, _, _⟩ :: _) _ _ _); (refine SLl.rdSeq rfl rfl (Rd.load rfl rfl (by (first | (apply Reads.blk; (· (repeat (first | apply Sel.here | apply Sel.there))); (· rfl)) | (apply Reads.row; (· (repeat (first | apply Sel.here | apply Sel.there))); (· (assumption)); (· rfl)) | exact Reads.mono (by assumption) (by (repeat' (first | exact Ent.refl | apply Ent.skip)))))) ?_)) | ((show SLl _ _ _ _ _ (⟨⟨_, .fieldAddr _ _ _, _, _, _, _⟩, _, _⟩ :: _) _ _ _); (refine SLl.pu rfl rfl rfl (Pu.fieldAddr rfl) ?_)) | ((show SLl _ _ _ _ _ (⟨⟨_, .indexAddr _ _ _, _, _, _, _⟩, _, _⟩ :: _) _ _ _); (refine SLl.rdSeq rfl rfl (Rd.indexAddr rfl rfl (by ((apply Len.row; (· (repeat (first | apply Sel.here | apply Sel.there)))))) (by (rfl)) (by omega)) ?_)) | ((show SLl _ _ _ _ _ (⟨⟨_, .call ⟨.builtin .len, _, _⟩, _, _, _, _⟩, _, _⟩ :: _) _ _ _); refine SLl.rdSeq rfl rfl (Rd.len rfl (by ((apply Len.row; (· (repeat (first | apply Sel.here | apply Sel.there))))))) ?_) | ((show SLl _ _ _ _ _ (⟨⟨_, .binOp _ _ _ _ _, _, _, _, _⟩, _, _⟩ :: _) _ _ _); ((refine SLl.cmp rfl rfl rfl rfl rfl rfl ?_ ?_ <;> intro hq <;> simp only [cmpP] at hq <;> try ((exfalso; omega))))))) | (first | refine SLc.seq ?_ | refine SLc.region rfl ?_ | refine SLc.condT rfl ?_ | refine SLc.block ?_ | refine SLc.skip ?_)))
      refine SLl.seq rfl rfl (SLo.buildSliceE (natL [k]) (by decide) (by decide) rfl (by (repeat (first | exact CellsW.nil | (apply CellsW.cons; (· (exact Cel.one (by (exact One.lit rfl)))))))) natL_one rfl (by rfl) ?_)
      intro nv hnv
      refine SLl.seq rfl rfl (SLo.append (es := natL (canR s.rts k)) (ys := natL [k]) (by rfl) (by omega) rfl rfl (by (repeat (first | apply Sel.here | apply Sel.there))) (Src.row .here natL_one) natL_ones (by simp only [natL_len, List.length_singleton] at *; omega) (by simp only [natL_len, List.length_singleton] at *; omega) ?_)
      intro ov' hov
      (repeat' (first | (first | refine SLl.nil ?_ | ((show SLl _ _ _ _ _ (⟨⟨_, _, _, _, _, _⟩, _, _⟩ :: _) _ _ _); first | refine SLl.ev rfl rfl rfl rfl ?_ | ((show SLl _ _ _ _ _ (⟨⟨_, .binOp _ _ _ _ _, _, _, _, _⟩, _, _⟩ :: _) _ _ _); (refine SLl.pu rfl rfl rfl (Pu.add rfl rfl (IntWalk.i64_in _ (by omega))) ?_)))) | (refine SLc.region rfl ?_)))
      refine And.intro rfl (Exists.intro (k + 1, ov') (And.intro (by dsimp only; omega) (And.intro (by dsimp only; omega) (And.intro (by (repeat' (first | exact trivial | apply And.intro | rfl))) ?_))))
      dsimp only
      rw [hos]
      exact Ent.row natL_app (.skip .refl)
    · rw [hd] at hos
      (repeat' (first | (first | refine SLl.nil ?_ | ((show SLl _ _ _ _ _ (⟨⟨_, _, _, _, _, _⟩, _, _⟩ :: _) _ _ _); first | refine SLl.ev rfl rfl rfl rfl ?_ | ((show SLl _ _ _ _ _ (⟨⟨_, .load _ _, _, _, _, _⟩, _, _⟩ :: _) _ _ _); (refine SLl.rdSeq rfl rfl (Rd.load rfl rfl (by (first | (apply Reads.blk; (· (repeat (first | apply Sel.here | apply Sel.there))); (· rfl)) | (apply Reads.row; (· (repeat (first | apply Sel.here | apply Sel.there))); (· (assumption)); (· rfl)) | exact Reads.mono (by assumption) (by (repeat' (first | exact Ent.refl | apply Ent.skip)))))) ?_)) | ((show SLl _ _ _ _ _ (⟨⟨_, .fieldAddr _ _ _, _, _, _, _⟩, _, _⟩ :: _) _ _ _); (refine SLl.pu rfl rfl rfl (Pu.fieldAddr rfl) ?_)) | ((show SLl _ _ _ _ _ (⟨⟨_, .indexAddr _ _ _, _, _, _, _⟩, _, _⟩ :: _) _ _ _); (refine SLl.rdSeq rfl rfl (Rd.indexAddr rfl rfl (by ((apply Len.row; (· (repeat (first | apply Sel.here | apply Sel.there)))))) (by (rfl)) (by omega)) ?_)) | ((show SLl _ _ _ _ _ (⟨⟨_, .call ⟨.builtin .len, _, _⟩, _, _, _, _⟩, _, _⟩ :: _) _ _ _); refine SLl.rdSeq rfl rfl (Rd.len rfl (by ((apply Len.row; (· (repeat (first | apply Sel.here | apply Sel.there))))))) ?_) | ((show SLl _ _ _ _ _ (⟨⟨_, .binOp _ _ _ _ _, _, _, _, _⟩, _, _⟩ :: _) _ _ _); (first | refine SLl.pu rfl rfl rfl (Pu.add rfl rfl (IntWalk.i64_in _ (by omega))) ?_ | (refine SLl.cmp rfl rfl rfl rfl rfl rfl ?_ ?_ <;> intro hq <;> simp only [cmpP] at hq <;> try ((exfalso; omega))))))) | (first | refine SLc.seq ?_ | refine SLc.region rfl ?_ | refine SLc.condT rfl ?_ | refine SLc.condF rfl ?_ | refine SLc.block ?_ | refine SLc.skip ?_)))
      refine And.intro rfl (Exists.intro (k + 1, ov) (And.intro (by dsimp only; omega) (And.intro (by dsimp only; omega) (And.intro (by (repeat' (first | exact trivial | apply And.intro | rfl))) ?_))))
      dsimp only
      rw [hos]
      exact .refl
  · obtain rfl : k = s.rts.length := by omega
    (repeat' (first | (first | refine SLl.nil ?_ | ((show SLl _ _ _ _ _ (⟨⟨_, _, _, _, _, _⟩, _, _⟩ :: _) _ _ _); first | refine SLl.ev rfl rfl rfl rfl ?_ | ((show SLl _ _ _ _ _ (⟨⟨_, .load _ _, _, _, _, _⟩, _, _⟩ :: _) _ _ _); (refine SLl.rdSeq rfl rfl (Rd.load rfl rfl (by ((apply Reads.blk; (· (repeat (first | apply Sel.here | apply Sel.there))); (· rfl))))) ?_)) | ((show SLl _ _ _ _ _ (⟨⟨_, .fieldAddr _ _ _, _, _, _, _⟩, _, _⟩ :: _) _ _ _); (refine SLl.pu rfl rfl rfl (Pu.fieldAddr rfl) ?_)) | ((show SLl _ _ _ _ _ (⟨⟨_, .call ⟨.builtin .len, _, _⟩, _, _, _, _⟩, _, _⟩ :: _) _ _ _); refine SLl.rdSeq rfl rfl (Rd.len rfl (by ((apply Len.row; (· (repeat (first | apply Sel.here | apply Sel.there))))))) ?_) | ((show SLl _ _ _ _ _ (⟨⟨_, .binOp _ _ _ _ _, _, _, _, _⟩, _, _⟩ :: _) _ _ _); ((refine SLl.cmp rfl rfl rfl rfl rfl rfl ?_ ?_ <;> intro hq <;> simp only [cmpP] at hq <;> try ((exfalso; omega))))))) | (first | refine SLc.seq ?_ | refine SLc.region rfl ?_ | refine SLc.condF rfl ?_ | refine SLc.exit ?_ | refine SLc.ret ?_)))
    exact And.intro rfl (Exists.intro _ (Exists.intro _ (And.intro rfl (And.intro .refl rfl))))
end Go.Sl
