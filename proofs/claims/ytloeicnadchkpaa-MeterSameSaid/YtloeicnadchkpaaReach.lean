/- reach: contracts. -/
import Derived.Test.YtloeicnadchkpaaTy24
namespace Go.Sl
open Go.Proofs
attribute [local irreducible] SLc SLl SLo SLf Pu Rd

structure Node where
  op : Int
  inv : Value
  ins : List Int
  tov : Value
  no : Int
  shp : Value
  dat : Value
  hks : Value
def Node.cells (x : Node) : List Value := [.int .i64 x.op, x.inv, x.tov, .int .i64 x.no, x.shp, x.dat, x.hks]
def ints (l : List Int) : List (List Value) := l.map fun k => [.int .i64 k]
structure GraphR (W : World) (σ : List Chunk) (sl : Value) (G : List Node) : Prop where
  rs : Rs W σ sl 7 (G.map Node.cells)
  ins : ∀ x ∈ G, Rs W σ x.inv 1 (ints x.ins)
  len : G.length ≤ 4611686018427387904
  lens : ∀ x ∈ G, x.ins.length ≤ 4611686018427387904
  ones : ∀ x ∈ G, One W σ x.inv ∧ One W σ x.tov ∧ One W σ x.shp ∧ One W σ x.dat ∧ One W σ x.hks

theorem cells_at {G : List Node} {k : Nat} {x : Node} (h : G[k]? = some x) : (G.map Node.cells)[k]? = some [.int .i64 x.op, x.inv, x.tov, .int .i64 x.no, x.shp, x.dat, x.hks] := by simp [h, Node.cells]
theorem ints_at {l : List Int} {k : Nat} {x : Int} (h : l[k]? = some x) : (ints l)[k]? = some [.int .i64 x] := by simp [ints, h]
theorem ints_len {l : List Int} : (ints l).length = l.length := by simp [ints]

def insOk (k : Nat) (l : List Int) : Bool := l.all fun j => decide (0 ≤ j) && decide (j < k)
def mayG (G : List Node) : Bool := G.zipIdx.all fun p => insOk p.2 p.1.ins
def mayF (G : List Node) (root : Int) : Bool := mayG G && (decide (0 ≤ root) && decide (root < G.length))
theorem mayG_iff {G : List Node} : mayG G = true ↔ ∀ k x, G[k]? = some x → insOk k x.ins = true := by
  unfold mayG
  simp only [List.all_eq_true]
  constructor
  · intro h k x hx
    have := h (x, k) (by rw [List.mem_zipIdx_iff_getElem?]; simpa using hx)
    exact this
  · intro h p hp
    rw [List.mem_zipIdx_iff_getElem?] at hp
    exact h _ _ hp

theorem insOk_of {k : Nat} {l : List Int} (h : ∀ (t : Nat) q, l[t]? = some q → 0 ≤ q ∧ q < k) : insOk k l = true := by
  unfold insOk
  rw [List.all_eq_true]
  intro q hq
  obtain ⟨t, ht⟩ := List.mem_iff_getElem?.1 hq
  have := h t q ht
  simp [this.1, this.2]
theorem mayF_no {G : List Node} {root : Int} {k : Nat} {x : Node} {j : Nat} {q : Int} (hx : G[k]? = some x) (hq : x.ins[j]? = some q) (h : q < 0 ∨ (k : Int) ≤ q) : mayF G root = false := by
  unfold mayF
  have : mayG G = false := by
    cases hm : mayG G with
    | false => rfl
    | true =>
      have h1 := mayG_iff.1 hm k x hx
      unfold insOk at h1
      have h2 := List.all_eq_true.1 h1 q (List.mem_of_getElem? hq)
      simp at h2
      omega
  rw [this]; rfl

theorem May_ok (W : World) (F : List Chunk) (sl : Value) (G : List Node) (root : Int) (hg : GraphR W F sl G) :
    SLf Try.prog W 80 [.agg #[sl], .int .i64 root] F (fun v σ => v = .bool (mayF G root) ∧ σ = F) := by
  have hrs := hg.rs
  have hl := hg.len
  have hlen : (G.map Node.cells).length = G.length := by simp
  refine SLf.enter Try.func80 rfl (Nat.le_of_ble_eq_true rfl) ?_
  (repeat' (first | (first | refine SLl.nil ?_ | ((show SLl _ _ _ _ _ (⟨⟨_, _, _, _, _, _⟩, _, _⟩ :: _) _ _ _); first | refine SLl.ev rfl rfl rfl rfl ?_ | ((show SLl _ _ _ _ _ (⟨⟨_, .load _ _, _, _, _, _⟩, _, _⟩ :: _) _ _ _); (refine SLl.rdSeq rfl rfl (Rd.load rfl rfl (by ((apply Reads.blk; (· (repeat (apply Sel.here))); (· rfl))))) ?_)) | ((show SLl _ _ _ _ _ (⟨⟨_, .fieldAddr _ _ _, _, _, _, _⟩, _, _⟩ :: _) _ _ _); (refine SLl.pu rfl rfl rfl (Pu.fieldAddr rfl) ?_)) | ((show SLl _ _ _ _ _ (⟨⟨_, .call ⟨.builtin .len, _, _⟩, _, _, _, _⟩, _, _⟩ :: _) _ _ _); refine SLl.rdSeq rfl rfl (Rd.len rfl (by ((apply Len.rs; exact Rs.mono (by assumption) (by (repeat' (first | exact Ent.refl | apply Ent.skip))))))) ?_) | ((show SLl _ _ _ _ _ (⟨⟨_, .box _ _, _, _, _, _⟩, _, _⟩ :: _) _ _ _); refine SLl.seq rfl rfl (SLo.boxC rfl (by (exact Cel.agg)) ?_); intro b))) | (first | refine SLc.seq ?_ | refine SLc.region rfl ?_ | refine SLc.block ?_)))
  obtain ⟨b0, hb0⟩ : ∃ x, x = b := ⟨_, rfl⟩; subst hb0
  refine SLc.loop (ι := Nat) (fun k => [(12, .int .i64 k), (11, .int .i64 (G.map Node.cells).length), (10, sl), (2, .pointer (some ⟨b0, 0, none⟩)), (1, .int .i64 root)]) (fun _ => .blk b0 24 [sl] :: F)
    (fun k => k ≤ G.length ∧ ∀ j x, j < k → G[j]? = some x → insOk j x.ins = true) (fun k => G.length - k) 0 ⟨Nat.zero_le _, by omega⟩ (by (repeat' (first | exact trivial | apply And.intro | rfl))) .refl ?_
  rintro k ⟨hk, hok⟩
  by_cases hlt : k < G.length
  · have hx : G[k]? = some G[k] := List.getElem?_eq_getElem hlt
    generalize G[k] = x at hx
    have hca := cells_at hx
    have hxi := hg.ins x (List.mem_of_getElem? hx)
    have hxl := hg.lens x (List.mem_of_getElem? hx)
    obtain ⟨o1, o2, o3, o4, o5⟩ := hg.ones x (List.mem_of_getElem? hx)
    (repeat' (first | (first | refine SLl.nil ?_ | ((show SLl _ _ _ _ _ (⟨⟨_, _, _, _, _, _⟩, _, _⟩ :: _) _ _ _); first | refine SLl.ev rfl rfl rfl rfl ?_ | ((show SLl _ _ _ _ _ (⟨⟨_, .load _ _, _, _, _, _⟩, _, _⟩ :: _) _ _ _); (first | refine SLl.rdSeq rfl rfl (Rd.load rfl rfl (by (first | (apply Reads.blk; (· (repeat (apply Sel.here))); (· rfl)) | (apply Reads.rs; (· exact Rs.mono (by assumption) (by (repeat' (first | exact Ent.refl | apply Ent.skip)))); (· (assumption)); (· rfl))))) ?_ | refine SLl.rdSeq rfl rfl (Rd.loadN rfl rfl (by ((apply ReadsN.rs0; (· exact Rs.mono (by assumption) (by (repeat' (first | exact Ent.refl | apply Ent.skip)))); (· (assumption))))) (by rfl)) ?_)) | ((show SLl _ _ _ _ _ (⟨⟨_, .fieldAddr _ _ _, _, _, _, _⟩, _, _⟩ :: _) _ _ _); (refine SLl.pu rfl rfl rfl (Pu.fieldAddr rfl) ?_)) | ((show SLl _ _ _ _ _ (⟨⟨_, .indexAddr _ _ _, _, _, _, _⟩, _, _⟩ :: _) _ _ _); (refine SLl.rdSeq rfl rfl (Rd.indexAddr rfl rfl (by ((apply Len.rs; exact Rs.mono (by assumption) (by (repeat' (first | exact Ent.refl | apply Ent.skip)))))) (by (rfl)) (by omega)) ?_)) | ((show SLl _ _ _ _ _ (⟨⟨_, .call ⟨.builtin .len, _, _⟩, _, _, _, _⟩, _, _⟩ :: _) _ _ _); refine SLl.rdSeq rfl rfl (Rd.len rfl (by ((apply Len.rs; exact Rs.mono (by assumption) (by (repeat' (first | exact Ent.refl | apply Ent.skip))))))) ?_) | ((show SLl _ _ _ _ _ (⟨⟨_, .binOp _ _ _ _ _, _, _, _, _⟩, _, _⟩ :: _) _ _ _); ((refine SLl.cmp rfl rfl rfl rfl rfl rfl ?_ ?_ <;> intro hq <;> simp only [cmpP] at hq <;> try ((exfalso; omega))))) | ((show SLl _ _ _ _ _ (⟨⟨_, .store _ _ _, _, _, _, _⟩, _, _⟩ :: _) _ _ _); ((refine SLl.seq0 rfl (SLo.storeN rfl rfl rfl (by (repeat' (first | exact trivial | (apply And.intro; (· (first | exact One.lit rfl | exact One.mono (by assumption) (by (repeat' (first | exact Ent.refl | apply Ent.skip))))))))) (Nat.le_of_ble_eq_true rfl) (by (repeat (apply Upd.here))) ?_)))) | ((show SLl _ _ _ _ _ (⟨⟨_, .alloc _, _, _, _, _⟩, _, _⟩ :: _) _ _ _); refine SLl.seq rfl rfl (SLo.alloc ?_); intro b))) | (first | refine SLc.seq ?_ | refine SLc.region rfl ?_ | refine SLc.condT rfl ?_ | refine SLc.block ?_ | refine SLc.skip ?_)))
    refine SLc.loop (ι := Nat) (fun j => [(20, .int .i64 j), (19, .int .i64 (ints x.ins).length), (18, x.inv), (5, .int .i64 k), (12, .int .i64 k), (11, .int .i64 (G.map Node.cells).length), (10, sl), (2, .pointer (some ⟨b0, 0, none⟩)), (1, .int .i64 root)])
      (fun _ => .blk b0 24 [sl] :: F) (fun j => j ≤ x.ins.length ∧ ∀ i q, i < j → x.ins[i]? = some q → 0 ≤ q ∧ q < k) (fun j => x.ins.length - j) 0 ⟨Nat.zero_le _, by omega⟩ (by (repeat' (first | exact trivial | apply And.intro | rfl))) (by (repeat' (first | exact Ent.refl | (refine Ent.cons (by (repeat (first | apply Sel.here | apply Sel.there))) ?_) | apply Ent.skip))) ?_
    rintro j ⟨hj, hokj⟩
    have hil := @ints_len x.ins
    by_cases hlj : j < x.ins.length
    · have hxj : x.ins[j]? = some x.ins[j] := List.getElem?_eq_getElem hlj
      generalize x.ins[j] = q at hxj
      have hcj := ints_at hxj
      (repeat' (first | (first | refine SLl.nil ?_ | ((show SLl _ _ _ _ _ (⟨⟨_, _, _, _, _, _⟩, _, _⟩ :: _) _ _ _); first | refine SLl.ev rfl rfl rfl rfl ?_ | ((show SLl _ _ _ _ _ (⟨⟨_, .load _ _, _, _, _, _⟩, _, _⟩ :: _) _ _ _); (refine SLl.rdSeq rfl rfl (Rd.load rfl rfl (by ((apply Reads.rs; (· exact Rs.mono (by assumption) (by (repeat' (first | exact Ent.refl | apply Ent.skip)))); (· (assumption)); (· rfl))))) ?_)) | ((show SLl _ _ _ _ _ (⟨⟨_, .indexAddr _ _ _, _, _, _, _⟩, _, _⟩ :: _) _ _ _); (refine SLl.rdSeq rfl rfl (Rd.indexAddr rfl rfl (by ((apply Len.rs; exact Rs.mono (by assumption) (by (repeat' (first | exact Ent.refl | apply Ent.skip)))))) (by (rfl)) (by omega)) ?_)) | ((show SLl _ _ _ _ _ (⟨⟨_, .binOp _ _ _ _ _, _, _, _, _⟩, _, _⟩ :: _) _ _ _); (first | refine SLl.pu rfl rfl rfl (Pu.add rfl rfl (IntWalk.i64_in _ (by omega))) ?_ | (refine SLl.cmp rfl rfl rfl rfl rfl rfl ?_ ?_ <;> intro hq <;> simp only [cmpP] at hq <;> try ((exfalso; omega))))) | refine SLl.skip rfl rfl ?_)) | (first | refine SLc.seq ?_ | refine SLc.region rfl ?_ | refine SLc.condT rfl ?_ | refine SLc.condF rfl ?_ | refine SLc.block ?_ | refine SLc.skip ?_ | refine SLc.ret ?_)))
      · refine And.intro rfl (Exists.intro _ (Exists.intro _ (And.intro rfl (And.intro ?_ (And.intro ?_ rfl)))))
        · (repeat' (first | exact Ent.refl | apply Ent.skip))
        · exact congrArg Value.bool (mayF_no hx hxj (by omega)).symm
      · refine And.intro rfl (Exists.intro _ (Exists.intro _ (And.intro rfl (And.intro ?_ (And.intro ?_ rfl)))))
        · (repeat' (first | exact Ent.refl | apply Ent.skip))
        · exact congrArg Value.bool (mayF_no hx hxj (by omega)).symm
      · refine And.intro rfl (Exists.intro (j + 1) (And.intro ⟨by omega, ?_⟩ (And.intro (by omega) (And.intro (by (repeat' (first | exact trivial | apply And.intro | rfl))) (by (repeat' (exact Ent.refl)))))))
        intro i q' hi hq'
        by_cases h : i = j
        · subst h; rw [hxj] at hq'; cases hq'; omega
        · exact hokj i q' (by omega) hq'
    · (repeat' (first | (first | refine SLl.nil ?_ | ((show SLl _ _ _ _ _ (⟨⟨_, _, _, _, _, _⟩, _, _⟩ :: _) _ _ _); first | refine SLl.ev rfl rfl rfl rfl ?_ | ((show SLl _ _ _ _ _ (⟨⟨_, .binOp _ _ _ _ _, _, _, _, _⟩, _, _⟩ :: _) _ _ _); (first | refine SLl.pu rfl rfl rfl (Pu.add rfl rfl (IntWalk.i64_in _ (by omega))) ?_ | (refine SLl.cmp rfl rfl rfl rfl rfl rfl ?_ ?_ <;> intro hq <;> simp only [cmpP] at hq <;> try ((exfalso; omega))))))) | (first | refine SLc.seq ?_ | refine SLc.region rfl ?_ | refine SLc.condF rfl ?_ | refine SLc.exit ?_)))
      refine And.intro rfl (Exists.intro (k + 1) (And.intro ⟨by omega, ?_⟩ (And.intro (by omega) (And.intro (by (repeat' (first | exact trivial | apply And.intro | rfl))) (by (repeat' (exact Ent.refl)))))))
      intro i y hi hy
      by_cases h : i = k
      · subst h; rw [hx] at hy; cases hy
        exact insOk_of fun t q hq => hokj t q (by have := (List.getElem?_eq_some_iff.1 hq).1; omega) hq
      · exact hok i y (by omega) hy
  · have hall : mayG G = true := mayG_iff.2 fun i y hy => hok i y (by have := (List.getElem?_eq_some_iff.1 hy).1; omega) hy
    (repeat' (first | (first | refine SLl.nil ?_ | ((show SLl _ _ _ _ _ (⟨⟨_, _, _, _, _, _⟩, _, _⟩ :: _) _ _ _); first | refine SLl.ev rfl rfl rfl rfl ?_ | ((show SLl _ _ _ _ _ (⟨⟨_, .load _ _, _, _, _, _⟩, _, _⟩ :: _) _ _ _); (refine SLl.rdSeq rfl rfl (Rd.load rfl rfl (by ((apply Reads.blk; (· (repeat (apply Sel.here))); (· rfl))))) ?_)) | ((show SLl _ _ _ _ _ (⟨⟨_, .fieldAddr _ _ _, _, _, _, _⟩, _, _⟩ :: _) _ _ _); (refine SLl.pu rfl rfl rfl (Pu.fieldAddr rfl) ?_)) | ((show SLl _ _ _ _ _ (⟨⟨_, .call ⟨.builtin .len, _, _⟩, _, _, _, _⟩, _, _⟩ :: _) _ _ _); refine SLl.rdSeq rfl rfl (Rd.len rfl (by ((apply Len.rs; exact Rs.mono (by assumption) (by (repeat' (first | exact Ent.refl | apply Ent.skip))))))) ?_) | ((show SLl _ _ _ _ _ (⟨⟨_, .binOp _ _ _ _ _, _, _, _, _⟩, _, _⟩ :: _) _ _ _); ((refine SLl.cmp rfl rfl rfl rfl rfl rfl ?_ ?_ <;> intro hq <;> simp only [cmpP] at hq <;> try ((exfalso; omega))))) | refine SLl.skip rfl rfl ?_)) | (first | refine SLc.seq ?_ | refine SLc.region rfl ?_ | refine SLc.condF rfl ?_ | refine SLc.exit ?_ | refine SLc.ret ?_)))
    all_goals
      refine And.intro rfl (Exists.intro _ (Exists.intro _ (And.intro rfl (And.intro ?_ (And.intro ?_ rfl)))))
      · (repeat' (first | exact Ent.refl | apply Ent.skip))
      · refine congrArg Value.bool (Eq.symm ?_)
        simp only [mayF, hall, Bool.true_and]
        simp
        omega
end Go.Sl
