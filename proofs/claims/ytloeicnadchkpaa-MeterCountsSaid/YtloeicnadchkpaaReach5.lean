/- The references sound, From: the contracts. -/
import Derived.Test.YtloeicnadchkpaaReach4
namespace Go.Sl
open Go.Proofs
attribute [local irreducible] SLc SLl SLo SLf Pu Rd

theorem mayG_no {G : List Node} {k : Nat} {x : Node} {j : Nat} {q : Int} (hx : G[k]? = some x) (hq : x.ins[j]? = some q) (h : q < 0 ∨ (k : Int) ≤ q) : mayG G = false := by
  cases hm : mayG G with
  | false => rfl
  | true =>
    have h1 := mayG_iff.1 hm k x hx
    unfold insOk at h1
    have h2 := List.all_eq_true.1 h1 q (List.mem_of_getElem? hq)
    simp at h2
    omega

theorem Sound_ok (W : World) (F : List Chunk) (sl : Value) (G : List Node) (hg : GraphR W F sl G) :
    SLf Try.prog W 81 [.agg #[sl]] F (fun v σ => v = .bool (mayG G) ∧ σ = F) := by
  have hrs := hg.rs
  have hl := hg.len
  have hlen : (G.map Node.cells).length = G.length := by simp
  refine SLf.enter Try.func81 rfl (Nat.le_of_ble_eq_true rfl) ?_
  (repeat' (first | (first | refine SLl.nil ?_ | ((show SLl _ _ _ _ _ (⟨⟨_, _, _, _, _, _⟩, _, _⟩ :: _) _ _ _); first | refine SLl.ev rfl rfl rfl rfl ?_ | ((show SLl _ _ _ _ _ (⟨⟨_, .box _ _, _, _, _, _⟩, _, _⟩ :: _) _ _ _); refine SLl.seq rfl rfl (SLo.boxC rfl (by (exact Cel.agg)) ?_); intro b))) | (first | refine SLc.seq ?_ | refine SLc.region rfl ?_ | refine SLc.block ?_)))
  obtain ⟨b0, hb0⟩ : ∃ x, x = b := ⟨_, rfl⟩; subst hb0
  refine SLc.loop (ι := Nat) (fun k => [(3, .int .i64 k), (1, .pointer (some ⟨b0, 0, none⟩))]) (fun _ => .blk b0 24 [sl] :: F)
    (fun k => k ≤ G.length ∧ ∀ j x, j < k → G[j]? = some x → insOk j x.ins = true) (fun k => G.length - k) 0 ⟨Nat.zero_le _, by omega⟩ (by (repeat' (first | exact trivial | apply And.intro | rfl))) .refl ?_
  rintro k ⟨hk, hok⟩
  by_cases hlt : k < G.length
  · have hx : G[k]? = some G[k] := List.getElem?_eq_getElem hlt
    generalize G[k] = x at hx
    have hca := cells_at hx
    have hxi := hg.ins x (List.mem_of_getElem? hx)
    have hxl := hg.lens x (List.mem_of_getElem? hx)
    (repeat' (first | (first | refine SLl.nil ?_ | ((show SLl _ _ _ _ _ (⟨⟨_, _, _, _, _, _⟩, _, _⟩ :: _) _ _ _); first | refine SLl.ev rfl rfl rfl rfl ?_ | ((show SLl _ _ _ _ _ (⟨⟨_, .load _ _, _, _, _, _⟩, _, _⟩ :: _) _ _ _); (refine SLl.rdSeq rfl rfl (Rd.load rfl rfl (by ((apply Reads.blk; (· (repeat (apply Sel.here))); (· rfl))))) ?_)) | ((show SLl _ _ _ _ _ (⟨⟨_, .fieldAddr _ _ _, _, _, _, _⟩, _, _⟩ :: _) _ _ _); (refine SLl.pu rfl rfl rfl (Pu.fieldAddr rfl) ?_)) | ((show SLl _ _ _ _ _ (⟨⟨_, .call ⟨.builtin .len, _, _⟩, _, _, _, _⟩, _, _⟩ :: _) _ _ _); refine SLl.rdSeq rfl rfl (Rd.len rfl (by ((apply Len.rs; exact Rs.mono (by assumption) (by (repeat' (first | exact Ent.refl | apply Ent.skip))))))) ?_) | ((show SLl _ _ _ _ _ (⟨⟨_, .binOp _ _ _ _ _, _, _, _, _⟩, _, _⟩ :: _) _ _ _); ((refine SLl.cmp rfl rfl rfl rfl rfl rfl ?_ ?_ <;> intro hq <;> simp only [cmpP] at hq <;> try ((exfalso; omega))))))) | (first | refine SLc.seq ?_ | refine SLc.region rfl ?_ | refine SLc.condT rfl ?_ | refine SLc.block ?_ | refine SLc.skip ?_)))
    refine SLc.loop (ι := Nat) (fun j => [(4, .int .i64 j), (3, .int .i64 k), (1, .pointer (some ⟨b0, 0, none⟩))])
      (fun _ => .blk b0 24 [sl] :: F) (fun j => j ≤ x.ins.length ∧ ∀ i q, i < j → x.ins[i]? = some q → 0 ≤ q ∧ q < k) (fun j => x.ins.length - j) 0 ⟨Nat.zero_le _, by omega⟩ (by (repeat' (first | exact trivial | apply And.intro | rfl))) .refl ?_
    rintro j ⟨hj, hokj⟩
    have hil := @ints_len x.ins
    by_cases hlj : j < x.ins.length
    · have hxj : x.ins[j]? = some x.ins[j] := List.getElem?_eq_getElem hlj
      generalize x.ins[j] = q at hxj
      have hcj := ints_at hxj
      (repeat' (first | (first | refine SLl.nil ?_ | ((show SLl _ _ _ _ _ (⟨⟨_, _, _, _, _, _⟩, _, _⟩ :: _) _ _ _); first | refine SLl.ev rfl rfl rfl rfl ?_ | ((show SLl _ _ _ _ _ (⟨⟨_, .load _ _, _, _, _, _⟩, _, _⟩ :: _) _ _ _); (refine SLl.rdSeq rfl rfl (Rd.load rfl rfl (by (first | (apply Reads.blk; (· (repeat (apply Sel.here))); (· rfl)) | (apply Reads.rs; (· exact Rs.mono (by assumption) (by (repeat' (first | exact Ent.refl | apply Ent.skip)))); (· (assumption)); (· rfl))))) ?_)) | ((show SLl _ _ _ _ _ (⟨⟨_, .fieldAddr _ _ _, _, _, _, _⟩, _, _⟩ :: _) _ _ _); (first | refine SLl.pu rfl rfl rfl (Pu.fieldAddr rfl) ?_ | refine SLl.rdSeq rfl rfl (Rd.fieldAddrEl rfl (by (first | exact Len.nil | (apply Len.rs; exact Rs.mono (by assumption) (by (repeat' (first | exact Ent.refl | apply Ent.skip)))))) (by omega)) ?_)) | ((show SLl _ _ _ _ _ (⟨⟨_, .indexAddr _ _ _, _, _, _, _⟩, _, _⟩ :: _) _ _ _); (refine SLl.rdSeq rfl rfl (Rd.indexAddr rfl rfl (by ((apply Len.rs; exact Rs.mono (by assumption) (by (repeat' (first | exact Ent.refl | apply Ent.skip)))))) (by (rfl)) (by omega)) ?_)) | ((show SLl _ _ _ _ _ (⟨⟨_, .call ⟨.builtin .len, _, _⟩, _, _, _, _⟩, _, _⟩ :: _) _ _ _); refine SLl.rdSeq rfl rfl (Rd.len rfl (by ((apply Len.rs; exact Rs.mono (by assumption) (by (repeat' (first | exact Ent.refl | apply Ent.skip))))))) ?_) | ((show SLl _ _ _ _ _ (⟨⟨_, .binOp _ _ _ _ _, _, _, _, _⟩, _, _⟩ :: _) _ _ _); (first | refine SLl.pu rfl rfl rfl (Pu.add rfl rfl (IntWalk.i64_in _ (by omega))) ?_ | (refine SLl.cmp rfl rfl rfl rfl rfl rfl ?_ ?_ <;> intro hq <;> simp only [cmpP] at hq <;> try ((exfalso; omega))))) | refine SLl.skip rfl rfl ?_)) | (first | refine SLc.seq ?_ | refine SLc.region rfl ?_ | refine SLc.condT rfl ?_ | refine SLc.condF rfl ?_ | refine SLc.block ?_ | refine SLc.skip ?_ | refine SLc.ret ?_)))
      · refine And.intro rfl (Exists.intro _ (Exists.intro _ (And.intro rfl (And.intro ?_ (And.intro ?_ rfl)))))
        · (repeat' (first | exact Ent.refl | apply Ent.skip))
        · exact congrArg Value.bool (mayG_no hx hxj (by omega)).symm
      · refine And.intro rfl (Exists.intro _ (Exists.intro _ (And.intro rfl (And.intro ?_ (And.intro ?_ rfl)))))
        · (repeat' (first | exact Ent.refl | apply Ent.skip))
        · exact congrArg Value.bool (mayG_no hx hxj (by omega)).symm
      · refine And.intro rfl (Exists.intro (j + 1) (And.intro ⟨by omega, ?_⟩ (And.intro (by omega) (And.intro (by (repeat' (first | exact trivial | apply And.intro | rfl))) (by (repeat' (exact Ent.refl)))))))
        intro i q' hi hq'
        by_cases h : i = j
        · subst h; rw [hxj] at hq'; cases hq'; omega
        · exact hokj i q' (by omega) hq'
    · (repeat' (first | (first | refine SLl.nil ?_ | ((show SLl _ _ _ _ _ (⟨⟨_, _, _, _, _, _⟩, _, _⟩ :: _) _ _ _); first | refine SLl.ev rfl rfl rfl rfl ?_ | ((show SLl _ _ _ _ _ (⟨⟨_, .load _ _, _, _, _, _⟩, _, _⟩ :: _) _ _ _); (refine SLl.rdSeq rfl rfl (Rd.load rfl rfl (by (first | (apply Reads.blk; (· (repeat (apply Sel.here))); (· rfl)) | (apply Reads.rs; (· exact Rs.mono (by assumption) (by (repeat' (first | exact Ent.refl | apply Ent.skip)))); (· (assumption)); (· rfl))))) ?_)) | ((show SLl _ _ _ _ _ (⟨⟨_, .fieldAddr _ _ _, _, _, _, _⟩, _, _⟩ :: _) _ _ _); (first | refine SLl.pu rfl rfl rfl (Pu.fieldAddr rfl) ?_ | refine SLl.rdSeq rfl rfl (Rd.fieldAddrEl rfl (by ((apply Len.rs; exact Rs.mono (by assumption) (by (repeat' (first | exact Ent.refl | apply Ent.skip)))))) (by omega)) ?_)) | ((show SLl _ _ _ _ _ (⟨⟨_, .indexAddr _ _ _, _, _, _, _⟩, _, _⟩ :: _) _ _ _); (refine SLl.rdSeq rfl rfl (Rd.indexAddr rfl rfl (by ((apply Len.rs; exact Rs.mono (by assumption) (by (repeat' (first | exact Ent.refl | apply Ent.skip)))))) (by (rfl)) (by omega)) ?_)) | ((show SLl _ _ _ _ _ (⟨⟨_, .call ⟨.builtin .len, _, _⟩, _, _, _, _⟩, _, _⟩ :: _) _ _ _); refine SLl.rdSeq rfl rfl (Rd.len rfl (by ((apply Len.rs; exact Rs.mono (by assumption) (by (repeat' (first | exact Ent.refl | apply Ent.skip))))))) ?_) | ((show SLl _ _ _ _ _ (⟨⟨_, .binOp _ _ _ _ _, _, _, _, _⟩, _, _⟩ :: _) _ _ _); (first | refine SLl.pu rfl rfl rfl (Pu.add rfl rfl (IntWalk.i64_in _ (by omega))) ?_ | (refine SLl.cmp rfl rfl rfl rfl rfl rfl ?_ ?_ <;> intro hq <;> simp only [cmpP] at hq <;> try ((exfalso; omega))))))) | (first | refine SLc.seq ?_ | refine SLc.region rfl ?_ | refine SLc.condF rfl ?_ | refine SLc.exit ?_)))
      refine And.intro rfl (Exists.intro (k + 1) (And.intro ⟨by omega, ?_⟩ (And.intro (by omega) (And.intro (by (repeat' (first | exact trivial | apply And.intro | rfl))) (by (repeat' (exact Ent.refl)))))))
      intro i y hi hy
      by_cases h : i = k
      · subst h; rw [hx] at hy; cases hy
        exact insOk_of fun t q hq => hokj t q (by have := (List.getElem?_eq_some_iff.1 hq).1; omega) hq
      · exact hok i y (by omega) hy
  · have hall : mayG G = true := mayG_iff.2 fun i y hy => hok i y (by have := (List.getElem?_eq_some_iff.1 hy).1; omega) hy
    (repeat' (first | (first | refine SLl.nil ?_ | ((show SLl _ _ _ _ _ (⟨⟨_, _, _, _, _, _⟩, _, _⟩ :: _) _ _ _); first | refine SLl.ev rfl rfl rfl rfl ?_ | ((show SLl _ _ _ _ _ (⟨⟨_, .load _ _, _, _, _, _⟩, _, _⟩ :: _) _ _ _); (refine SLl.rdSeq rfl rfl (Rd.load rfl rfl (by ((apply Reads.blk; (· (repeat (apply Sel.here))); (· rfl))))) ?_)) | ((show SLl _ _ _ _ _ (⟨⟨_, .fieldAddr _ _ _, _, _, _, _⟩, _, _⟩ :: _) _ _ _); (refine SLl.pu rfl rfl rfl (Pu.fieldAddr rfl) ?_)) | ((show SLl _ _ _ _ _ (⟨⟨_, .call ⟨.builtin .len, _, _⟩, _, _, _, _⟩, _, _⟩ :: _) _ _ _); refine SLl.rdSeq rfl rfl (Rd.len rfl (by ((apply Len.rs; exact Rs.mono (by assumption) (by (repeat' (first | exact Ent.refl | apply Ent.skip))))))) ?_) | ((show SLl _ _ _ _ _ (⟨⟨_, .binOp _ _ _ _ _, _, _, _, _⟩, _, _⟩ :: _) _ _ _); ((refine SLl.cmp rfl rfl rfl rfl rfl rfl ?_ ?_ <;> intro hq <;> simp only [cmpP] at hq <;> try ((exfalso; omega))))))) | (first | refine SLc.seq ?_ | refine SLc.region rfl ?_ | refine SLc.condF rfl ?_ | refine SLc.exit ?_ | refine SLc.ret ?_)))
    refine And.intro rfl (Exists.intro _ (Exists.intro _ (And.intro rfl (And.intro ?_ (And.intro ?_ rfl)))))
    · (repeat' (first | exact Ent.refl | apply Ent.skip))
    · exact congrArg Value.bool hall.symm

theorem RFrom_no (W : World) (F : List Chunk) (sl : Value) (G : List Node) (root : Int) (hg : GraphR W F sl G) (hm : mayF G root = false) :
    SLf Try.prog W 32 [.agg #[sl], .int .i64 root] F (fun v σ => v = .slice none 0 0 ∧ σ = F) := by
  have hrs := hg.rs
  have hl := hg.len
  have hlen : (G.map Node.cells).length = G.length := by simp
  refine SLf.enter Try.func32 rfl (Nat.le_of_ble_eq_true rfl) ?_
  (repeat' (first | (first | refine SLl.nil ?_ | ((show SLl _ _ _ _ _ (⟨⟨_, _, _, _, _, _⟩, _, _⟩ :: _) _ _ _); first | refine SLl.ev rfl rfl rfl rfl ?_ | ((show SLl _ _ _ _ _ (⟨⟨_, .load _ _, _, _, _, _⟩, _, _⟩ :: _) _ _ _); (refine SLl.rdSeq rfl rfl (Rd.loadN rfl rfl (by ((apply ReadsN.blk0; (· (repeat (apply Sel.here)))))) (by rfl)) ?_)) | ((show SLl _ _ _ _ _ (⟨⟨_, .box _ _, _, _, _, _⟩, _, _⟩ :: _) _ _ _); refine SLl.seq rfl rfl (SLo.boxC rfl (by (exact Cel.agg)) ?_); intro b))) | (first | refine SLc.seq ?_ | refine SLc.region rfl ?_)))
  refine SLl.seq rfl rfl (SLo.call plain81 rfl (SLf.mono (Sound_ok W _ sl G (hg.mono (by (repeat' (first | exact Ent.refl | apply Ent.skip))))) ?_))
  rintro v σ ⟨hv, rfl⟩
  cases hmg : mayG G with
  | false =>
    rw [hmg] at hv
    subst hv
    (repeat' (first | (first | refine SLl.nil ?_ | ((show SLl _ _ _ _ _ (⟨⟨_, _, _, _, _, _⟩, _, _⟩ :: _) _ _ _); first | refine SLl.ev rfl rfl rfl rfl ?_ | refine SLl.skip rfl rfl ?_)) | (first | refine SLc.seq ?_ | refine SLc.region rfl ?_ | refine SLc.condT rfl ?_ | refine SLc.ret ?_)))
    (refine And.intro rfl (Exists.intro _ (Exists.intro _ (And.intro rfl (And.intro ?_ (And.intro ?_ rfl))))); (· (repeat' (first | exact Ent.refl | apply Ent.skip))); (try rfl))
  | true =>
    rw [hmg] at hv
    subst hv
    have hr : ¬ (0 ≤ root ∧ root < (G.length : Int)) := by
      intro h
      unfold mayF at hm
      rw [hmg] at hm
      simp at hm
      omega
    (repeat' (first | (first | refine SLl.nil ?_ | ((show SLl _ _ _ _ _ (⟨⟨_, _, _, _, _, _⟩, _, _⟩ :: _) _ _ _); first | refine SLl.ev rfl rfl rfl rfl ?_ | ((show SLl _ _ _ _ _ (⟨⟨_, .load _ _, _, _, _, _⟩, _, _⟩ :: _) _ _ _); (refine SLl.rdSeq rfl rfl (Rd.load rfl rfl (by ((apply Reads.blk; (· (repeat (apply Sel.here))); (· rfl))))) ?_)) | ((show SLl _ _ _ _ _ (⟨⟨_, .fieldAddr _ _ _, _, _, _, _⟩, _, _⟩ :: _) _ _ _); (refine SLl.pu rfl rfl rfl (Pu.fieldAddr rfl) ?_)) | ((show SLl _ _ _ _ _ (⟨⟨_, .call ⟨.builtin .len, _, _⟩, _, _, _, _⟩, _, _⟩ :: _) _ _ _); refine SLl.rdSeq rfl rfl (Rd.len rfl (by ((apply Len.rs; exact Rs.mono (by assumption) (by (repeat' (first | exact Ent.refl | apply Ent.skip))))))) ?_) | ((show SLl _ _ _ _ _ (⟨⟨_, .binOp _ _ _ _ _, _, _, _, _⟩, _, _⟩ :: _) _ _ _); ((refine SLl.cmp rfl rfl rfl rfl rfl rfl ?_ ?_ <;> intro hq <;> simp only [cmpP] at hq <;> try ((exfalso; omega))))) | refine SLl.skip rfl rfl ?_)) | (first | refine SLc.seq ?_ | refine SLc.region rfl ?_ | refine SLc.condT rfl ?_ | refine SLc.ret ?_)))
    all_goals (refine And.intro rfl (Exists.intro _ (Exists.intro _ (And.intro rfl (And.intro ?_ (And.intro ?_ rfl))))); (· (repeat' (first | exact Ent.refl | apply Ent.skip))); (try rfl))

theorem RFrom_yes (W : World) (F : List Chunk) (sl : Value) (G : List Node) (root : Nat) (hg : GraphR W F sl G) (hm : mayF G root = true) (hb : G.length ≤ 281474976710656) :
    SLf Try.prog W 32 [.agg #[sl], .int .i64 root] F (fun v σ => v ≠ .slice none 0 0 ∧ σ = .row v 4 1 (bools (fromL G root)) :: F) := by
  obtain ⟨h0, h1, hin⟩ := mayF_spec hm
  have hmg : mayG G = true := by unfold mayF at hm; simp only [Bool.and_eq_true] at hm; exact hm.1
  have hrs := hg.rs
  have hl := hg.len
  have hlen : (G.map Node.cells).length = G.length := by simp
  refine SLf.enter Try.func32 rfl (Nat.le_of_ble_eq_true rfl) ?_
  (repeat' (first | (first | refine SLl.nil ?_ | ((show SLl _ _ _ _ _ (⟨⟨_, _, _, _, _, _⟩, _, _⟩ :: _) _ _ _); first | refine SLl.ev rfl rfl rfl rfl ?_ | ((show SLl _ _ _ _ _ (⟨⟨_, .load _ _, _, _, _, _⟩, _, _⟩ :: _) _ _ _); (refine SLl.rdSeq rfl rfl (Rd.loadN rfl rfl (by ((apply ReadsN.blk0; (· (repeat (apply Sel.here)))))) (by rfl)) ?_)) | ((show SLl _ _ _ _ _ (⟨⟨_, .box _ _, _, _, _, _⟩, _, _⟩ :: _) _ _ _); refine SLl.seq rfl rfl (SLo.boxC rfl (by (exact Cel.agg)) ?_); intro b))) | (first | refine SLc.seq ?_ | refine SLc.region rfl ?_)))
  refine SLl.seq rfl rfl (SLo.call plain81 rfl (SLf.mono (Sound_ok W _ sl G (hg.mono (by (repeat' (first | exact Ent.refl | apply Ent.skip))))) ?_))
  rintro v σ ⟨hv, rfl⟩
  rw [hmg] at hv
  subst hv
  (repeat' (first | (first | refine SLl.nil ?_ | ((show SLl _ _ _ _ _ (⟨⟨_, _, _, _, _, _⟩, _, _⟩ :: _) _ _ _); first | refine SLl.ev rfl rfl rfl rfl ?_ | ((show SLl _ _ _ _ _ (⟨⟨_, .load _ _, _, _, _, _⟩, _, _⟩ :: _) _ _ _); (refine SLl.rdSeq rfl rfl (Rd.load rfl rfl (by ((apply Reads.blk; (· (repeat (apply Sel.here))); (· rfl))))) ?_)) | ((show SLl _ _ _ _ _ (⟨⟨_, .fieldAddr _ _ _, _, _, _, _⟩, _, _⟩ :: _) _ _ _); (refine SLl.pu rfl rfl rfl (Pu.fieldAddr rfl) ?_)) | ((show SLl _ _ _ _ _ (⟨⟨_, .call ⟨.builtin .len, _, _⟩, _, _, _, _⟩, _, _⟩ :: _) _ _ _); refine SLl.rdSeq rfl rfl (Rd.len rfl (by ((apply Len.rs; exact Rs.mono (by assumption) (by (repeat' (first | exact Ent.refl | apply Ent.skip))))))) ?_) | ((show SLl _ _ _ _ _ (⟨⟨_, .binOp _ _ _ _ _, _, _, _, _⟩, _, _⟩ :: _) _ _ _); ((refine SLl.cmp rfl rfl rfl rfl rfl rfl ?_ ?_ <;> intro hq <;> simp only [cmpP] at hq <;> try ((exfalso; omega))))))) | (first | refine SLc.seq ?_ | refine SLc.region rfl ?_ | refine SLc.condF rfl ?_ | refine SLc.skip ?_)))
  refine SLl.seq rfl rfl (SLo.makeSlice (by rfl) (by omega) rfl rfl (by omega) (by omega) ?_)
  intro out hout
  rw [bools_rep, hlen]
  have hbl := @bools_len (List.replicate G.length false)
  have hrl : (List.replicate G.length false).length = G.length := by simp
  have hat : (bools (List.replicate G.length false))[root]? = some [.bool false] := bools_at (by rw [List.getElem?_replicate, if_pos (by omega)])
  (repeat' (first | (first | refine SLl.nil ?_ | ((show SLl _ _ _ _ _ (⟨⟨_, _, _, _, _, _⟩, _, _⟩ :: _) _ _ _); first | refine SLl.ev rfl rfl rfl rfl ?_ | ((show SLl _ _ _ _ _ (⟨⟨_, .indexAddr _ _ _, _, _, _, _⟩, _, _⟩ :: _) _ _ _); (refine SLl.rdSeq rfl rfl (Rd.indexAddr rfl rfl (by ((apply Len.row; (· (repeat (apply Sel.here)))))) (by (rfl)) (by omega)) ?_)) | ((show SLl _ _ _ _ _ (⟨⟨_, .store _ _ _, _, _, _, _⟩, _, _⟩ :: _) _ _ _); ((refine SLl.seq0 rfl (SLo.store rfl rfl rfl (by (exact One.lit rfl)) (by ((apply Wr.row; (· (assumption)); (· exact Nat.le_of_ble_eq_true rfl); (· (repeat (apply Upd.here)))))) ?_)))))) | (first | refine SLc.seq ?_ | refine SLc.region rfl ?_ | refine SLc.block ?_)))
  refine SLc.loop (ι := Int × List Bool) (fun p => [(6, .int .i64 p.1), (5, out), (2, .pointer (some ⟨b, 0, none⟩))]) (fun p => .row out 4 1 (bools p.2) :: .blk b 24 [sl] :: F)
    (fun p => -1 ≤ p.1 ∧ p.1 < G.length ∧ p.2.length = G.length ∧ fromLoop G (p.1 + 1).toNat p.2 = fromL G root) (fun p => (p.1 + 1).toNat) ((root : Int), (List.replicate G.length false).set root true)
    ⟨by omega, by omega, by simp, by simp [fromL]⟩ (by (repeat' (first | exact trivial | apply And.intro | rfl))) (Ent.row bools_set .refl) ?_
  rintro ⟨i, l⟩ ⟨hi1, hi2, hll, hfr⟩
  dsimp only at hi1 hi2 hll hfr ⊢
  have hbl := @bools_len l
  by_cases hpos : 0 ≤ i
  · obtain ⟨k, rfl⟩ := Int.eq_ofNat_of_zero_le hpos
    have hk : k < l.length := by omega
    have hlk : l[k]? = some l[k] := List.getElem?_eq_getElem hk
    have hx : G[k]? = some (G[k]'(by omega)) := List.getElem?_eq_getElem (by omega)
    generalize G[k]'(by omega) = x at hx
    have hca := cells_at hx
    have hxi := hg.ins x (List.mem_of_getElem? hx)
    have hxl := hg.lens x (List.mem_of_getElem? hx)
    have hstep : fromLoop G (k + 1) l = fromLoop G k (fromStep G l k) := rfl
    have hto : ((k : Int) + 1).toNat = k + 1 := by omega
    rw [hto, hstep] at hfr
    have hto2 : ((k : Int) - 1 + 1).toNat = k := by omega
    have hil := @ints_len x.ins
    cases hb0 : l[k] with
    | false =>
      rw [hb0] at hlk
      have hba := bools_at hlk
      have hst : fromStep G l k = l := by unfold fromStep; rw [if_neg (by rw [hlk]; simp)]
      rw [hst] at hfr
      (repeat' (first | (first | refine SLl.nil ?_ | ((show SLl _ _ _ _ _ (⟨⟨_, _, _, _, _, _⟩, _, _⟩ :: _) _ _ _); first | refine SLl.ev rfl rfl rfl rfl ?_ | ((show SLl _ _ _ _ _ (⟨⟨_, .binOp _ _ _ _ _, _, _, _, _⟩, _, _⟩ :: _) _ _ _); ((refine SLl.cmp rfl rfl rfl rfl rfl rfl ?_ ?_ <;> intro hq <;> simp only [cmpP] at hq <;> try ((exfalso; omega))))))) | (first | refine SLc.seq ?_ | refine SLc.region rfl ?_ | refine SLc.condT rfl ?_ | refine SLc.block ?_ | refine SLc.skip ?_)))
      refine SLc.loop (ι := Unit) (fun _ => [(7, .int .i64 0), (6, .int .i64 k), (5, out), (2, .pointer (some ⟨b, 0, none⟩))]) (fun _ => .row out 4 1 (bools l) :: .blk b 24 [sl] :: F) (fun _ => True) (fun _ => 0) () trivial (by (repeat' (first | exact trivial | apply And.intro | rfl))) .refl ?_
      rintro _ _
      (repeat' (first | (first | refine SLl.nil ?_ | ((show SLl _ _ _ _ _ (⟨⟨_, _, _, _, _, _⟩, _, _⟩ :: _) _ _ _); first | refine SLl.ev rfl rfl rfl rfl ?_ | ((show SLl _ _ _ _ _ (⟨⟨_, .load _ _, _, _, _, _⟩, _, _⟩ :: _) _ _ _); (refine SLl.rdSeq rfl rfl (Rd.load rfl rfl (by ((apply Reads.row; (· (repeat (apply Sel.here))); (· (assumption)); (· rfl))))) ?_)) | ((show SLl _ _ _ _ _ (⟨⟨_, .indexAddr _ _ _, _, _, _, _⟩, _, _⟩ :: _) _ _ _); (refine SLl.rdSeq rfl rfl (Rd.indexAddr rfl rfl (by ((apply Len.row; (· (repeat (first | apply Sel.here | apply Sel.there)))))) (by (rfl)) (by omega)) ?_)) | ((show SLl _ _ _ _ _ (⟨⟨_, .binOp _ _ _ _ _, _, _, _, _⟩, _, _⟩ :: _) _ _ _); (refine SLl.pu rfl rfl rfl (Pu.sub rfl rfl (IntWalk.i64_in _ (by omega))) ?_)) | refine SLl.skip rfl rfl ?_)) | (first | refine SLc.seq ?_ | refine SLc.region rfl ?_ | refine SLc.condF rfl ?_ | refine SLc.exit ?_)))
      refine And.intro rfl (Exists.intro ((k : Int) - 1, l) (And.intro ⟨by dsimp only; omega, by dsimp only; omega, hll, by dsimp only; rw [hto2]; exact hfr⟩ (And.intro (by dsimp only; omega) (And.intro (by (repeat' (first | exact trivial | apply And.intro | rfl))) .refl))))
    | true =>
      rw [hb0] at hlk
      have hst : fromStep G l k = markAll l x.ins := by unfold fromStep; rw [if_pos hlk, hx]; rfl
      rw [hst] at hfr
      (repeat' (first | (first | refine SLl.nil ?_ | ((show SLl _ _ _ _ _ (⟨⟨_, _, _, _, _, _⟩, _, _⟩ :: _) _ _ _); first | refine SLl.ev rfl rfl rfl rfl ?_ | ((show SLl _ _ _ _ _ (⟨⟨_, .binOp _ _ _ _ _, _, _, _, _⟩, _, _⟩ :: _) _ _ _); ((refine SLl.cmp rfl rfl rfl rfl rfl rfl ?_ ?_ <;> intro hq <;> simp only [cmpP] at hq <;> try ((exfalso; omega))))))) | (first | refine SLc.seq ?_ | refine SLc.region rfl ?_ | refine SLc.condT rfl ?_ | refine SLc.block ?_ | refine SLc.skip ?_)))
      refine SLc.loop (ι := Nat × List Bool) (fun p => [(7, .int .i64 p.1), (6, .int .i64 k), (5, out), (2, .pointer (some ⟨b, 0, none⟩))]) (fun p => .row out 4 1 (bools p.2) :: .blk b 24 [sl] :: F)
        (fun p => p.1 ≤ x.ins.length ∧ p.2.length = G.length ∧ p.2[k]? = some true ∧ markAll p.2 (x.ins.drop p.1) = markAll l x.ins) (fun p => x.ins.length - p.1) (0, l)
        ⟨Nat.zero_le _, hll, hlk, rfl⟩ (by (repeat' (first | exact trivial | apply And.intro | rfl))) .refl ?_
      rintro ⟨j, l'⟩ ⟨hj, hll', hlk', hma⟩
      dsimp only at hj hll' hma hlk' ⊢
      have hbl' := @bools_len l'
      have hba := bools_at hlk'
      by_cases hlj : j < x.ins.length
      · have hxj : x.ins[j]? = some x.ins[j] := List.getElem?_eq_getElem hlj
        have hdr : x.ins.drop j = x.ins[j] :: x.ins.drop (j + 1) := List.drop_eq_getElem_cons hlj
        have hq0 := hin k x hx x.ins[j] (List.getElem_mem hlj)
        generalize x.ins[j] = q at hxj hdr hq0
        obtain ⟨qn, rfl⟩ := Int.eq_ofNat_of_zero_le hq0.1
        have hcj := ints_at hxj
        have hqn : qn < l'.length := by omega
        have hbq : (bools l')[qn]? = some [.bool l'[qn]] := bools_at (List.getElem?_eq_getElem hqn)
        rw [hdr] at hma
        (repeat' (first | (first | refine SLl.nil ?_ | ((show SLl _ _ _ _ _ (⟨⟨_, _, _, _, _, _⟩, _, _⟩ :: _) _ _ _); first | refine SLl.ev rfl rfl rfl rfl ?_ | ((show SLl _ _ _ _ _ (⟨⟨_, .load _ _, _, _, _, _⟩, _, _⟩ :: _) _ _ _); (refine SLl.rdSeq rfl rfl (Rd.load rfl rfl (by (first | (apply Reads.blk; (· (repeat (first | apply Sel.here | apply Sel.there))); (· rfl)) | (apply Reads.row; (· (repeat (first | apply Sel.here | apply Sel.there))); (· (assumption)); (· rfl)) | (apply Reads.rs; (· exact Rs.mono (by assumption) (by (repeat' (first | exact Ent.refl | apply Ent.skip)))); (· (assumption)); (· rfl))))) ?_)) | ((show SLl _ _ _ _ _ (⟨⟨_, .fieldAddr _ _ _, _, _, _, _⟩, _, _⟩ :: _) _ _ _); (first | refine SLl.pu rfl rfl rfl (Pu.fieldAddr rfl) ?_ | refine SLl.rdSeq rfl rfl (Rd.fieldAddrEl rfl (by ((apply Len.rs; exact Rs.mono (by assumption) (by (repeat' (first | exact Ent.refl | apply Ent.skip)))))) (by omega)) ?_)) | ((show SLl _ _ _ _ _ (⟨⟨_, .indexAddr _ _ _, _, _, _, _⟩, _, _⟩ :: _) _ _ _); (refine SLl.rdSeq rfl rfl (Rd.indexAddr rfl rfl (by (first | (apply Len.row; (· (repeat (first | apply Sel.here | apply Sel.there)))) | (apply Len.rs; exact Rs.mono (by assumption) (by (repeat' (first | exact Ent.refl | apply Ent.skip)))))) (by (rfl)) (by omega)) ?_)) | ((show SLl _ _ _ _ _ (⟨⟨_, .call ⟨.builtin .len, _, _⟩, _, _, _, _⟩, _, _⟩ :: _) _ _ _); refine SLl.rdSeq rfl rfl (Rd.len rfl (by ((apply Len.rs; exact Rs.mono (by assumption) (by (repeat' (first | exact Ent.refl | apply Ent.skip))))))) ?_) | ((show SLl _ _ _ _ _ (⟨⟨_, .binOp _ _ _ _ _, _, _, _, _⟩, _, _⟩ :: _) _ _ _); (first | refine SLl.pu rfl rfl rfl (Pu.add rfl rfl (IntWalk.i64_in _ (by omega))) ?_ | (refine SLl.cmp rfl rfl rfl rfl rfl rfl ?_ ?_ <;> intro hq <;> simp only [cmpP] at hq <;> try ((exfalso; omega))))) | ((show SLl _ _ _ _ _ (⟨⟨_, .store _ _ _, _, _, _, _⟩, _, _⟩ :: _) _ _ _); ((refine SLl.seq0 rfl (SLo.store rfl rfl rfl (by (exact One.lit rfl)) (by ((apply Wr.row; (· (assumption)); (· exact Nat.le_of_ble_eq_true rfl); (· (repeat (apply Upd.here)))))) ?_)))))) | (first | refine SLc.seq ?_ | refine SLc.region rfl ?_ | refine SLc.condT rfl ?_ | refine SLc.block ?_ | refine SLc.skip ?_)))
        refine And.intro rfl (Exists.intro (j + 1, l'.set qn true) (And.intro ⟨by dsimp only; omega, by simp [hll'], ?_, hma⟩ (And.intro (by dsimp only; omega) (And.intro (by (repeat' (first | exact trivial | apply And.intro | rfl))) (Ent.row bools_set .refl)))))
        dsimp only
        rw [List.getElem?_set_ne (by omega)]
        exact hlk'
      · have hj' : x.ins.drop j = [] := List.drop_eq_nil_of_le (by omega)
        rw [hj'] at hma
        have hma' : l' = markAll l x.ins := hma
        rw [← hma'] at hfr
        (repeat' (first | (first | refine SLl.nil ?_ | ((show SLl _ _ _ _ _ (⟨⟨_, _, _, _, _, _⟩, _, _⟩ :: _) _ _ _); first | refine SLl.ev rfl rfl rfl rfl ?_ | ((show SLl _ _ _ _ _ (⟨⟨_, .load _ _, _, _, _, _⟩, _, _⟩ :: _) _ _ _); (refine SLl.rdSeq rfl rfl (Rd.load rfl rfl (by (first | (apply Reads.blk; (· (repeat (first | apply Sel.here | apply Sel.there))); (· rfl)) | (apply Reads.row; (· (repeat (first | apply Sel.here | apply Sel.there))); (· (assumption)); (· rfl)) | (apply Reads.rs; (· exact Rs.mono (by assumption) (by (repeat' (first | exact Ent.refl | apply Ent.skip)))); (· (assumption)); (· rfl))))) ?_)) | ((show SLl _ _ _ _ _ (⟨⟨_, .fieldAddr _ _ _, _, _, _, _⟩, _, _⟩ :: _) _ _ _); (first | refine SLl.pu rfl rfl rfl (Pu.fieldAddr rfl) ?_ | refine SLl.rdSeq rfl rfl (Rd.fieldAddrEl rfl (by ((apply Len.rs; exact Rs.mono (by assumption) (by (repeat' (first | exact Ent.refl | apply Ent.skip)))))) (by omega)) ?_)) | ((show SLl _ _ _ _ _ (⟨⟨_, .indexAddr _ _ _, _, _, _, _⟩, _, _⟩ :: _) _ _ _); (refine SLl.rdSeq rfl rfl (Rd.indexAddr rfl rfl (by (first | (apply Len.row; (· (repeat (first | apply Sel.here | apply Sel.there)))) | (apply Len.rs; exact Rs.mono (by assumption) (by (repeat' (first | exact Ent.refl | apply Ent.skip)))))) (by (rfl)) (by omega)) ?_)) | ((show SLl _ _ _ _ _ (⟨⟨_, .call ⟨.builtin .len, _, _⟩, _, _, _, _⟩, _, _⟩ :: _) _ _ _); refine SLl.rdSeq rfl rfl (Rd.len rfl (by ((apply Len.rs; exact Rs.mono (by assumption) (by (repeat' (first | exact Ent.refl | apply Ent.skip))))))) ?_) | ((show SLl _ _ _ _ _ (⟨⟨_, .binOp _ _ _ _ _, _, _, _, _⟩, _, _⟩ :: _) _ _ _); (first | refine SLl.pu rfl rfl rfl (Pu.sub rfl rfl (IntWalk.i64_in _ (by omega))) ?_ | (refine SLl.cmp rfl rfl rfl rfl rfl rfl ?_ ?_ <;> intro hq <;> simp only [cmpP] at hq <;> try ((exfalso; omega))))))) | (first | refine SLc.seq ?_ | refine SLc.region rfl ?_ | refine SLc.condF rfl ?_ | refine SLc.exit ?_)))
        refine And.intro rfl (Exists.intro ((k : Int) - 1, l') (And.intro ⟨by dsimp only; omega, by dsimp only; omega, hll', by dsimp only; rw [hto2]; exact hfr⟩ (And.intro (by dsimp only; omega) (And.intro (by (repeat' (first | exact trivial | apply And.intro | rfl))) .refl))))
  · have hi0 : (i + 1).toNat = 0 := by omega
    rw [hi0] at hfr
    have hfr' : l = fromL G root := hfr
    subst hfr'
    (repeat' (first | (first | refine SLl.nil ?_ | ((show SLl _ _ _ _ _ (⟨⟨_, _, _, _, _, _⟩, _, _⟩ :: _) _ _ _); first | refine SLl.ev rfl rfl rfl rfl ?_ | ((show SLl _ _ _ _ _ (⟨⟨_, .binOp _ _ _ _ _, _, _, _, _⟩, _, _⟩ :: _) _ _ _); ((refine SLl.cmp rfl rfl rfl rfl rfl rfl ?_ ?_ <;> intro hq <;> simp only [cmpP] at hq <;> try ((exfalso; omega))))))) | (first | refine SLc.seq ?_ | refine SLc.region rfl ?_ | refine SLc.condF rfl ?_ | refine SLc.exit ?_ | refine SLc.ret ?_)))
    refine And.intro rfl (Exists.intro _ (Exists.intro _ (And.intro rfl (And.intro ?_ (And.intro hout rfl)))))
    (repeat' (first | exact Ent.refl | (refine Ent.cons (by (repeat (apply Sel.here))) ?_) | apply Ent.skip))
end Go.Sl
