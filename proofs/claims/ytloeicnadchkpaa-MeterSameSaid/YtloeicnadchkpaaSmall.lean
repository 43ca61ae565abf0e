/- The guard Small of the laws: what it lets in. -/
import Derived.Test.YtloeicnadchkpaaArgs2
import Derived.Test.YtloeicnadchkpaaReach3
namespace Go.Sl
open Go.Proofs
attribute [local irreducible] SLc SLl SLo SLf Pu Rd

theorem Small3_ok (W : World) (F : List Chunk) (shp dat : Value) {l1 l2 : List (List Value)} (h1 : Rs W F shp 1 l1) (h2 : Rs W F dat 1 l2) :
    SLf Try.prog W 79 [.agg #[shp, dat]] F (fun v σ => σ = F ∧ ∃ b, v = .bool b) := by
  refine SLf.enter Try.func79 rfl (Nat.le_of_ble_eq_true rfl) ?_
  (repeat' (first | (first | refine SLl.nil ?_ | ((show SLl _ _ _ _ _ (⟨⟨_, _, _, _, _, _⟩, _, _⟩ :: _) _ _ _); first | refine SLl.ev rfl rfl rfl rfl ?_ | ((show SLl _ _ _ _ _ (⟨⟨_, .load _ _, _, _, _, _⟩, _, _⟩ :: _) _ _ _); (refine SLl.rdSeq rfl rfl (Rd.load rfl rfl (by ((apply Reads.blk; (· (repeat (apply Sel.here))); (· rfl))))) ?_)) | ((show SLl _ _ _ _ _ (⟨⟨_, .fieldAddr _ _ _, _, _, _, _⟩, _, _⟩ :: _) _ _ _); (refine SLl.pu rfl rfl rfl (Pu.fieldAddr rfl) ?_)) | ((show SLl _ _ _ _ _ (⟨⟨_, .call ⟨.builtin .len, _, _⟩, _, _, _, _⟩, _, _⟩ :: _) _ _ _); refine SLl.rdSeq rfl rfl (Rd.len rfl (by ((apply Len.rs; exact Rs.mono (by assumption) (by (repeat' (first | exact Ent.refl | apply Ent.skip))))))) ?_) | ((show SLl _ _ _ _ _ (⟨⟨_, .binOp _ _ _ _ _, _, _, _, _⟩, _, _⟩ :: _) _ _ _); ((refine SLl.cmp rfl rfl rfl rfl rfl rfl ?_ ?_ <;> intro hq <;> simp only [cmpP] at hq <;> try (fail)))) | ((show SLl _ _ _ _ _ (⟨⟨_, .box _ _, _, _, _, _⟩, _, _⟩ :: _) _ _ _); refine SLl.seq rfl rfl (SLo.boxC rfl (by (exact Cel.agg)) ?_); intro b) | refine SLl.skip rfl rfl ?_)) | (first | refine SLc.seq ?_ | refine SLc.region rfl ?_ | refine SLc.ret ?_)))
  all_goals
    refine And.intro rfl (Exists.intro _ (Exists.intro _ (And.intro rfl (And.intro ?_ (And.intro rfl (Exists.intro _ rfl))))))
    (repeat' (first | exact Ent.refl | apply Ent.skip))

abbrev Gph := Value × List Node
def glen (p : Gph) : Nat := p.2.length + insSum p.2
def gcells (Gs : List Gph) : List (List Value) := Gs.map fun p => [p.1]
theorem gcells_at {Gs : List Gph} {k : Nat} {p : Gph} (h : Gs[k]? = some p) : (gcells Gs)[k]? = some [p.1] := by simp [gcells, h]
theorem gcells_len {Gs : List Gph} : (gcells Gs).length = Gs.length := by simp [gcells]
def gsum (Gs : List Gph) (i : Nat) : Nat := ((Gs.take i).map glen).sum
theorem gsum_succ {Gs : List Gph} {i : Nat} {p : Gph} (h : Gs[i]? = some p) : gsum Gs (i + 1) = gsum Gs i + (p.2.length + insSum p.2) := by
  obtain ⟨hk, rfl⟩ := List.getElem?_eq_some_iff.1 h
  unfold gsum
  rw [List.take_succ_eq_append_getElem hk, List.map_append, List.sum_append]
  simp [glen]
set_option maxHeartbeats 1000000 in
theorem Small10_ok (W : World) (F : List Chunk) (lv : Value) (Gs : List Gph) (hl : Rs W F lv 1 (gcells Gs)) (hg : ∀ p ∈ Gs, GraphX W p.1 p.2) (hn : Gs.length ≤ 40) :
    SLf Try.prog W 28 [lv] F (fun v σ => σ = F ∧ ∃ b, v = .bool b ∧ (b = true → gsum Gs Gs.length ≤ 4000)) := by
  have hgl := @gcells_len Gs
  refine SLf.enter Try.func28 rfl (Nat.le_of_ble_eq_true rfl) ?_
  (repeat' (first | (first | refine SLl.nil ?_ | ((show SLl _ _ _ _ _ (⟨⟨_, _, _, _, _, _⟩, _, _⟩ :: _) _ _ _); refine SLl.ev rfl rfl rfl rfl ?_)) | (first | refine SLc.seq ?_ | refine SLc.region rfl ?_ | refine SLc.block ?_)))
  refine SLc.loop (ι := Nat × Int) (fun p => [(4, .int .i64 p.1), (3, .int .i64 p.2), (0, lv)]) (fun _ => F)
    (fun p => p.1 ≤ Gs.length ∧ 0 ≤ p.2 ∧ p.2 ≤ p.1 * 140737488355328 + 1125899906842624 ∧ (p.2 ≤ 4000 → gsum Gs p.1 ≤ p.2)) (fun p => Gs.length - p.1) (0, 0) ⟨Nat.zero_le _, by omega, by omega, fun _ => by simp [gsum]⟩ (by (repeat' (first | exact trivial | apply And.intro | rfl))) .refl ?_
  rintro ⟨i, n⟩ ⟨hi, hn0, hn1, hn2⟩
  dsimp only at hi hn0 hn1 hn2 ⊢
  by_cases hlt : i < Gs.length
  · have hp : Gs[i]? = some Gs[i] := List.getElem?_eq_getElem hlt
    generalize Gs[i] = p at hp
    have hgi := gcells_at hp
    have hgx := hg p (List.mem_of_getElem? hp)
    obtain ⟨sl, G⟩ := p
    dsimp only at hgi hgx
    have hrs := hgx.rs F
    have hGl := hgx.len
    have hGm : (G.map Node.cells).length = G.length := by simp
    have hsu := gsum_succ hp
    dsimp only at hsu
    (repeat' (first | (first | refine SLl.nil ?_ | ((show SLl _ _ _ _ _ (⟨⟨_, _, _, _, _, _⟩, _, _⟩ :: _) _ _ _); first | refine SLl.ev rfl rfl rfl rfl ?_ | ((show SLl _ _ _ _ _ (⟨⟨_, .load _ _, _, _, _, _⟩, _, _⟩ :: _) _ _ _); (refine SLl.rdSeq rfl rfl (Rd.load rfl rfl (by ((apply Reads.rs; (· exact Rs.mono (by assumption) (by (repeat' (exact Ent.refl)))); (· (assumption)); (· rfl))))) ?_)) | ((show SLl _ _ _ _ _ (⟨⟨_, .fieldAddr _ _ _, _, _, _, _⟩, _, _⟩ :: _) _ _ _); (refine SLl.rdSeq rfl rfl (Rd.fieldAddrEl rfl (by ((apply Len.rs; exact Rs.mono (by assumption) (by (repeat' (exact Ent.refl)))))) (by omega)) ?_)) | ((show SLl _ _ _ _ _ (⟨⟨_, .indexAddr _ _ _, _, _, _, _⟩, _, _⟩ :: _) _ _ _); (refine SLl.rdSeq rfl rfl (Rd.indexAddr rfl rfl (by ((apply Len.rs; exact Rs.mono (by assumption) (by (repeat' (exact Ent.refl)))))) (by (rfl)) (by omega)) ?_)) | ((show SLl _ _ _ _ _ (⟨⟨_, .call ⟨.builtin .len, _, _⟩, _, _, _, _⟩, _, _⟩ :: _) _ _ _); refine SLl.rdSeq rfl rfl (Rd.len rfl (by ((apply Len.rs; exact Rs.mono (by assumption) (by (repeat' (exact Ent.refl))))))) ?_) | ((show SLl _ _ _ _ _ (⟨⟨_, .binOp _ _ _ _ _, _, _, _, _⟩, _, _⟩ :: _) _ _ _); (first | refine SLl.pu rfl rfl rfl (Pu.add rfl rfl (IntWalk.i64_in _ (by omega))) ?_ | (refine SLl.cmp rfl rfl rfl rfl rfl rfl ?_ ?_ <;> intro hq <;> simp only [cmpP] at hq <;> try ((exfalso; omega))))))) | (first | refine SLc.seq ?_ | refine SLc.region rfl ?_ | refine SLc.condT rfl ?_ | refine SLc.block ?_ | refine SLc.skip ?_)))
    refine SLc.loop (ι := Nat × Int) (fun q => [(5, .int .i64 q.1), (4, .int .i64 i), (3, .int .i64 q.2), (0, lv)]) (fun _ => F)
      (fun q => q.1 ≤ G.length ∧ 0 ≤ q.2 ∧ q.2 ≤ (i + 1) * 140737488355328 + 1125899906842624 ∧ (q.2 ≤ 4000 → gsum Gs i + G.length + insSum (G.take q.1) ≤ q.2)) (fun q => G.length - q.1) (0, n + ((G.map Node.cells).length : Nat)) ⟨Nat.zero_le _, by dsimp only; omega, by dsimp only; omega, fun h => by dsimp only at h ⊢; simp [insSum]; omega⟩ (by (repeat' (first | exact trivial | apply And.intro | rfl))) .refl ?_
    rintro ⟨k, m⟩ ⟨hk, hm0, hm1, hm2⟩
    dsimp only at hk hm0 hm1 hm2 ⊢
    by_cases hlk : k < G.length
    · have hx : G[k]? = some G[k] := List.getElem?_eq_getElem hlk
      generalize G[k] = x at hx
      have hca := cells_at hx
      have hxn := hgx.nodes x (List.mem_of_getElem? hx)
      obtain ⟨o1, o2, o3, o4, o5⟩ := hxn.ones
      replace o1 : One W F x.inv := One.lit o1
      replace o2 : One W F x.tov := One.lit o2
      replace o3 : One W F x.shp := One.lit o3
      replace o4 : One W F x.dat := One.lit o4
      replace o5 : One W F x.hks := One.lit o5
      have r1 := hxn.ins F
      have b1 := hxn.insl
      obtain ⟨l2, r2, b2⟩ := hxn.tov
      obtain ⟨l3, r3, b3⟩ := hxn.shp
      obtain ⟨l4, r4, b4⟩ := hxn.dat
      obtain ⟨l5, r5, b5⟩ := hxn.hks
      replace r2 := r2 F
      replace r3 := r3 F
      replace r4 := r4 F
      replace r5 := r5 F
      have hil := @ints_len x.ins
      have hit := insSum_take hx
      have hw : IntKind.i64.wrap ((l4.length : Int).tdiv 16) = ((l4.length / 16 : Nat) : Int) := by
        rw [Int.tdiv_eq_ediv_of_nonneg (by omega)]
        exact IntWalk.i64_in _ (by omega)
      have hq16 : ((l4.length / 16 : Nat) : Int) ≤ l4.length := by omega
      (repeat' (first | (first | refine SLl.nil ?_ | ((show SLl _ _ _ _ _ (⟨⟨_, _, _, _, _, _⟩, _, _⟩ :: _) _ _ _); first | refine SLl.ev rfl rfl rfl rfl ?_ | ((show SLl _ _ _ _ _ (⟨⟨_, .load _ _, _, _, _, _⟩, _, _⟩ :: _) _ _ _); (first | refine SLl.rdSeq rfl rfl (Rd.load rfl rfl (by (first | (apply Reads.blk; (· (repeat (apply Sel.here))); (· rfl)) | (apply Reads.rs; (· exact Rs.mono (by assumption) (by (repeat' (exact Ent.refl)))); (· (assumption)); (· rfl))))) ?_ | refine SLl.rdSeq rfl rfl (Rd.loadN rfl rfl (by ((apply ReadsN.rs0; (· exact Rs.mono (by assumption) (by (repeat' (exact Ent.refl)))); (· (assumption))))) (by rfl)) ?_)) | ((show SLl _ _ _ _ _ (⟨⟨_, .fieldAddr _ _ _, _, _, _, _⟩, _, _⟩ :: _) _ _ _); (first | refine SLl.pu rfl rfl rfl (Pu.fieldAddr rfl) ?_ | refine SLl.rdSeq rfl rfl (Rd.fieldAddrEl rfl (by ((apply Len.rs; exact Rs.mono (by assumption) (by (repeat' (exact Ent.refl)))))) (by omega)) ?_)) | ((show SLl _ _ _ _ _ (⟨⟨_, .indexAddr _ _ _, _, _, _, _⟩, _, _⟩ :: _) _ _ _); (refine SLl.rdSeq rfl rfl (Rd.indexAddr rfl rfl (by ((apply Len.rs; exact Rs.mono (by assumption) (by (repeat' (exact Ent.refl)))))) (by (rfl)) (by omega)) ?_)) | ((show SLl _ _ _ _ _ (⟨⟨_, .call ⟨.builtin .len, _, _⟩, _, _, _, _⟩, _, _⟩ :: _) _ _ _); refine SLl.rdSeq rfl rfl (Rd.len rfl (by ((apply Len.rs; exact Rs.mono (by assumption) (by (repeat' (first | exact Ent.refl | apply Ent.skip))))))) ?_) | ((show SLl _ _ _ _ _ (⟨⟨_, .binOp _ _ _ _ _, _, _, _, _⟩, _, _⟩ :: _) _ _ _); (first | refine SLl.pu rfl rfl rfl (Pu.add rfl rfl (IntWalk.i64_in _ (by omega))) ?_ | (refine SLl.cmp rfl rfl rfl rfl rfl rfl ?_ ?_ <;> intro hq <;> simp only [cmpP] at hq <;> try ((exfalso; omega))))) | ((show SLl _ _ _ _ _ (⟨⟨_, .store _ _ _, _, _, _, _⟩, _, _⟩ :: _) _ _ _); ((refine SLl.seq0 rfl (SLo.storeN rfl rfl rfl (by (repeat' (first | exact trivial | (apply And.intro; (· (first | exact One.lit rfl | exact One.mono (by assumption) (by (repeat' (first | exact Ent.refl | apply Ent.skip))))))))) (Nat.le_of_ble_eq_true rfl) (by (repeat (apply Upd.here))) ?_)))) | ((show SLl _ _ _ _ _ (⟨⟨_, .alloc _, _, _, _, _⟩, _, _⟩ :: _) _ _ _); refine SLl.seq rfl rfl (SLo.alloc ?_); intro b))) | (first | refine SLc.seq ?_ | refine SLc.region rfl ?_ | refine SLc.condT rfl ?_ | refine SLc.condF rfl ?_ | refine SLc.block ?_ | refine SLc.skip ?_ | refine SLc.exit ?_)))
      · refine SLl.pu rfl rfl rfl (Pu.quo rfl rfl (by decide) hw) ?_
        (repeat' (first | (first | refine SLl.nil ?_ | ((show SLl _ _ _ _ _ (⟨⟨_, _, _, _, _, _⟩, _, _⟩ :: _) _ _ _); first | refine SLl.ev rfl rfl rfl rfl ?_ | ((show SLl _ _ _ _ _ (⟨⟨_, .load _ _, _, _, _, _⟩, _, _⟩ :: _) _ _ _); (refine SLl.rdSeq rfl rfl (Rd.load rfl rfl (by ((apply Reads.blk; (· (repeat (apply Sel.here))); (· rfl))))) ?_)) | ((show SLl _ _ _ _ _ (⟨⟨_, .fieldAddr _ _ _, _, _, _, _⟩, _, _⟩ :: _) _ _ _); (refine SLl.pu rfl rfl rfl (Pu.fieldAddr rfl) ?_)) | ((show SLl _ _ _ _ _ (⟨⟨_, .call ⟨.builtin .len, _, _⟩, _, _, _, _⟩, _, _⟩ :: _) _ _ _); refine SLl.rdSeq rfl rfl (Rd.len rfl (by ((apply Len.rs; exact Rs.mono (by assumption) (by (repeat' (first | exact Ent.refl | apply Ent.skip))))))) ?_) | ((show SLl _ _ _ _ _ (⟨⟨_, .binOp _ _ _ _ _, _, _, _, _⟩, _, _⟩ :: _) _ _ _); (first | refine SLl.pu rfl rfl rfl (Pu.add rfl rfl (IntWalk.i64_in _ (by omega))) ?_ | (refine SLl.cmp rfl rfl rfl rfl rfl rfl ?_ ?_ <;> intro hq <;> simp only [cmpP] at hq <;> try (fail)))) | refine SLl.skip rfl rfl ?_)) | (first | refine SLc.seq ?_ | refine SLc.region rfl ?_ | refine SLc.condT rfl ?_ | refine SLc.ret ?_)))
        · refine And.intro rfl (Exists.intro _ (Exists.intro _ (And.intro rfl (And.intro ?_ (And.intro rfl (Exists.intro _ (And.intro rfl (fun h => by cases h))))))))
          (repeat' (first | exact Ent.refl | apply Ent.skip))
        · refine SLl.rdSeq rfl rfl (Rd.loadN (vs := [x.shp, x.dat]) rfl rfl (ReadsN.blkP 2 .here rfl) (by rfl)) ?_
          refine SLl.seq rfl rfl (SLo.call plain79 rfl (SLf.mono (Small3_ok W _ x.shp x.dat (r3.mono (by (repeat' (first | exact Ent.refl | apply Ent.skip)))) (r4.mono (by (repeat' (first | exact Ent.refl | apply Ent.skip))))) ?_))
          rintro v σ ⟨rfl, bb, rfl⟩
          (repeat' ((first | refine SLl.nil ?_ | ((show SLl _ _ _ _ _ (⟨⟨_, _, _, _, _, _⟩, _, _⟩ :: _) _ _ _); refine SLl.ev rfl rfl rfl rfl ?_))))
          cases bb with
          | false =>
            (repeat' (first | (first | refine SLl.nil ?_ | ((show SLl _ _ _ _ _ (⟨⟨_, _, _, _, _, _⟩, _, _⟩ :: _) _ _ _); refine SLl.ev rfl rfl rfl rfl ?_)) | (first | refine SLc.seq ?_ | refine SLc.region rfl ?_ | refine SLc.condT rfl ?_ | refine SLc.ret ?_)))
            refine And.intro rfl (Exists.intro _ (Exists.intro _ (And.intro rfl (And.intro ?_ (And.intro rfl (Exists.intro _ (And.intro rfl (fun h => by cases h))))))))
            (repeat' (first | exact Ent.refl | apply Ent.skip))
          | true =>
            (repeat' (first | (first | refine SLl.nil ?_ | ((show SLl _ _ _ _ _ (⟨⟨_, _, _, _, _, _⟩, _, _⟩ :: _) _ _ _); first | refine SLl.ev rfl rfl rfl rfl ?_ | ((show SLl _ _ _ _ _ (⟨⟨_, .binOp _ _ _ _ _, _, _, _, _⟩, _, _⟩ :: _) _ _ _); (refine SLl.pu rfl rfl rfl (Pu.add rfl rfl (IntWalk.i64_in _ (by omega))) ?_)))) | (first | refine SLc.region rfl ?_ | refine SLc.condF rfl ?_ | refine SLc.skip ?_)))
            refine And.intro rfl (Exists.intro (k + 1, _) (And.intro ⟨by dsimp only; omega, ?_, ?_, ?_⟩ (And.intro (by dsimp only; omega) (And.intro (by (repeat' (first | exact trivial | apply And.intro | rfl))) (by (repeat' (first | exact Ent.refl | apply Ent.skip)))))))
            all_goals dsimp only
            · omega
            · omega
            · intro h
              rw [hit]
              omega
      · refine And.intro rfl (Exists.intro (i + 1, m) (And.intro ⟨by dsimp only; omega, hm0, by dsimp only; omega, fun h => by dsimp only at h ⊢; omega⟩ (And.intro (by dsimp only; omega) (And.intro (by (repeat' (first | exact trivial | apply And.intro | rfl))) (by (repeat' (exact Ent.refl)))))))
    · have hkt : G.take k = G := List.take_of_length_le (by omega)
      rw [hkt] at hm2
      (repeat' (first | (first | refine SLl.nil ?_ | ((show SLl _ _ _ _ _ (⟨⟨_, _, _, _, _, _⟩, _, _⟩ :: _) _ _ _); first | refine SLl.ev rfl rfl rfl rfl ?_ | ((show SLl _ _ _ _ _ (⟨⟨_, .load _ _, _, _, _, _⟩, _, _⟩ :: _) _ _ _); (refine SLl.rdSeq rfl rfl (Rd.load rfl rfl (by ((apply Reads.rs; (· exact Rs.mono (by assumption) (by (repeat' (exact Ent.refl)))); (· (assumption)); (· rfl))))) ?_)) | ((show SLl _ _ _ _ _ (⟨⟨_, .fieldAddr _ _ _, _, _, _, _⟩, _, _⟩ :: _) _ _ _); (refine SLl.rdSeq rfl rfl (Rd.fieldAddrEl rfl (by ((apply Len.rs; exact Rs.mono (by assumption) (by (repeat' (exact Ent.refl)))))) (by omega)) ?_)) | ((show SLl _ _ _ _ _ (⟨⟨_, .indexAddr _ _ _, _, _, _, _⟩, _, _⟩ :: _) _ _ _); (refine SLl.rdSeq rfl rfl (Rd.indexAddr rfl rfl (by ((apply Len.rs; exact Rs.mono (by assumption) (by (repeat' (exact Ent.refl)))))) (by (rfl)) (by omega)) ?_)) | ((show SLl _ _ _ _ _ (⟨⟨_, .call ⟨.builtin .len, _, _⟩, _, _, _, _⟩, _, _⟩ :: _) _ _ _); refine SLl.rdSeq rfl rfl (Rd.len rfl (by ((apply Len.rs; exact Rs.mono (by assumption) (by (repeat' (exact Ent.refl))))))) ?_) | ((show SLl _ _ _ _ _ (⟨⟨_, .binOp _ _ _ _ _, _, _, _, _⟩, _, _⟩ :: _) _ _ _); (first | refine SLl.pu rfl rfl rfl (Pu.add rfl rfl (IntWalk.i64_in _ (by omega))) ?_ | (refine SLl.cmp rfl rfl rfl rfl rfl rfl ?_ ?_ <;> intro hq <;> simp only [cmpP] at hq <;> try ((exfalso; omega))))) | refine SLl.skip rfl rfl ?_)) | (first | refine SLc.seq ?_ | refine SLc.region rfl ?_ | refine SLc.condF rfl ?_ | refine SLc.exit ?_)))
      refine And.intro rfl (Exists.intro (i + 1, m) (And.intro ⟨by dsimp only; omega, hm0, by dsimp only; omega, fun h => by dsimp only at h ⊢; omega⟩ (And.intro (by dsimp only; omega) (And.intro (by (repeat' (first | exact trivial | apply And.intro | rfl))) (by (repeat' (exact Ent.refl)))))))
  · have hil : i = Gs.length := by omega
    subst hil
    (repeat' (first | (first | refine SLl.nil ?_ | ((show SLl _ _ _ _ _ (⟨⟨_, _, _, _, _, _⟩, _, _⟩ :: _) _ _ _); first | refine SLl.ev rfl rfl rfl rfl ?_ | ((show SLl _ _ _ _ _ (⟨⟨_, .call ⟨.builtin .len, _, _⟩, _, _, _, _⟩, _, _⟩ :: _) _ _ _); refine SLl.rdSeq rfl rfl (Rd.len rfl (by ((apply Len.rs; exact Rs.mono (by assumption) (by (repeat' (exact Ent.refl))))))) ?_) | ((show SLl _ _ _ _ _ (⟨⟨_, .binOp _ _ _ _ _, _, _, _, _⟩, _, _⟩ :: _) _ _ _); ((refine SLl.cmp rfl rfl rfl rfl rfl rfl ?_ ?_ <;> intro hq <;> simp only [cmpP] at hq <;> try ((exfalso; omega))))))) | (first | refine SLc.seq ?_ | refine SLc.region rfl ?_ | refine SLc.condF rfl ?_ | refine SLc.exit ?_ | refine SLc.ret ?_)))
    all_goals
      refine And.intro rfl (Exists.intro _ (Exists.intro _ (And.intro rfl (And.intro ?_ (And.intro rfl (Exists.intro _ (And.intro rfl ?_)))))))
      · (repeat' (exact Ent.refl))
      · first | (intro h; cases h; done) | (intro _; omega)
end Go.Sl
