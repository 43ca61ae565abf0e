/- The guard Small, of more graphs than it lets in. -/
import Derived.Test.YtloeicnadchkpaaSmall
namespace Go.Sl
open Go.Proofs
attribute [local irreducible] SLc SLl SLo SLf Pu Rd

set_option maxHeartbeats 1000000 in
theorem Small10_big (W : World) (F : List Chunk) (lv : Value) (Gs : List Gph) (hl : Rs W F lv 1 (gcells Gs)) (hg : ∀ p ∈ Gs, GraphX W p.1 p.2) (hn : 40 < Gs.length) (hn2 : Gs.length ≤ 140737488355328) :
    SLf Try.prog W 28 [lv] F (fun v σ => v = .bool false ∧ σ = F) := by
  have hgl := @gcells_len Gs
  refine SLf.enter Try.func28 rfl (Nat.le_of_ble_eq_true rfl) ?_
  (repeat' (first | (first | refine SLl.nil ?_ | ((show SLl _ _ _ _ _ (⟨⟨_, _, _, _, _, _⟩, _, _⟩ :: _) _ _ _); refine SLl.ev rfl rfl rfl rfl ?_)) | (first | refine SLc.seq ?_ | refine SLc.region rfl ?_ | refine SLc.block ?_)))
  refine SLc.loop (ι := Nat × Int) (fun p => [(4, .int .i64 p.1), (3, .int .i64 p.2), (0, lv)]) (fun _ => F) (fun p => p.1 ≤ Gs.length) (fun p => Gs.length - p.1) (0, 0) (Nat.zero_le _) (by (repeat' (first | exact trivial | apply And.intro | rfl))) .refl ?_
  rintro ⟨i, n⟩ hi
  dsimp only at hi ⊢
  by_cases hlt : i < Gs.length
  · have hp : Gs[i]? = some Gs[i] := List.getElem?_eq_getElem hlt
    generalize Gs[i] = p at hp
    have hgi := gcells_at hp
    have hgx := hg p (List.mem_of_getElem? hp)
    obtain ⟨sl, G⟩ := p
    dsimp only at hgi hgx
    have hrs := hgx.rs F
    have hGl := hgx.len
    have hGm : (G.map Node.cells).length = G.length := by simp
    (repeat' (first | (first | refine SLl.nil ?_ | ((show SLl _ _ _ _ _ (⟨⟨_, _, _, _, _, _⟩, _, _⟩ :: _) _ _ _); first | refine SLl.ev rfl rfl rfl rfl ?_ | ((show SLl _ _ _ _ _ (⟨⟨_, .load _ _, _, _, _, _⟩, _, _⟩ :: _) _ _ _); (refine SLl.rdSeq rfl rfl (Rd.load rfl rfl (by ((apply Reads.rs; (· exact Rs.mono (by assumption) (by (repeat' (exact Ent.refl)))); (· (assumption)); (· rfl))))) ?_)) | ((show SLl _ _ _ _ _ (⟨⟨_, .fieldAddr _ _ _, _, _, _, _⟩, _, _⟩ :: _) _ _ _); (refine SLl.rdSeq rfl rfl (Rd.fieldAddrEl rfl (by ((apply Len.rs; exact Rs.mono (by assumption) (by (repeat' (exact Ent.refl)))))) (by omega)) ?_)) | ((show SLl _ _ _ _ _ (⟨⟨_, .indexAddr _ _ _, _, _, _, _⟩, _, _⟩ :: _) _ _ _); (refine SLl.rdSeq rfl rfl (Rd.indexAddr rfl rfl (by ((apply Len.rs; exact Rs.mono (by assumption) (by (repeat' (exact Ent.refl)))))) (by (rfl)) (by omega)) ?_)) | ((show SLl _ _ _ _ _ (⟨⟨_, .call ⟨.builtin .len, _, _⟩, _, _, _, _⟩, _, _⟩ :: _) _ _ _); refine SLl.rdSeq rfl rfl (Rd.len rfl (by ((apply Len.rs; exact Rs.mono (by assumption) (by (repeat' (exact Ent.refl))))))) ?_) | ((show SLl _ _ _ _ _ (⟨⟨_, .binOp _ _ _ _ _, _, _, _, _⟩, _, _⟩ :: _) _ _ _); ((refine SLl.cmp rfl rfl rfl rfl rfl rfl ?_ ?_ <;> intro hq <;> simp only [cmpP] at hq <;> try ((exfalso; omega))))))) | (first | refine SLc.seq ?_ | refine SLc.region rfl ?_ | refine SLc.condT rfl ?_ | refine SLc.block ?_ | refine SLc.skip ?_)))
    refine SLl.pu rfl rfl rfl (Pu.add rfl rfl rfl) ?_
    generalize IntKind.i64.wrap (n + ((G.map Node.cells).length : Int)) = n1
    (repeat' (first | (first | refine SLl.nil ?_ | ((show SLl _ _ _ _ _ (⟨⟨_, _, _, _, _, _⟩, _, _⟩ :: _) _ _ _); refine SLl.ev rfl rfl rfl rfl ?_)) | (first | refine SLc.seq ?_ | refine SLc.region rfl ?_ | refine SLc.block ?_)))
    refine SLc.loop (ι := Nat × Int) (fun q => [(5, .int .i64 q.1), (4, .int .i64 i), (3, .int .i64 q.2), (0, lv)]) (fun _ => F) (fun q => q.1 ≤ G.length) (fun q => G.length - q.1) (0, n1) (Nat.zero_le _) (by (repeat' (first | exact trivial | apply And.intro | rfl))) .refl ?_
    rintro ⟨k, m⟩ hk
    dsimp only at hk ⊢
    by_cases hlk : k < G.length
    · have hx : G[k]? = some G[k] := List.getElem?_eq_getElem hlk
      generalize G[k] = x at hx
      have hca := cells_at hx
      have hxn := hgx.nodes x (List.mem_of_getElem? hx)
      obtain ⟨o1, o2, o3, o4, o5⟩ := hxn.ones
      replace o1 : One W F x.inv := One.lit o1
      replace o2 : One W F x.tov := One.lit o2
      replace o3 : One W F x.shp := One.lit o3
      replace o4 : One W F x.dat := One.lit o4
      replace o5 : One W F x.hks := One.lit o5
      have r1 := hxn.ins F
      obtain ⟨l2, r2, b2⟩ := hxn.tov
      obtain ⟨l3, r3, b3⟩ := hxn.shp
      obtain ⟨l4, r4, b4⟩ := hxn.dat
      obtain ⟨l5, r5, b5⟩ := hxn.hks
      replace r2 := r2 F
      replace r3 := r3 F
      replace r4 := r4 F
      replace r5 := r5 F
      (repeat' (first | (first | refine SLl.nil ?_ | ((show SLl _ _ _ _ _ (⟨⟨_, _, _, _, _, _⟩, _, _⟩ :: _) _ _ _); first | refine SLl.ev rfl rfl rfl rfl ?_ | ((show SLl _ _ _ _ _ (⟨⟨_, .load _ _, _, _, _, _⟩, _, _⟩ :: _) _ _ _); (first | refine SLl.rdSeq rfl rfl (Rd.load rfl rfl (by (first | (apply Reads.blk; (· (repeat (apply Sel.here))); (· rfl)) | (apply Reads.rs; (· exact Rs.mono (by assumption) (by (repeat' (exact Ent.refl)))); (· (assumption)); (· rfl))))) ?_ | refine SLl.rdSeq rfl rfl (Rd.loadN rfl rfl (by ((apply ReadsN.rs0; (· exact Rs.mono (by assumption) (by (repeat' (exact Ent.refl)))); (· (assumption))))) (by rfl)) ?_)) | ((show SLl _ _ _ _ _ (⟨⟨_, .fieldAddr _ _ _, _, _, _, _⟩, _, _⟩ :: _) _ _ _); (first | refine SLl.pu rfl rfl rfl (Pu.fieldAddr rfl) ?_ | refine SLl.rdSeq rfl rfl (Rd.fieldAddrEl rfl (by ((apply Len.rs; exact Rs.mono (by assumption) (by (repeat' (exact Ent.refl)))))) (by omega)) ?_)) | ((show SLl _ _ _ _ _ (⟨⟨_, .indexAddr _ _ _, _, _, _, _⟩, _, _⟩ :: _) _ _ _); (refine SLl.rdSeq rfl rfl (Rd.indexAddr rfl rfl (by ((apply Len.rs; exact Rs.mono (by assumption) (by (repeat' (exact Ent.refl)))))) (by (rfl)) (by omega)) ?_)) | ((show SLl _ _ _ _ _ (⟨⟨_, .call ⟨.builtin .len, _, _⟩, _, _, _, _⟩, _, _⟩ :: _) _ _ _); refine SLl.rdSeq rfl rfl (Rd.len rfl (by ((apply Len.rs; exact Rs.mono (by assumption) (by (repeat' (first | exact Ent.refl | apply Ent.skip))))))) ?_) | ((show SLl _ _ _ _ _ (⟨⟨_, .binOp _ _ _ _ _, _, _, _, _⟩, _, _⟩ :: _) _ _ _); (first | refine SLl.pu rfl rfl rfl (Pu.add rfl rfl (IntWalk.i64_in _ (by omega))) ?_ | (refine SLl.cmp rfl rfl rfl rfl rfl rfl ?_ ?_ <;> intro hq <;> simp only [cmpP] at hq <;> try ((exfalso; omega))))) | ((show SLl _ _ _ _ _ (⟨⟨_, .store _ _ _, _, _, _, _⟩, _, _⟩ :: _) _ _ _); ((refine SLl.seq0 rfl (SLo.storeN rfl rfl rfl (by (repeat' (first | exact trivial | (apply And.intro; (· (first | exact One.lit rfl | exact One.mono (by assumption) (by (repeat' (first | exact Ent.refl | apply Ent.skip))))))))) (Nat.le_of_ble_eq_true rfl) (by (repeat (apply Upd.here))) ?_)))) | ((show SLl _ _ _ _ _ (⟨⟨_, .alloc _, _, _, _, _⟩, _, _⟩ :: _) _ _ _); refine SLl.seq rfl rfl (SLo.alloc ?_); intro b))) | (first | refine SLc.seq ?_ | refine SLc.region rfl ?_ | refine SLc.condT rfl ?_ | refine SLc.condF rfl ?_ | refine SLc.block ?_ | refine SLc.skip ?_ | refine SLc.exit ?_)))
      · refine SLl.pu rfl rfl rfl (Pu.add rfl rfl rfl) ?_
        generalize IntKind.i64.wrap _ = m1
        (repeat' ((((show SLl _ _ _ _ _ (⟨⟨_, _, _, _, _, _⟩, _, _⟩ :: _) _ _ _); first | ((show SLl _ _ _ _ _ (⟨⟨_, .load _ _, _, _, _, _⟩, _, _⟩ :: _) _ _ _); (refine SLl.rdSeq rfl rfl (Rd.load rfl rfl (by ((apply Reads.blk; (· (repeat (apply Sel.here))); (· rfl))))) ?_)) | ((show SLl _ _ _ _ _ (⟨⟨_, .fieldAddr _ _ _, _, _, _, _⟩, _, _⟩ :: _) _ _ _); (refine SLl.pu rfl rfl rfl (Pu.fieldAddr rfl) ?_)) | ((show SLl _ _ _ _ _ (⟨⟨_, .call ⟨.builtin .len, _, _⟩, _, _, _, _⟩, _, _⟩ :: _) _ _ _); refine SLl.rdSeq rfl rfl (Rd.len rfl (by ((apply Len.rs; exact Rs.mono (by assumption) (by (repeat' (first | exact Ent.refl | apply Ent.skip))))))) ?_)))))
        refine SLl.pu rfl rfl rfl (Pu.add rfl rfl rfl) ?_
        generalize IntKind.i64.wrap _ = m2
        (repeat' ((((show SLl _ _ _ _ _ (⟨⟨_, _, _, _, _, _⟩, _, _⟩ :: _) _ _ _); first | ((show SLl _ _ _ _ _ (⟨⟨_, .load _ _, _, _, _, _⟩, _, _⟩ :: _) _ _ _); (refine SLl.rdSeq rfl rfl (Rd.load rfl rfl (by ((apply Reads.blk; (· (repeat (apply Sel.here))); (· rfl))))) ?_)) | ((show SLl _ _ _ _ _ (⟨⟨_, .fieldAddr _ _ _, _, _, _, _⟩, _, _⟩ :: _) _ _ _); (refine SLl.pu rfl rfl rfl (Pu.fieldAddr rfl) ?_)) | ((show SLl _ _ _ _ _ (⟨⟨_, .call ⟨.builtin .len, _, _⟩, _, _, _, _⟩, _, _⟩ :: _) _ _ _); refine SLl.rdSeq rfl rfl (Rd.len rfl (by ((apply Len.rs; exact Rs.mono (by assumption) (by (repeat' (first | exact Ent.refl | apply Ent.skip))))))) ?_)))))
        refine SLl.pu rfl rfl rfl (Pu.add rfl rfl rfl) ?_
        generalize IntKind.i64.wrap _ = m3
        (repeat' ((((show SLl _ _ _ _ _ (⟨⟨_, _, _, _, _, _⟩, _, _⟩ :: _) _ _ _); first | ((show SLl _ _ _ _ _ (⟨⟨_, .load _ _, _, _, _, _⟩, _, _⟩ :: _) _ _ _); (refine SLl.rdSeq rfl rfl (Rd.load rfl rfl (by ((apply Reads.blk; (· (repeat (apply Sel.here))); (· rfl))))) ?_)) | ((show SLl _ _ _ _ _ (⟨⟨_, .fieldAddr _ _ _, _, _, _, _⟩, _, _⟩ :: _) _ _ _); (refine SLl.pu rfl rfl rfl (Pu.fieldAddr rfl) ?_)) | ((show SLl _ _ _ _ _ (⟨⟨_, .call ⟨.builtin .len, _, _⟩, _, _, _, _⟩, _, _⟩ :: _) _ _ _); refine SLl.rdSeq rfl rfl (Rd.len rfl (by ((apply Len.rs; exact Rs.mono (by assumption) (by (repeat' (first | exact Ent.refl | apply Ent.skip))))))) ?_)))))
        refine SLl.pu rfl rfl rfl (Pu.quo rfl rfl (by decide) rfl) ?_
        generalize IntKind.i64.wrap _ = m4
        (repeat' (fail))
        refine SLl.pu rfl rfl rfl (Pu.add rfl rfl rfl) ?_
        generalize IntKind.i64.wrap _ = m5
        (repeat' (first | (first | refine SLl.nil ?_ | ((show SLl _ _ _ _ _ (⟨⟨_, _, _, _, _, _⟩, _, _⟩ :: _) _ _ _); first | refine SLl.ev rfl rfl rfl rfl ?_ | ((show SLl _ _ _ _ _ (⟨⟨_, .load _ _, _, _, _, _⟩, _, _⟩ :: _) _ _ _); (refine SLl.rdSeq rfl rfl (Rd.load rfl rfl (by ((apply Reads.blk; (· (repeat (apply Sel.here))); (· rfl))))) ?_)) | ((show SLl _ _ _ _ _ (⟨⟨_, .fieldAddr _ _ _, _, _, _, _⟩, _, _⟩ :: _) _ _ _); (refine SLl.pu rfl rfl rfl (Pu.fieldAddr rfl) ?_)) | ((show SLl _ _ _ _ _ (⟨⟨_, .call ⟨.builtin .len, _, _⟩, _, _, _, _⟩, _, _⟩ :: _) _ _ _); refine SLl.rdSeq rfl rfl (Rd.len rfl (by ((apply Len.rs; exact Rs.mono (by assumption) (by (repeat' (first | exact Ent.refl | apply Ent.skip))))))) ?_) | ((show SLl _ _ _ _ _ (⟨⟨_, .binOp _ _ _ _ _, _, _, _, _⟩, _, _⟩ :: _) _ _ _); ((refine SLl.cmp rfl rfl rfl rfl rfl rfl ?_ ?_ <;> intro hq <;> simp only [cmpP] at hq <;> try (fail)))) | refine SLl.skip rfl rfl ?_)) | (first | refine SLc.seq ?_ | refine SLc.region rfl ?_ | refine SLc.condT rfl ?_ | refine SLc.ret ?_)))
        · refine And.intro rfl (Exists.intro _ (Exists.intro _ (And.intro rfl (And.intro ?_ (And.intro rfl rfl)))))
          (repeat' (first | exact Ent.refl | apply Ent.skip))
        · refine SLl.rdSeq rfl rfl (Rd.loadN (vs := [x.shp, x.dat]) rfl rfl (ReadsN.blkP 2 .here rfl) (by rfl)) ?_
          refine SLl.seq rfl rfl (SLo.call plain79 rfl (SLf.mono (Small3_ok W _ x.shp x.dat (r3.mono (by (repeat' (first | exact Ent.refl | apply Ent.skip)))) (r4.mono (by (repeat' (first | exact Ent.refl | apply Ent.skip))))) ?_))
          rintro v σ ⟨rfl, bb, rfl⟩
          (repeat' ((first | refine SLl.nil ?_ | ((show SLl _ _ _ _ _ (⟨⟨_, _, _, _, _, _⟩, _, _⟩ :: _) _ _ _); refine SLl.ev rfl rfl rfl rfl ?_))))
          cases bb with
          | false =>
            (repeat' (first | (first | refine SLl.nil ?_ | ((show SLl _ _ _ _ _ (⟨⟨_, _, _, _, _, _⟩, _, _⟩ :: _) _ _ _); refine SLl.ev rfl rfl rfl rfl ?_)) | (first | refine SLc.seq ?_ | refine SLc.region rfl ?_ | refine SLc.condT rfl ?_ | refine SLc.ret ?_)))
            refine And.intro rfl (Exists.intro _ (Exists.intro _ (And.intro rfl (And.intro ?_ (And.intro rfl rfl)))))
            (repeat' (first | exact Ent.refl | apply Ent.skip))
          | true =>
            (repeat' (first | (first | refine SLl.nil ?_ | ((show SLl _ _ _ _ _ (⟨⟨_, _, _, _, _, _⟩, _, _⟩ :: _) _ _ _); first | refine SLl.ev rfl rfl rfl rfl ?_ | ((show SLl _ _ _ _ _ (⟨⟨_, .binOp _ _ _ _ _, _, _, _, _⟩, _, _⟩ :: _) _ _ _); (refine SLl.pu rfl rfl rfl (Pu.add rfl rfl (IntWalk.i64_in _ (by omega))) ?_)))) | (first | refine SLc.region rfl ?_ | refine SLc.condF rfl ?_ | refine SLc.skip ?_)))
            refine And.intro rfl (Exists.intro (k + 1, _) (And.intro (by dsimp only; omega) (And.intro (by dsimp only; omega) (And.intro (by (repeat' (first | exact trivial | apply And.intro | rfl))) (by (repeat' (first | exact Ent.refl | apply Ent.skip)))))))
      · refine And.intro rfl (Exists.intro (i + 1, m) (And.intro (by dsimp only; omega) (And.intro (by dsimp only; omega) (And.intro (by (repeat' (first | exact trivial | apply And.intro | rfl))) (by (repeat' (exact Ent.refl)))))))
    · (repeat' (first | (first | refine SLl.nil ?_ | ((show SLl _ _ _ _ _ (⟨⟨_, _, _, _, _, _⟩, _, _⟩ :: _) _ _ _); first | refine SLl.ev rfl rfl rfl rfl ?_ | ((show SLl _ _ _ _ _ (⟨⟨_, .load _ _, _, _, _, _⟩, _, _⟩ :: _) _ _ _); (refine SLl.rdSeq rfl rfl (Rd.load rfl rfl (by ((apply Reads.rs; (· exact Rs.mono (by assumption) (by (repeat' (exact Ent.refl)))); (· (assumption)); (· rfl))))) ?_)) | ((show SLl _ _ _ _ _ (⟨⟨_, .fieldAddr _ _ _, _, _, _, _⟩, _, _⟩ :: _) _ _ _); (refine SLl.rdSeq rfl rfl (Rd.fieldAddrEl rfl (by ((apply Len.rs; exact Rs.mono (by assumption) (by (repeat' (exact Ent.refl)))))) (by omega)) ?_)) | ((show SLl _ _ _ _ _ (⟨⟨_, .indexAddr _ _ _, _, _, _, _⟩, _, _⟩ :: _) _ _ _); (refine SLl.rdSeq rfl rfl (Rd.indexAddr rfl rfl (by ((apply Len.rs; exact Rs.mono (by assumption) (by (repeat' (exact Ent.refl)))))) (by (rfl)) (by omega)) ?_)) | ((show SLl _ _ _ _ _ (⟨⟨_, .call ⟨.builtin .len, _, _⟩, _, _, _, _⟩, _, _⟩ :: _) _ _ _); refine SLl.rdSeq rfl rfl (Rd.len rfl (by ((apply Len.rs; exact Rs.mono (by assumption) (by (repeat' (exact Ent.refl))))))) ?_) | ((show SLl _ _ _ _ _ (⟨⟨_, .binOp _ _ _ _ _, _, _, _, _⟩, _, _⟩ :: _) _ _ _); (first | refine SLl.pu rfl rfl rfl (Pu.add rfl rfl (IntWalk.i64_in _ (by omega))) ?_ | (refine SLl.cmp rfl rfl rfl rfl rfl rfl ?_ ?_ <;> intro hq <;> simp only [cmpP] at hq <;> try ((exfalso; omega))))) | refine SLl.skip rfl rfl ?_)) | (first | refine SLc.seq ?_ | refine SLc.region rfl ?_ | refine SLc.condF rfl ?_ | refine SLc.exit ?_)))
      refine And.intro rfl (Exists.intro (i + 1, m) (And.intro (by dsimp only; omega) (And.intro (by dsimp only; omega) (And.intro (by (repeat' (first | exact trivial | apply And.intro | rfl))) (by (repeat' (exact Ent.refl)))))))
  · (repeat' (first | (first | refine SLl.nil ?_ | ((show SLl _ _ _ _ _ (⟨⟨_, _, _, _, _, _⟩, _, _⟩ :: _) _ _ _); first | refine SLl.ev rfl rfl rfl rfl ?_ | ((show SLl _ _ _ _ _ (⟨⟨_, .call ⟨.builtin .len, _, _⟩, _, _, _, _⟩, _, _⟩ :: _) _ _ _); refine SLl.rdSeq rfl rfl (Rd.len rfl (by ((apply Len.rs; exact Rs.mono (by assumption) (by (repeat' (exact Ent.refl))))))) ?_) | ((show SLl _ _ _ _ _ (⟨⟨_, .binOp _ _ _ _ _, _, _, _, _⟩, _, _⟩ :: _) _ _ _); ((refine SLl.cmp rfl rfl rfl rfl rfl rfl ?_ ?_ <;> intro hq <;> simp only [cmpP] at hq <;> try ((exfalso; omega))))) | refine SLl.skip rfl rfl ?_)) | (first | refine SLc.seq ?_ | refine SLc.region rfl ?_ | refine SLc.condF rfl ?_ | refine SLc.exit ?_ | refine SLc.ret ?_)))
    refine And.intro rfl (Exists.intro _ (Exists.intro _ (And.intro rfl (And.intro ?_ (And.intro rfl rfl)))))
    (repeat' (exact Ent.refl))
theorem Small10_any (W : World) (F : List Chunk) (lv : Value) (Gs : List Gph) (hl : Rs W F lv 1 (gcells Gs)) (hg : ∀ p ∈ Gs, GraphX W p.1 p.2) (hn : Gs.length ≤ 140737488355328) :
    SLf Try.prog W 28 [lv] F (fun v σ => σ = F ∧ ∃ b, v = .bool b ∧ (b = true → Gs.length ≤ 40 ∧ gsum Gs Gs.length ≤ 4000)) := by
  by_cases h : Gs.length ≤ 40
  · exact SLf.mono (Small10_ok W F lv Gs hl hg h) fun v σ ⟨h1, b, h2, h3⟩ => ⟨h1, b, h2, fun hb => ⟨h, h3 hb⟩⟩
  · exact SLf.mono (Small10_big W F lv Gs hl hg (by omega) hn) fun v σ ⟨h1, h2⟩ => ⟨h2, false, h1, fun hb => by cases hb⟩
theorem gsum_at {Gs : List Gph} {i : Nat} {p : Gph} (h : Gs[i]? = some p) : p.2.length + insSum p.2 ≤ gsum Gs Gs.length := by
  have h1 := gsum_succ h
  have hk := (List.getElem?_eq_some_iff.1 h).1
  have h2 : ∀ d, gsum Gs (i + 1) ≤ gsum Gs (i + 1 + d) := fun d => by
    induction d with
    | zero => exact Nat.le_refl _
    | succ d ih =>
      cases hx : Gs[i + 1 + d]? with
      | none =>
        have hle : Gs.length ≤ i + 1 + d := List.getElem?_eq_none_iff.1 hx
        have : gsum Gs (i + 1 + (d + 1)) = gsum Gs (i + 1 + d) := by
          unfold gsum
          rw [List.take_of_length_le (by omega), List.take_of_length_le (by omega)]
        omega
      | some q =>
        have := gsum_succ hx
        rw [← Nat.add_assoc]
        omega
  have h3 := h2 (Gs.length - (i + 1))
  rw [show i + 1 + (Gs.length - (i + 1)) = Gs.length by omega] at h3
  omega
end Go.Sl
