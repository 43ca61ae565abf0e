/- backstitchlaw11.ReachCounts: the walk. -/
import Derived.Test.YtloeicnadchkpaaLaw11d
import Derived.Test.YtloeicnadchkpaaSL10
import Derived.Test.YtloeicnadchkpaaReachLaw2
namespace Go.Sl
open Go.Proofs
attribute [local irreducible] SLc SLl SLo SLf Pu Rd

theorem boolsC_one {l : List Bool} : ∀ c ∈ bools l, c.length = 1 := fun c hc => by obtain ⟨x, _, rfl⟩ := List.mem_map.1 hc; rfl
theorem intsC_one {l : List Int} : ∀ c ∈ ints l, c.length = 1 := fun c hc => by obtain ⟨x, _, rfl⟩ := List.mem_map.1 hc; rfl
theorem uvalsC_one {l : UPairs} : ∀ c ∈ uvals l, c.length = 1 := fun c hc => by obtain ⟨x, _, rfl⟩ := List.mem_map.1 hc; rfl
theorem usesC_two {l : Uses} : ∀ c ∈ usesV l, c.length = 2 := fun c hc => by obtain ⟨x, _, rfl⟩ := List.mem_map.1 hc; rfl
theorem usesC_at {u : Uses} {k : Nat} {x : Int × Int} (h : u[k]? = some x) : (usesV u)[k]? = some [.int .i64 x.1, .int .i64 x.2] := by simp [usesV, h]
theorem pair_at {ps : UPairs} {us : List Uses} (h : ps.map (·.2) = us) {i : Nat} {u : Uses} (hu : us[i]? = some u) : ∃ v, ps[i]? = some (v, u) := by
  subst h
  rw [List.getElem?_map] at hu
  cases hp : ps[i]? with
  | none => simp [hp] at hu
  | some p => simp [hp] at hu; exact ⟨p.1, by rw [← hu]⟩
theorem pair_len {ps : UPairs} {us : List Uses} (h : ps.map (·.2) = us) : ps.length = us.length := by subst h; simp
theorem lens_take {us : List Uses} {i : Nat} {u : Uses} (h : us[i]? = some u) : lens (us.take (i + 1)) = lens (us.take i) + u.length := by
  obtain ⟨hk, rfl⟩ := List.getElem?_eq_some_iff.1 h
  unfold lens
  rw [List.take_succ_eq_append_getElem hk, List.map_append, List.sum_append]
  simp
theorem lens_take_le {us : List Uses} (i : Nat) : lens (us.take i) ≤ lens us := by
  have : lens us = lens (us.take i) + lens (us.drop i) := by
    unfold lens
    rw [← List.sum_append, ← List.map_append, List.take_append_drop]
  omega
theorem insAll_mono {G : List Node} {R : List Bool} {i : Nat} : ∀ d, insAll G R i ≤ insAll G R (i + d)
  | 0 => Nat.le_refl _
  | d + 1 => by
    have := insAll_mono (G := G) (R := R) (i := i) d
    rw [← Nat.add_assoc]
    simp only [insAll]
    omega
theorem sorted_at {u : Uses} (h : u.Pairwise before) {k : Nat} {x y : Int × Int} (hx : u[k]? = some x) (hy : u[k + 1]? = some y) : y.1 < x.1 ∨ x.1 = y.1 ∧ x.2 < y.2 := by
  obtain ⟨h1, rfl⟩ := List.getElem?_eq_some_iff.1 hx
  obtain ⟨h2, rfl⟩ := List.getElem?_eq_some_iff.1 hy
  exact List.pairwise_iff_getElem.1 h k (k + 1) h1 h2 (by omega)
set_option maxHeartbeats 2000000 in
theorem Counts11 (W : World) (sl : Value) (G : List Node) (root : Int) (hx : GraphX W sl G) : SLf Try.prog W 5 [.agg #[sl], .int .i64 root] [] (fun v _ => v = .bool true) := by
  have hone : One W [] sl := One.lit hx.one
  have hrs := hx.rs []
  have hGm : (G.map Node.cells).length = G.length := by simp
  refine SLf.enter Try.func5 rfl (Nat.le_of_ble_eq_true rfl) ?_
  (repeat' (first
 | (first
 | refine SLl.nil ?_
 | ((show SLl _ _ _ _ _ (⟨⟨_, _, _, _, _, _⟩, _, _⟩ :: _) _ _ _); first
 | refine SLl.ev rfl rfl rfl rfl ?_
 | ((show SLl _ _ _ _ _ (⟨⟨_, .load _ _, _, _, _, _⟩, _, _⟩ :: _) _ _ _); (first | refine SLl.rdSeq rfl rfl (Rd.load rfl rfl (by (first | (apply Reads.blk; (· (repeat (first | apply Sel.here | apply Sel.there | apply Upd.here | apply Upd.there))); (· rfl)) | (apply Reads.row; (· (repeat (first | apply Sel.here | apply Sel.there | apply Upd.here | apply Upd.there))); (· (first | rfl | assumption)); (· rfl)) | (apply Reads.rs; (· exact Rs.mono (by assumption) (by (repeat' (first | exact Ent.refl | exact Ent.drop | exact Ent.appR | apply Ent.skip)))); (· (first | rfl | assumption)); (· rfl)) | exact Reads.mono (by assumption) (by (repeat' (first | exact Ent.refl | exact Ent.drop | exact Ent.appR | apply Ent.skip)))))) ?_ | refine SLl.rdSeq rfl rfl (Rd.loadN rfl rfl (by (first | exact ReadsN.mono (by assumption) (by (repeat' (first | exact Ent.refl | exact Ent.drop | exact Ent.appR | apply Ent.skip))) | (apply ReadsN.blk0; (· (repeat (first | apply Sel.here | apply Sel.there | apply Upd.here | apply Upd.there)))) | (apply ReadsN.row0; (· (repeat (first | apply Sel.here | apply Sel.there | apply Upd.here | apply Upd.there))); (· (first | rfl | assumption))) | (apply ReadsN.rs0; (· exact Rs.mono (by assumption) (by (repeat' (first | exact Ent.refl | exact Ent.drop | exact Ent.appR | apply Ent.skip)))); (· (first | rfl | assumption))))) (by rfl)) ?_))
 | ((show SLl _ _ _ _ _ (⟨⟨_, .fieldAddr _ _ _, _, _, _, _⟩, _, _⟩ :: _) _ _ _); (first | refine SLl.pu rfl rfl rfl (Pu.fieldAddr rfl) ?_ | refine SLl.rdSeq rfl rfl (Rd.fieldAddrEl rfl (by (first | exact Len.nil | (apply Len.row; (· (repeat (first | apply Sel.here | apply Sel.there | apply Upd.here | apply Upd.there)))) | (apply Len.rs; exact Rs.mono (by assumption) (by (repeat' (first | exact Ent.refl | exact Ent.drop | exact Ent.appR | apply Ent.skip)))))) (by omega)) ?_))
 | ((show SLl _ _ _ _ _ (⟨⟨_, .indexAddr _ _ _, _, _, _, _⟩, _, _⟩ :: _) _ _ _); (refine SLl.rdSeq rfl rfl (Rd.indexAddr rfl rfl (by (first | exact Len.nil | (apply Len.row; (· (repeat (first | apply Sel.here | apply Sel.there | apply Upd.here | apply Upd.there)))) | (apply Len.rs; exact Rs.mono (by assumption) (by (repeat' (first | exact Ent.refl | exact Ent.drop | exact Ent.appR | apply Ent.skip)))))) (by (first | exact ij0 | exact ij1 | exact ij2 | exact ij3 | exact ij4 | exact ij5 | exact ijs _ | exact ijm _ | rfl | exact (Int.toNat_of_nonneg (by omega)).symm)) (by omega)) ?_))
 | ((show SLl _ _ _ _ _ (⟨⟨_, .call ⟨.builtin .len, _, _⟩, _, _, _, _⟩, _, _⟩ :: _) _ _ _); refine SLl.rdSeq rfl rfl (Rd.len rfl (by (first | exact Len.nil | (apply Len.row; (· (repeat (first | apply Sel.here | apply Sel.there | apply Upd.here | apply Upd.there)))) | (apply Len.rs; exact Rs.mono (by assumption) (by (repeat' (first | exact Ent.refl | exact Ent.drop | exact Ent.appR | apply Ent.skip))))))) ?_)
 | ((show SLl _ _ _ _ _ (⟨⟨_, .binOp _ _ _ _ _, _, _, _, _⟩, _, _⟩ :: _) _ _ _); (first
 | refine SLl.pu rfl rfl rfl (Pu.add rfl rfl (IntWalk.i64_in _ (by omega))) ?_
 | refine SLl.pu rfl rfl rfl (Pu.sub rfl rfl (IntWalk.i64_in _ (by omega))) ?_
 | (refine SLl.cmp rfl rfl rfl rfl rfl rfl ?_ ?_ <;> intro hq <;> simp only [cmpP] at hq <;> try (first
 | exact (hq trivial).elim
 | (exfalso; omega)))
 | refine SLl.pu rfl rfl rfl (Pu.eqNilT rfl rfl) ?_
 | refine SLl.pu rfl rfl rfl (Pu.neNilF rfl rfl) ?_
 | refine SLl.rdSeq rfl rfl (Rd.eqNilF rfl rfl (by (first | exact Len.nil | (apply Len.row; (· (repeat (first | apply Sel.here | apply Sel.there | apply Upd.here | apply Upd.there)))) | (apply Len.rs; exact Rs.mono (by assumption) (by (repeat' (first | exact Ent.refl | exact Ent.drop | exact Ent.appR | apply Ent.skip)))))) (by assumption)) ?_
 | refine SLl.rdSeq rfl rfl (Rd.neNilT rfl rfl (by (first | exact Len.nil | (apply Len.row; (· (repeat (first | apply Sel.here | apply Sel.there | apply Upd.here | apply Upd.there)))) | (apply Len.rs; exact Rs.mono (by assumption) (by (repeat' (first | exact Ent.refl | exact Ent.drop | exact Ent.appR | apply Ent.skip)))))) (by assumption)) ?_
 | refine SLl.pu rfl rfl rfl (Pu.eqPtrNil rfl rfl) ?_
 | refine SLl.pu rfl rfl rfl (Pu.eqBool rfl rfl) ?_
 | refine SLl.pu rfl rfl rfl (Pu.neBool rfl rfl) ?_))
 | ((show SLl _ _ _ _ _ (⟨⟨_, .store _ _ _, _, _, _, _⟩, _, _⟩ :: _) _ _ _); (first | (refine SLl.seq0 rfl (SLo.store rfl rfl rfl (by (first | exact One.lit rfl | exact One.lit (by assumption) | exact One.mono (by assumption) (by (repeat' (first | exact Ent.refl | exact Ent.drop | exact Ent.appR | apply Ent.skip))) | exact One.len (by (first | exact Len.nil | (apply Len.row; (· (repeat (first | apply Sel.here | apply Sel.there | apply Upd.here | apply Upd.there)))) | (apply Len.rs; exact Rs.mono (by assumption) (by (repeat' (first | exact Ent.refl | exact Ent.drop | exact Ent.appR | apply Ent.skip)))))))) (by (first | (apply Wr.blk; (· (repeat (first | apply Sel.here | apply Sel.there | apply Upd.here | apply Upd.there))); (· exact Nat.le_of_ble_eq_true rfl)) | (apply Wr.row; (· (first | rfl | assumption)); (· exact Nat.le_of_ble_eq_true rfl); (· (repeat (first | apply Sel.here | apply Sel.there | apply Upd.here | apply Upd.there)))))) ?_)) | (refine SLl.seq0 rfl (SLo.storeN rfl rfl rfl (by (repeat' (first | exact trivial | (apply And.intro; (· (first | exact One.lit rfl | exact One.lit (by assumption) | exact One.mono (by assumption) (by (repeat' (first | exact Ent.refl | exact Ent.drop | exact Ent.appR | apply Ent.skip))) | exact One.len (by (first | exact Len.nil | (apply Len.row; (· (repeat (first | apply Sel.here | apply Sel.there | apply Upd.here | apply Upd.there)))) | (apply Len.rs; exact Rs.mono (by assumption) (by (repeat' (first | exact Ent.refl | exact Ent.drop | exact Ent.appR | apply Ent.skip)))))))))))) (Nat.le_of_ble_eq_true rfl) (by (repeat (first | apply Sel.here | apply Sel.there | apply Upd.here | apply Upd.there))) ?_))))
 | ((show SLl _ _ _ _ _ (⟨⟨_, .box _ _, _, _, _, _⟩, _, _⟩ :: _) _ _ _); refine SLl.seq rfl rfl (SLo.boxC rfl (by (first | exact Cel.one (by (first | exact One.lit rfl | exact One.lit (by assumption) | exact One.mono (by assumption) (by (repeat' (first | exact Ent.refl | exact Ent.drop | exact Ent.appR | apply Ent.skip))) | exact One.len (by (first | exact Len.nil | (apply Len.row; (· (repeat (first | apply Sel.here | apply Sel.there | apply Upd.here | apply Upd.there)))) | (apply Len.rs; exact Rs.mono (by assumption) (by (repeat' (first | exact Ent.refl | exact Ent.drop | exact Ent.appR | apply Ent.skip)))))))) | exact Cel.agg)) ?_); intro b)
 | ((show SLl _ _ _ _ _ (⟨⟨_, .alloc _, _, _, _, _⟩, _, _⟩ :: _) _ _ _); refine SLl.seq rfl rfl (SLo.alloc ?_); intro b)
 | ((show SLl _ _ _ _ _ (⟨⟨_, .build _ _, _, _, _, _⟩, _, _⟩ :: _) _ _ _); first
 | refine SLl.rdSeq rfl rfl (Rd.build rfl (by (repeat (first | exact CellsW.nil | (apply CellsW.cons; (· (first | exact Cel.one (by (first | exact One.lit rfl | exact One.lit (by assumption) | exact One.mono (by assumption) (by (repeat' (first | exact Ent.refl | exact Ent.drop | exact Ent.appR | apply Ent.skip))) | exact One.len (by (first | exact Len.nil | (apply Len.row; (· (repeat (first | apply Sel.here | apply Sel.there | apply Upd.here | apply Upd.there)))) | (apply Len.rs; exact Rs.mono (by assumption) (by (repeat' (first | exact Ent.refl | exact Ent.drop | exact Ent.appR | apply Ent.skip)))))))) | exact Cel.agg)))))) (by rfl)) ?_
 | refine SLl.pu rfl rfl rfl (Pu.build rfl rfl) ?_)
 | refine SLl.skip rfl rfl ?_))
 | (first
 | refine SLc.seq ?_
 | refine SLc.region rfl ?_
 | refine SLc.condT rfl ?_
 | refine SLc.condF rfl ?_
 | refine SLc.block ?_
 | refine SLc.skip ?_
 | refine SLc.exit ?_
 | refine SLc.ret ?_)))
  refine SLl.seq rfl rfl (SLo.call plain27 rfl (SLf.mono (Awake11 W _) ?_))
  rintro v σ ⟨rfl, rfl⟩
  (repeat' (first
 | (first
 | refine SLl.nil ?_
 | ((show SLl _ _ _ _ _ (⟨⟨_, _, _, _, _, _⟩, _, _⟩ :: _) _ _ _); first
 | refine SLl.ev rfl rfl rfl rfl ?_
 | ((show SLl _ _ _ _ _ (⟨⟨_, .load _ _, _, _, _, _⟩, _, _⟩ :: _) _ _ _); (first | refine SLl.rdSeq rfl rfl (Rd.load rfl rfl (by (first | (apply Reads.blk; (· (repeat (first | apply Sel.here | apply Sel.there | apply Upd.here | apply Upd.there))); (· rfl)) | (apply Reads.row; (· (repeat (first | apply Sel.here | apply Sel.there | apply Upd.here | apply Upd.there))); (· (first | rfl | assumption)); (· rfl)) | (apply Reads.rs; (· exact Rs.mono (by assumption) (by (repeat' (first | exact Ent.refl | exact Ent.drop | exact Ent.appR | apply Ent.skip)))); (· (first | rfl | assumption)); (· rfl)) | exact Reads.mono (by assumption) (by (repeat' (first | exact Ent.refl | exact Ent.drop | exact Ent.appR | apply Ent.skip)))))) ?_ | refine SLl.rdSeq rfl rfl (Rd.loadN rfl rfl (by (first | exact ReadsN.mono (by assumption) (by (repeat' (first | exact Ent.refl | exact Ent.drop | exact Ent.appR | apply Ent.skip))) | (apply ReadsN.blk0; (· (repeat (first | apply Sel.here | apply Sel.there | apply Upd.here | apply Upd.there)))) | (apply ReadsN.row0; (· (repeat (first | apply Sel.here | apply Sel.there | apply Upd.here | apply Upd.there))); (· (first | rfl | assumption))) | (apply ReadsN.rs0; (· exact Rs.mono (by assumption) (by (repeat' (first | exact Ent.refl | exact Ent.drop | exact Ent.appR | apply Ent.skip)))); (· (first | rfl | assumption))))) (by rfl)) ?_))
 | ((show SLl _ _ _ _ _ (⟨⟨_, .fieldAddr _ _ _, _, _, _, _⟩, _, _⟩ :: _) _ _ _); (first | refine SLl.pu rfl rfl rfl (Pu.fieldAddr rfl) ?_ | refine SLl.rdSeq rfl rfl (Rd.fieldAddrEl rfl (by (first | exact Len.nil | (apply Len.row; (· (repeat (first | apply Sel.here | apply Sel.there | apply Upd.here | apply Upd.there)))) | (apply Len.rs; exact Rs.mono (by assumption) (by (repeat' (first | exact Ent.refl | exact Ent.drop | exact Ent.appR | apply Ent.skip)))))) (by omega)) ?_))
 | ((show SLl _ _ _ _ _ (⟨⟨_, .indexAddr _ _ _, _, _, _, _⟩, _, _⟩ :: _) _ _ _); (refine SLl.rdSeq rfl rfl (Rd.indexAddr rfl rfl (by (first | exact Len.nil | (apply Len.row; (· (repeat (first | apply Sel.here | apply Sel.there | apply Upd.here | apply Upd.there)))) | (apply Len.rs; exact Rs.mono (by assumption) (by (repeat' (first | exact Ent.refl | exact Ent.drop | exact Ent.appR | apply Ent.skip)))))) (by (first | exact ij0 | exact ij1 | exact ij2 | exact ij3 | exact ij4 | exact ij5 | exact ijs _ | exact ijm _ | rfl | exact (Int.toNat_of_nonneg (by omega)).symm)) (by omega)) ?_))
 | ((show SLl _ _ _ _ _ (⟨⟨_, .call ⟨.builtin .len, _, _⟩, _, _, _, _⟩, _, _⟩ :: _) _ _ _); refine SLl.rdSeq rfl rfl (Rd.len rfl (by (first | exact Len.nil | (apply Len.row; (· (repeat (first | apply Sel.here | apply Sel.there | apply Upd.here | apply Upd.there)))) | (apply Len.rs; exact Rs.mono (by assumption) (by (repeat' (first | exact Ent.refl | exact Ent.drop | exact Ent.appR | apply Ent.skip))))))) ?_)
 | ((show SLl _ _ _ _ _ (⟨⟨_, .binOp _ _ _ _ _, _, _, _, _⟩, _, _⟩ :: _) _ _ _); (first
 | refine SLl.pu rfl rfl rfl (Pu.add rfl rfl (IntWalk.i64_in _ (by omega))) ?_
 | refine SLl.pu rfl rfl rfl (Pu.sub rfl rfl (IntWalk.i64_in _ (by omega))) ?_
 | (refine SLl.cmp rfl rfl rfl rfl rfl rfl ?_ ?_ <;> intro hq <;> simp only [cmpP] at hq <;> try (first
 | exact (hq trivial).elim
 | (exfalso; omega)))
 | refine SLl.pu rfl rfl rfl (Pu.eqNilT rfl rfl) ?_
 | refine SLl.pu rfl rfl rfl (Pu.neNilF rfl rfl) ?_
 | refine SLl.rdSeq rfl rfl (Rd.eqNilF rfl rfl (by (first | exact Len.nil | (apply Len.row; (· (repeat (first | apply Sel.here | apply Sel.there | apply Upd.here | apply Upd.there)))) | (apply Len.rs; exact Rs.mono (by assumption) (by (repeat' (first | exact Ent.refl | exact Ent.drop | exact Ent.appR | apply Ent.skip)))))) (by assumption)) ?_
 | refine SLl.rdSeq rfl rfl (Rd.neNilT rfl rfl (by (first | exact Len.nil | (apply Len.row; (· (repeat (first | apply Sel.here | apply Sel.there | apply Upd.here | apply Upd.there)))) | (apply Len.rs; exact Rs.mono (by assumption) (by (repeat' (first | exact Ent.refl | exact Ent.drop | exact Ent.appR | apply Ent.skip)))))) (by assumption)) ?_
 | refine SLl.pu rfl rfl rfl (Pu.eqPtrNil rfl rfl) ?_
 | refine SLl.pu rfl rfl rfl (Pu.eqBool rfl rfl) ?_
 | refine SLl.pu rfl rfl rfl (Pu.neBool rfl rfl) ?_))
 | ((show SLl _ _ _ _ _ (⟨⟨_, .store _ _ _, _, _, _, _⟩, _, _⟩ :: _) _ _ _); (first | (refine SLl.seq0 rfl (SLo.store rfl rfl rfl (by (first | exact One.lit rfl | exact One.lit (by assumption) | exact One.mono (by assumption) (by (repeat' (first | exact Ent.refl | exact Ent.drop | exact Ent.appR | apply Ent.skip))) | exact One.len (by (first | exact Len.nil | (apply Len.row; (· (repeat (first | apply Sel.here | apply Sel.there | apply Upd.here | apply Upd.there)))) | (apply Len.rs; exact Rs.mono (by assumption) (by (repeat' (first | exact Ent.refl | exact Ent.drop | exact Ent.appR | apply Ent.skip)))))))) (by (first | (apply Wr.blk; (· (repeat (first | apply Sel.here | apply Sel.there | apply Upd.here | apply Upd.there))); (· exact Nat.le_of_ble_eq_true rfl)) | (apply Wr.row; (· (first | rfl | assumption)); (· exact Nat.le_of_ble_eq_true rfl); (· (repeat (first | apply Sel.here | apply Sel.there | apply Upd.here | apply Upd.there)))))) ?_)) | (refine SLl.seq0 rfl (SLo.storeN rfl rfl rfl (by (repeat' (first | exact trivial | (apply And.intro; (· (first | exact One.lit rfl | exact One.lit (by assumption) | exact One.mono (by assumption) (by (repeat' (first | exact Ent.refl | exact Ent.drop | exact Ent.appR | apply Ent.skip))) | exact One.len (by (first | exact Len.nil | (apply Len.row; (· (repeat (first | apply Sel.here | apply Sel.there | apply Upd.here | apply Upd.there)))) | (apply Len.rs; exact Rs.mono (by assumption) (by (repeat' (first | exact Ent.refl | exact Ent.drop | exact Ent.appR | apply Ent.skip)))))))))))) (Nat.le_of_ble_eq_true rfl) (by (repeat (first | apply Sel.here | apply Sel.there | apply Upd.here | apply Upd.there))) ?_))))
 | ((show SLl _ _ _ _ _ (⟨⟨_, .box _ _, _, _, _, _⟩, _, _⟩ :: _) _ _ _); refine SLl.seq rfl rfl (SLo.boxC rfl (by (first | exact Cel.one (by (first | exact One.lit rfl | exact One.lit (by assumption) | exact One.mono (by assumption) (by (repeat' (first | exact Ent.refl | exact Ent.drop | exact Ent.appR | apply Ent.skip))) | exact One.len (by (first | exact Len.nil | (apply Len.row; (· (repeat (first | apply Sel.here | apply Sel.there | apply Upd.here | apply Upd.there)))) | (apply Len.rs; exact Rs.mono (by assumption) (by (repeat' (first | exact Ent.refl | exact Ent.drop | exact Ent.appR | apply Ent.skip)))))))) | exact Cel.agg)) ?_); intro b)
 | ((show SLl _ _ _ _ _ (⟨⟨_, .alloc _, _, _, _, _⟩, _, _⟩ :: _) _ _ _); refine SLl.seq rfl rfl (SLo.alloc ?_); intro b)
 | ((show SLl _ _ _ _ _ (⟨⟨_, .build _ _, _, _, _, _⟩, _, _⟩ :: _) _ _ _); first
 | refine SLl.rdSeq rfl rfl (Rd.build rfl (by (repeat (first | exact CellsW.nil | (apply CellsW.cons; (· (first | exact Cel.one (by (first | exact One.lit rfl | exact One.lit (by assumption) | exact One.mono (by assumption) (by (repeat' (first | exact Ent.refl | exact Ent.drop | exact Ent.appR | apply Ent.skip))) | exact One.len (by (first | exact Len.nil | (apply Len.row; (· (repeat (first | apply Sel.here | apply Sel.there | apply Upd.here | apply Upd.there)))) | (apply Len.rs; exact Rs.mono (by assumption) (by (repeat' (first | exact Ent.refl | exact Ent.drop | exact Ent.appR | apply Ent.skip)))))))) | exact Cel.agg)))))) (by rfl)) ?_
 | refine SLl.pu rfl rfl rfl (Pu.build rfl rfl) ?_)
 | refine SLl.skip rfl rfl ?_))
 | (first
 | refine SLc.seq ?_
 | refine SLc.region rfl ?_
 | refine SLc.condT rfl ?_
 | refine SLc.condF rfl ?_
 | refine SLc.block ?_
 | refine SLc.skip ?_
 | refine SLc.exit ?_
 | refine SLc.ret ?_)))
  refine SLl.seq rfl rfl (SLo.buildSliceE [[sl]] (by decide) (by decide) rfl (by (repeat (first | exact CellsW.nil | (apply CellsW.cons; (· (first | exact Cel.one (by (first | exact One.lit rfl | exact One.lit (by assumption) | exact One.mono (by assumption) (by (repeat' (first | exact Ent.refl | exact Ent.drop | exact Ent.appR | apply Ent.skip))) | exact One.len (by (first | exact Len.nil | (apply Len.row; (· (repeat (first | apply Sel.here | apply Sel.there | apply Upd.here | apply Upd.there)))) | (apply Len.rs; exact Rs.mono (by assumption) (by (repeat' (first | exact Ent.refl | exact Ent.drop | exact Ent.appR | apply Ent.skip)))))))) | exact Cel.agg)))))) (by simp) rfl (by rfl) ?_)
  intro lv hlv
  refine SLl.seq rfl rfl (SLo.call plain28 rfl (SLf.mono (Small10_ok W _ lv [(sl, G)] (Rs.row .here (by simp [gcells])) (fun p hp => by rw [List.mem_singleton] at hp; subst hp; exact hx) (Nat.le_of_ble_eq_true rfl)) ?_))
  rintro v σ ⟨rfl, bb, rfl, hbb⟩
  cases bb with
  | false =>
    (repeat' (first
 | (first
 | refine SLl.nil ?_
 | ((show SLl _ _ _ _ _ (⟨⟨_, _, _, _, _, _⟩, _, _⟩ :: _) _ _ _); first
 | refine SLl.ev rfl rfl rfl rfl ?_
 | ((show SLl _ _ _ _ _ (⟨⟨_, .load _ _, _, _, _, _⟩, _, _⟩ :: _) _ _ _); (first | refine SLl.rdSeq rfl rfl (Rd.load rfl rfl (by (first | (apply Reads.blk; (· (repeat (first | apply Sel.here | apply Sel.there | apply Upd.here | apply Upd.there))); (· rfl)) | (apply Reads.row; (· (repeat (first | apply Sel.here | apply Sel.there | apply Upd.here | apply Upd.there))); (· (first | rfl | assumption)); (· rfl)) | (apply Reads.rs; (· exact Rs.mono (by assumption) (by (repeat' (first | exact Ent.refl | exact Ent.drop | exact Ent.appR | apply Ent.skip)))); (· (first | rfl | assumption)); (· rfl)) | exact Reads.mono (by assumption) (by (repeat' (first | exact Ent.refl | exact Ent.drop | exact Ent.appR | apply Ent.skip)))))) ?_ | refine SLl.rdSeq rfl rfl (Rd.loadN rfl rfl (by (first | exact ReadsN.mono (by assumption) (by (repeat' (first | exact Ent.refl | exact Ent.drop | exact Ent.appR | apply Ent.skip))) | (apply ReadsN.blk0; (· (repeat (first | apply Sel.here | apply Sel.there | apply Upd.here | apply Upd.there)))) | (apply ReadsN.row0; (· (repeat (first | apply Sel.here | apply Sel.there | apply Upd.here | apply Upd.there))); (· (first | rfl | assumption))) | (apply ReadsN.rs0; (· exact Rs.mono (by assumption) (by (repeat' (first | exact Ent.refl | exact Ent.drop | exact Ent.appR | apply Ent.skip)))); (· (first | rfl | assumption))))) (by rfl)) ?_))
 | ((show SLl _ _ _ _ _ (⟨⟨_, .fieldAddr _ _ _, _, _, _, _⟩, _, _⟩ :: _) _ _ _); (first | refine SLl.pu rfl rfl rfl (Pu.fieldAddr rfl) ?_ | refine SLl.rdSeq rfl rfl (Rd.fieldAddrEl rfl (by (first | exact Len.nil | (apply Len.row; (· (repeat (first | apply Sel.here | apply Sel.there | apply Upd.here | apply Upd.there)))) | (apply Len.rs; exact Rs.mono (by assumption) (by (repeat' (first | exact Ent.refl | exact Ent.drop | exact Ent.appR | apply Ent.skip)))))) (by omega)) ?_))
 | ((show SLl _ _ _ _ _ (⟨⟨_, .indexAddr _ _ _, _, _, _, _⟩, _, _⟩ :: _) _ _ _); (refine SLl.rdSeq rfl rfl (Rd.indexAddr rfl rfl (by (first | exact Len.nil | (apply Len.row; (· (repeat (first | apply Sel.here | apply Sel.there | apply Upd.here | apply Upd.there)))) | (apply Len.rs; exact Rs.mono (by assumption) (by (repeat' (first | exact Ent.refl | exact Ent.drop | exact Ent.appR | apply Ent.skip)))))) (by (first | exact ij0 | exact ij1 | exact ij2 | exact ij3 | exact ij4 | exact ij5 | exact ijs _ | exact ijm _ | rfl | exact (Int.toNat_of_nonneg (by omega)).symm)) (by omega)) ?_))
 | ((show SLl _ _ _ _ _ (⟨⟨_, .call ⟨.builtin .len, _, _⟩, _, _, _, _⟩, _, _⟩ :: _) _ _ _); refine SLl.rdSeq rfl rfl (Rd.len rfl (by (first | exact Len.nil | (apply Len.row; (· (repeat (first | apply Sel.here | apply Sel.there | apply Upd.here | apply Upd.there)))) | (apply Len.rs; exact Rs.mono (by assumption) (by (repeat' (first | exact Ent.refl | exact Ent.drop | exact Ent.appR | apply Ent.skip))))))) ?_)
 | ((show SLl _ _ _ _ _ (⟨⟨_, .binOp _ _ _ _ _, _, _, _, _⟩, _, _⟩ :: _) _ _ _); (first
 | refine SLl.pu rfl rfl rfl (Pu.add rfl rfl (IntWalk.i64_in _ (by omega))) ?_
 | refine SLl.pu rfl rfl rfl (Pu.sub rfl rfl (IntWalk.i64_in _ (by omega))) ?_
 | (refine SLl.cmp rfl rfl rfl rfl rfl rfl ?_ ?_ <;> intro hq <;> simp only [cmpP] at hq <;> try (first
 | exact (hq trivial).elim
 | (exfalso; omega)))
 | refine SLl.pu rfl rfl rfl (Pu.eqNilT rfl rfl) ?_
 | refine SLl.pu rfl rfl rfl (Pu.neNilF rfl rfl) ?_
 | refine SLl.rdSeq rfl rfl (Rd.eqNilF rfl rfl (by (first | exact Len.nil | (apply Len.row; (· (repeat (first | apply Sel.here | apply Sel.there | apply Upd.here | apply Upd.there)))) | (apply Len.rs; exact Rs.mono (by assumption) (by (repeat' (first | exact Ent.refl | exact Ent.drop | exact Ent.appR | apply Ent.skip)))))) (by assumption)) ?_
 | refine SLl.rdSeq rfl rfl (Rd.neNilT rfl rfl (by (first | exact Len.nil | (apply Len.row; (· (repeat (first | apply Sel.here | apply Sel.there | apply Upd.here | apply Upd.there)))) | (apply Len.rs; exact Rs.mono (by assumption) (by (repeat' (first | exact Ent.refl | exact Ent.drop | exact Ent.appR | apply Ent.skip)))))) (by assumption)) ?_
 | refine SLl.pu rfl rfl rfl (Pu.eqPtrNil rfl rfl) ?_
 | refine SLl.pu rfl rfl rfl (Pu.eqBool rfl rfl) ?_
 | refine SLl.pu rfl rfl rfl (Pu.neBool rfl rfl) ?_))
 | ((show SLl _ _ _ _ _ (⟨⟨_, .store _ _ _, _, _, _, _⟩, _, _⟩ :: _) _ _ _); (first | (refine SLl.seq0 rfl (SLo.store rfl rfl rfl (by (first | exact One.lit rfl | exact One.lit (by assumption) | exact One.mono (by assumption) (by (repeat' (first | exact Ent.refl | exact Ent.drop | exact Ent.appR | apply Ent.skip))) | exact One.len (by (first | exact Len.nil | (apply Len.row; (· (repeat (first | apply Sel.here | apply Sel.there | apply Upd.here | apply Upd.there)))) | (apply Len.rs; exact Rs.mono (by assumption) (by (repeat' (first | exact Ent.refl | exact Ent.drop | exact Ent.appR | apply Ent.skip)))))))) (by (first | (apply Wr.blk; (· (repeat (first | apply Sel.here | apply Sel.there | apply Upd.here | apply Upd.there))); (· exact Nat.le_of_ble_eq_true rfl)) | (apply Wr.row; (· (first | rfl | assumption)); (· exact Nat.le_of_ble_eq_true rfl); (· (repeat (first | apply Sel.here | apply Sel.there | apply Upd.here | apply Upd.there)))))) ?_)) | (refine SLl.seq0 rfl (SLo.storeN rfl rfl rfl (by (repeat' (first | exact trivial | (apply And.intro; (· (first | exact One.lit rfl | exact One.lit (by assumption) | exact One.mono (by assumption) (by (repeat' (first | exact Ent.refl | exact Ent.drop | exact Ent.appR | apply Ent.skip))) | exact One.len (by (first | exact Len.nil | (apply Len.row; (· (repeat (first | apply Sel.here | apply Sel.there | apply Upd.here | apply Upd.there)))) | (apply Len.rs; exact Rs.mono (by assumption) (by (repeat' (first | exact Ent.refl | exact Ent.drop | exact Ent.appR | apply Ent.skip)))))))))))) (Nat.le_of_ble_eq_true rfl) (by (repeat (first | apply Sel.here | apply Sel.there | apply Upd.here | apply Upd.there))) ?_))))
 | ((show SLl _ _ _ _ _ (⟨⟨_, .box _ _, _, _, _, _⟩, _, _⟩ :: _) _ _ _); refine SLl.seq rfl rfl (SLo.boxC rfl (by (first | exact Cel.one (by (first | exact One.lit rfl | exact One.lit (by assumption) | exact One.mono (by assumption) (by (repeat' (first | exact Ent.refl | exact Ent.drop | exact Ent.appR | apply Ent.skip))) | exact One.len (by (first | exact Len.nil | (apply Len.row; (· (repeat (first | apply Sel.here | apply Sel.there | apply Upd.here | apply Upd.there)))) | (apply Len.rs; exact Rs.mono (by assumption) (by (repeat' (first | exact Ent.refl | exact Ent.drop | exact Ent.appR | apply Ent.skip)))))))) | exact Cel.agg)) ?_); intro b)
 | ((show SLl _ _ _ _ _ (⟨⟨_, .alloc _, _, _, _, _⟩, _, _⟩ :: _) _ _ _); refine SLl.seq rfl rfl (SLo.alloc ?_); intro b)
 | ((show SLl _ _ _ _ _ (⟨⟨_, .build _ _, _, _, _, _⟩, _, _⟩ :: _) _ _ _); first
 | refine SLl.rdSeq rfl rfl (Rd.build rfl (by (repeat (first | exact CellsW.nil | (apply CellsW.cons; (· (first | exact Cel.one (by (first | exact One.lit rfl | exact One.lit (by assumption) | exact One.mono (by assumption) (by (repeat' (first | exact Ent.refl | exact Ent.drop | exact Ent.appR | apply Ent.skip))) | exact One.len (by (first | exact Len.nil | (apply Len.row; (· (repeat (first | apply Sel.here | apply Sel.there | apply Upd.here | apply Upd.there)))) | (apply Len.rs; exact Rs.mono (by assumption) (by (repeat' (first | exact Ent.refl | exact Ent.drop | exact Ent.appR | apply Ent.skip)))))))) | exact Cel.agg)))))) (by rfl)) ?_
 | refine SLl.pu rfl rfl rfl (Pu.build rfl rfl) ?_)
 | refine SLl.skip rfl rfl ?_))
 | (first
 | refine SLc.seq ?_
 | refine SLc.region rfl ?_
 | refine SLc.condT rfl ?_
 | refine SLc.condF rfl ?_
 | refine SLc.block ?_
 | refine SLc.skip ?_
 | refine SLc.exit ?_
 | refine SLc.ret ?_)))
    refine And.intro rfl (Exists.intro _ (Exists.intro _ (And.intro rfl (And.intro .drop rfl))))
  | true =>
    have hsm := hbb rfl
    rw [show ([(sl, G)] : List Gph).length = 1 from rfl, gsum_one] at hsm
    (repeat' (first
 | (first
 | refine SLl.nil ?_
 | ((show SLl _ _ _ _ _ (⟨⟨_, _, _, _, _, _⟩, _, _⟩ :: _) _ _ _); first
 | refine SLl.ev rfl rfl rfl rfl ?_
 | ((show SLl _ _ _ _ _ (⟨⟨_, .load _ _, _, _, _, _⟩, _, _⟩ :: _) _ _ _); (first | refine SLl.rdSeq rfl rfl (Rd.load rfl rfl (by (first | (apply Reads.blk; (· (repeat (first | apply Sel.here | apply Sel.there | apply Upd.here | apply Upd.there))); (· rfl)) | (apply Reads.row; (· (repeat (first | apply Sel.here | apply Sel.there | apply Upd.here | apply Upd.there))); (· (first | rfl | assumption)); (· rfl)) | (apply Reads.rs; (· exact Rs.mono (by assumption) (by (repeat' (first | exact Ent.refl | exact Ent.drop | exact Ent.appR | apply Ent.skip)))); (· (first | rfl | assumption)); (· rfl)) | exact Reads.mono (by assumption) (by (repeat' (first | exact Ent.refl | exact Ent.drop | exact Ent.appR | apply Ent.skip)))))) ?_ | refine SLl.rdSeq rfl rfl (Rd.loadN rfl rfl (by (first | exact ReadsN.mono (by assumption) (by (repeat' (first | exact Ent.refl | exact Ent.drop | exact Ent.appR | apply Ent.skip))) | (apply ReadsN.blk0; (· (repeat (first | apply Sel.here | apply Sel.there | apply Upd.here | apply Upd.there)))) | (apply ReadsN.row0; (· (repeat (first | apply Sel.here | apply Sel.there | apply Upd.here | apply Upd.there))); (· (first | rfl | assumption))) | (apply ReadsN.rs0; (· exact Rs.mono (by assumption) (by (repeat' (first | exact Ent.refl | exact Ent.drop | exact Ent.appR | apply Ent.skip)))); (· (first | rfl | assumption))))) (by rfl)) ?_))
 | ((show SLl _ _ _ _ _ (⟨⟨_, .fieldAddr _ _ _, _, _, _, _⟩, _, _⟩ :: _) _ _ _); (first | refine SLl.pu rfl rfl rfl (Pu.fieldAddr rfl) ?_ | refine SLl.rdSeq rfl rfl (Rd.fieldAddrEl rfl (by (first | exact Len.nil | (apply Len.row; (· (repeat (first | apply Sel.here | apply Sel.there | apply Upd.here | apply Upd.there)))) | (apply Len.rs; exact Rs.mono (by assumption) (by (repeat' (first | exact Ent.refl | exact Ent.drop | exact Ent.appR | apply Ent.skip)))))) (by omega)) ?_))
 | ((show SLl _ _ _ _ _ (⟨⟨_, .indexAddr _ _ _, _, _, _, _⟩, _, _⟩ :: _) _ _ _); (refine SLl.rdSeq rfl rfl (Rd.indexAddr rfl rfl (by (first | exact Len.nil | (apply Len.row; (· (repeat (first | apply Sel.here | apply Sel.there | apply Upd.here | apply Upd.there)))) | (apply Len.rs; exact Rs.mono (by assumption) (by (repeat' (first | exact Ent.refl | exact Ent.drop | exact Ent.appR | apply Ent.skip)))))) (by (first | exact ij0 | exact ij1 | exact ij2 | exact ij3 | exact ij4 | exact ij5 | exact ijs _ | exact ijm _ | rfl | exact (Int.toNat_of_nonneg (by omega)).symm)) (by omega)) ?_))
 | ((show SLl _ _ _ _ _ (⟨⟨_, .call ⟨.builtin .len, _, _⟩, _, _, _, _⟩, _, _⟩ :: _) _ _ _); refine SLl.rdSeq rfl rfl (Rd.len rfl (by (first | exact Len.nil | (apply Len.row; (· (repeat (first | apply Sel.here | apply Sel.there | apply Upd.here | apply Upd.there)))) | (apply Len.rs; exact Rs.mono (by assumption) (by (repeat' (first | exact Ent.refl | exact Ent.drop | exact Ent.appR | apply Ent.skip))))))) ?_)
 | ((show SLl _ _ _ _ _ (⟨⟨_, .binOp _ _ _ _ _, _, _, _, _⟩, _, _⟩ :: _) _ _ _); (first
 | refine SLl.pu rfl rfl rfl (Pu.add rfl rfl (IntWalk.i64_in _ (by omega))) ?_
 | refine SLl.pu rfl rfl rfl (Pu.sub rfl rfl (IntWalk.i64_in _ (by omega))) ?_
 | (refine SLl.cmp rfl rfl rfl rfl rfl rfl ?_ ?_ <;> intro hq <;> simp only [cmpP] at hq <;> try (first
 | exact (hq trivial).elim
 | (exfalso; omega)))
 | refine SLl.pu rfl rfl rfl (Pu.eqNilT rfl rfl) ?_
 | refine SLl.pu rfl rfl rfl (Pu.neNilF rfl rfl) ?_
 | refine SLl.rdSeq rfl rfl (Rd.eqNilF rfl rfl (by (first | exact Len.nil | (apply Len.row; (· (repeat (first | apply Sel.here | apply Sel.there | apply Upd.here | apply Upd.there)))) | (apply Len.rs; exact Rs.mono (by assumption) (by (repeat' (first | exact Ent.refl | exact Ent.drop | exact Ent.appR | apply Ent.skip)))))) (by assumption)) ?_
 | refine SLl.rdSeq rfl rfl (Rd.neNilT rfl rfl (by (first | exact Len.nil | (apply Len.row; (· (repeat (first | apply Sel.here | apply Sel.there | apply Upd.here | apply Upd.there)))) | (apply Len.rs; exact Rs.mono (by assumption) (by (repeat' (first | exact Ent.refl | exact Ent.drop | exact Ent.appR | apply Ent.skip)))))) (by assumption)) ?_
 | refine SLl.pu rfl rfl rfl (Pu.eqPtrNil rfl rfl) ?_
 | refine SLl.pu rfl rfl rfl (Pu.eqBool rfl rfl) ?_
 | refine SLl.pu rfl rfl rfl (Pu.neBool rfl rfl) ?_))
 | ((show SLl _ _ _ _ _ (⟨⟨_, .store _ _ _, _, _, _, _⟩, _, _⟩ :: _) _ _ _); (first | (refine SLl.seq0 rfl (SLo.store rfl rfl rfl (by (first | exact One.lit rfl | exact One.lit (by assumption) | exact One.mono (by assumption) (by (repeat' (first | exact Ent.refl | exact Ent.drop | exact Ent.appR | apply Ent.skip))) | exact One.len (by (first | exact Len.nil | (apply Len.row; (· (repeat (first | apply Sel.here | apply Sel.there | apply Upd.here | apply Upd.there)))) | (apply Len.rs; exact Rs.mono (by assumption) (by (repeat' (first | exact Ent.refl | exact Ent.drop | exact Ent.appR | apply Ent.skip)))))))) (by (first | (apply Wr.blk; (· (repeat (first | apply Sel.here | apply Sel.there | apply Upd.here | apply Upd.there))); (· exact Nat.le_of_ble_eq_true rfl)) | (apply Wr.row; (· (first | rfl | assumption)); (· exact Nat.le_of_ble_eq_true rfl); (· (repeat (first | apply Sel.here | apply Sel.there | apply Upd.here | apply Upd.there)))))) ?_)) | (refine SLl.seq0 rfl (SLo.storeN rfl rfl rfl (by (repeat' (first | exact trivial | (apply And.intro; (· (first | exact One.lit rfl | exact One.lit (by assumption) | exact One.mono (by assumption) (by (repeat' (first | exact Ent.refl | exact Ent.drop | exact Ent.appR | apply Ent.skip))) | exact One.len (by (first | exact Len.nil | (apply Len.row; (· (repeat (first | apply Sel.here | apply Sel.there | apply Upd.here | apply Upd.there)))) | (apply Len.rs; exact Rs.mono (by assumption) (by (repeat' (first | exact Ent.refl | exact Ent.drop | exact Ent.appR | apply Ent.skip)))))))))))) (Nat.le_of_ble_eq_true rfl) (by (repeat (first | apply Sel.here | apply Sel.there | apply Upd.here | apply Upd.there))) ?_))))
 | ((show SLl _ _ _ _ _ (⟨⟨_, .box _ _, _, _, _, _⟩, _, _⟩ :: _) _ _ _); refine SLl.seq rfl rfl (SLo.boxC rfl (by (first | exact Cel.one (by (first | exact One.lit rfl | exact One.lit (by assumption) | exact One.mono (by assumption) (by (repeat' (first | exact Ent.refl | exact Ent.drop | exact Ent.appR | apply Ent.skip))) | exact One.len (by (first | exact Len.nil | (apply Len.row; (· (repeat (first | apply Sel.here | apply Sel.there | apply Upd.here | apply Upd.there)))) | (apply Len.rs; exact Rs.mono (by assumption) (by (repeat' (first | exact Ent.refl | exact Ent.drop | exact Ent.appR | apply Ent.skip)))))))) | exact Cel.agg)) ?_); intro b)
 | ((show SLl _ _ _ _ _ (⟨⟨_, .alloc _, _, _, _, _⟩, _, _⟩ :: _) _ _ _); refine SLl.seq rfl rfl (SLo.alloc ?_); intro b)
 | ((show SLl _ _ _ _ _ (⟨⟨_, .build _ _, _, _, _, _⟩, _, _⟩ :: _) _ _ _); first
 | refine SLl.rdSeq rfl rfl (Rd.build rfl (by (repeat (first | exact CellsW.nil | (apply CellsW.cons; (· (first | exact Cel.one (by (first | exact One.lit rfl | exact One.lit (by assumption) | exact One.mono (by assumption) (by (repeat' (first | exact Ent.refl | exact Ent.drop | exact Ent.appR | apply Ent.skip))) | exact One.len (by (first | exact Len.nil | (apply Len.row; (· (repeat (first | apply Sel.here | apply Sel.there | apply Upd.here | apply Upd.there)))) | (apply Len.rs; exact Rs.mono (by assumption) (by (repeat' (first | exact Ent.refl | exact Ent.drop | exact Ent.appR | apply Ent.skip)))))))) | exact Cel.agg)))))) (by rfl)) ?_
 | refine SLl.pu rfl rfl rfl (Pu.build rfl rfl) ?_)
 | refine SLl.skip rfl rfl ?_))
 | (first
 | refine SLc.seq ?_
 | refine SLc.region rfl ?_
 | refine SLc.condT rfl ?_
 | refine SLc.condF rfl ?_
 | refine SLc.block ?_
 | refine SLc.skip ?_
 | refine SLc.exit ?_
 | refine SLc.ret ?_)))
    cases hm : mayF G root with
    | false =>
      refine SLl.seq rfl rfl (SLo.call plain32 rfl (SLf.mono (RFrom_no W _ sl G root (hx.graphR _) hm) ?_))
      rintro v σ ⟨rfl, rfl⟩
      (repeat' (first
 | (first
 | refine SLl.nil ?_
 | ((show SLl _ _ _ _ _ (⟨⟨_, _, _, _, _, _⟩, _, _⟩ :: _) _ _ _); first
 | refine SLl.ev rfl rfl rfl rfl ?_
 | ((show SLl _ _ _ _ _ (⟨⟨_, .load _ _, _, _, _, _⟩, _, _⟩ :: _) _ _ _); (first | refine SLl.rdSeq rfl rfl (Rd.load rfl rfl (by (first | (apply Reads.blk; (· (repeat (first | apply Sel.here | apply Sel.there | apply Upd.here | apply Upd.there))); (· rfl)) | (apply Reads.row; (· (repeat (first | apply Sel.here | apply Sel.there | apply Upd.here | apply Upd.there))); (· (first | rfl | assumption)); (· rfl)) | (apply Reads.rs; (· exact Rs.mono (by assumption) (by (repeat' (first | exact Ent.refl | exact Ent.drop | exact Ent.appR | apply Ent.skip)))); (· (first | rfl | assumption)); (· rfl)) | exact Reads.mono (by assumption) (by (repeat' (first | exact Ent.refl | exact Ent.drop | exact Ent.appR | apply Ent.skip)))))) ?_ | refine SLl.rdSeq rfl rfl (Rd.loadN rfl rfl (by (first | exact ReadsN.mono (by assumption) (by (repeat' (first | exact Ent.refl | exact Ent.drop | exact Ent.appR | apply Ent.skip))) | (apply ReadsN.blk0; (· (repeat (first | apply Sel.here | apply Sel.there | apply Upd.here | apply Upd.there)))) | (apply ReadsN.row0; (· (repeat (first | apply Sel.here | apply Sel.there | apply Upd.here | apply Upd.there))); (· (first | rfl | assumption))) | (apply ReadsN.rs0; (· exact Rs.mono (by assumption) (by (repeat' (first | exact Ent.refl | exact Ent.drop | exact Ent.appR | apply Ent.skip)))); (· (first | rfl | assumption))))) (by rfl)) ?_))
 | ((show SLl _ _ _ _ _ (⟨⟨_, .fieldAddr _ _ _, _, _, _, _⟩, _, _⟩ :: _) _ _ _); (first | refine SLl.pu rfl rfl rfl (Pu.fieldAddr rfl) ?_ | refine SLl.rdSeq rfl rfl (Rd.fieldAddrEl rfl (by (first | exact Len.nil | (apply Len.row; (· (repeat (first | apply Sel.here | apply Sel.there | apply Upd.here | apply Upd.there)))) | (apply Len.rs; exact Rs.mono (by assumption) (by (repeat' (first | exact Ent.refl | exact Ent.drop | exact Ent.appR | apply Ent.skip)))))) (by omega)) ?_))
 | ((show SLl _ _ _ _ _ (⟨⟨_, .indexAddr _ _ _, _, _, _, _⟩, _, _⟩ :: _) _ _ _); (refine SLl.rdSeq rfl rfl (Rd.indexAddr rfl rfl (by (first | exact Len.nil | (apply Len.row; (· (repeat (first | apply Sel.here | apply Sel.there | apply Upd.here | apply Upd.there)))) | (apply Len.rs; exact Rs.mono (by assumption) (by (repeat' (first | exact Ent.refl | exact Ent.drop | exact Ent.appR | apply Ent.skip)))))) (by (first | exact ij0 | exact ij1 | exact ij2 | exact ij3 | exact ij4 | exact ij5 | exact ijs _ | exact ijm _ | rfl | exact (Int.toNat_of_nonneg (by omega)).symm)) (by omega)) ?_))
 | ((show SLl _ _ _ _ _ (⟨⟨_, .call ⟨.builtin .len, _, _⟩, _, _, _, _⟩, _, _⟩ :: _) _ _ _); refine SLl.rdSeq rfl rfl (Rd.len rfl (by (first | exact Len.nil | (apply Len.row; (· (repeat (first | apply Sel.here | apply Sel.there | apply Upd.here | apply Upd.there)))) | (apply Len.rs; exact Rs.mono (by assumption) (by (repeat' (first | exact Ent.refl | exact Ent.drop | exact Ent.appR | apply Ent.skip))))))) ?_)
 | ((show SLl _ _ _ _ _ (⟨⟨_, .binOp _ _ _ _ _, _, _, _, _⟩, _, _⟩ :: _) _ _ _); (first
 | refine SLl.pu rfl rfl rfl (Pu.add rfl rfl (IntWalk.i64_in _ (by omega))) ?_
 | refine SLl.pu rfl rfl rfl (Pu.sub rfl rfl (IntWalk.i64_in _ (by omega))) ?_
 | (refine SLl.cmp rfl rfl rfl rfl rfl rfl ?_ ?_ <;> intro hq <;> simp only [cmpP] at hq <;> try (first
 | exact (hq trivial).elim
 | (exfalso; omega)))
 | refine SLl.pu rfl rfl rfl (Pu.eqNilT rfl rfl) ?_
 | refine SLl.pu rfl rfl rfl (Pu.neNilF rfl rfl) ?_
 | refine SLl.rdSeq rfl rfl (Rd.eqNilF rfl rfl (by (first | exact Len.nil | (apply Len.row; (· (repeat (first | apply Sel.here | apply Sel.there | apply Upd.here | apply Upd.there)))) | (apply Len.rs; exact Rs.mono (by assumption) (by (repeat' (first | exact Ent.refl | exact Ent.drop | exact Ent.appR | apply Ent.skip)))))) (by assumption)) ?_
 | refine SLl.rdSeq rfl rfl (Rd.neNilT rfl rfl (by (first | exact Len.nil | (apply Len.row; (· (repeat (first | apply Sel.here | apply Sel.there | apply Upd.here | apply Upd.there)))) | (apply Len.rs; exact Rs.mono (by assumption) (by (repeat' (first | exact Ent.refl | exact Ent.drop | exact Ent.appR | apply Ent.skip)))))) (by assumption)) ?_
 | refine SLl.pu rfl rfl rfl (Pu.eqPtrNil rfl rfl) ?_
 | refine SLl.pu rfl rfl rfl (Pu.eqBool rfl rfl) ?_
 | refine SLl.pu rfl rfl rfl (Pu.neBool rfl rfl) ?_))
 | ((show SLl _ _ _ _ _ (⟨⟨_, .store _ _ _, _, _, _, _⟩, _, _⟩ :: _) _ _ _); (first | (refine SLl.seq0 rfl (SLo.store rfl rfl rfl (by (first | exact One.lit rfl | exact One.lit (by assumption) | exact One.mono (by assumption) (by (repeat' (first | exact Ent.refl | exact Ent.drop | exact Ent.appR | apply Ent.skip))) | exact One.len (by (first | exact Len.nil | (apply Len.row; (· (repeat (first | apply Sel.here | apply Sel.there | apply Upd.here | apply Upd.there)))) | (apply Len.rs; exact Rs.mono (by assumption) (by (repeat' (first | exact Ent.refl | exact Ent.drop | exact Ent.appR | apply Ent.skip)))))))) (by (first | (apply Wr.blk; (· (repeat (first | apply Sel.here | apply Sel.there | apply Upd.here | apply Upd.there))); (· exact Nat.le_of_ble_eq_true rfl)) | (apply Wr.row; (· (first | rfl | assumption)); (· exact Nat.le_of_ble_eq_true rfl); (· (repeat (first | apply Sel.here | apply Sel.there | apply Upd.here | apply Upd.there)))))) ?_)) | (refine SLl.seq0 rfl (SLo.storeN rfl rfl rfl (by (repeat' (first | exact trivial | (apply And.intro; (· (first | exact One.lit rfl | exact One.lit (by assumption) | exact One.mono (by assumption) (by (repeat' (first | exact Ent.refl | exact Ent.drop | exact Ent.appR | apply Ent.skip))) | exact One.len (by (first | exact Len.nil | (apply Len.row; (· (repeat (first | apply Sel.here | apply Sel.there | apply Upd.here | apply Upd.there)))) | (apply Len.rs; exact Rs.mono (by assumption) (by (repeat' (first | exact Ent.refl | exact Ent.drop | exact Ent.appR | apply Ent.skip)))))))))))) (Nat.le_of_ble_eq_true rfl) (by (repeat (first | apply Sel.here | apply Sel.there | apply Upd.here | apply Upd.there))) ?_))))
 | ((show SLl _ _ _ _ _ (⟨⟨_, .box _ _, _, _, _, _⟩, _, _⟩ :: _) _ _ _); refine SLl.seq rfl rfl (SLo.boxC rfl (by (first | exact Cel.one (by (first | exact One.lit rfl | exact One.lit (by assumption) | exact One.mono (by assumption) (by (repeat' (first | exact Ent.refl | exact Ent.drop | exact Ent.appR | apply Ent.skip))) | exact One.len (by (first | exact Len.nil | (apply Len.row; (· (repeat (first | apply Sel.here | apply Sel.there | apply Upd.here | apply Upd.there)))) | (apply Len.rs; exact Rs.mono (by assumption) (by (repeat' (first | exact Ent.refl | exact Ent.drop | exact Ent.appR | apply Ent.skip)))))))) | exact Cel.agg)) ?_); intro b)
 | ((show SLl _ _ _ _ _ (⟨⟨_, .alloc _, _, _, _, _⟩, _, _⟩ :: _) _ _ _); refine SLl.seq rfl rfl (SLo.alloc ?_); intro b)
 | ((show SLl _ _ _ _ _ (⟨⟨_, .build _ _, _, _, _, _⟩, _, _⟩ :: _) _ _ _); first
 | refine SLl.rdSeq rfl rfl (Rd.build rfl (by (repeat (first | exact CellsW.nil | (apply CellsW.cons; (· (first | exact Cel.one (by (first | exact One.lit rfl | exact One.lit (by assumption) | exact One.mono (by assumption) (by (repeat' (first | exact Ent.refl | exact Ent.drop | exact Ent.appR | apply Ent.skip))) | exact One.len (by (first | exact Len.nil | (apply Len.row; (· (repeat (first | apply Sel.here | apply Sel.there | apply Upd.here | apply Upd.there)))) | (apply Len.rs; exact Rs.mono (by assumption) (by (repeat' (first | exact Ent.refl | exact Ent.drop | exact Ent.appR | apply Ent.skip)))))))) | exact Cel.agg)))))) (by rfl)) ?_
 | refine SLl.pu rfl rfl rfl (Pu.build rfl rfl) ?_)
 | refine SLl.skip rfl rfl ?_))
 | (first
 | refine SLc.seq ?_
 | refine SLc.region rfl ?_
 | refine SLc.condT rfl ?_
 | refine SLc.condF rfl ?_
 | refine SLc.block ?_
 | refine SLc.skip ?_
 | refine SLc.exit ?_
 | refine SLc.ret ?_)))
      refine And.intro rfl (Exists.intro _ (Exists.intro _ (And.intro rfl (And.intro .drop rfl))))
    | true =>
      obtain ⟨h0, h1, hin⟩ := mayF_spec hm
      obtain ⟨rt, rfl⟩ := Int.eq_ofNat_of_zero_le h0
      refine SLl.seq rfl rfl (SLo.call plain32 rfl (SLf.mono (RFrom_yes W _ sl G rt (hx.graphR _) hm (by omega)) ?_))
      rintro pv σ ⟨hpv, rfl⟩
      (repeat' (first
 | (first
 | refine SLl.nil ?_
 | ((show SLl _ _ _ _ _ (⟨⟨_, _, _, _, _, _⟩, _, _⟩ :: _) _ _ _); first
 | refine SLl.ev rfl rfl rfl rfl ?_
 | ((show SLl _ _ _ _ _ (⟨⟨_, .load _ _, _, _, _, _⟩, _, _⟩ :: _) _ _ _); (first | refine SLl.rdSeq rfl rfl (Rd.load rfl rfl (by (first | (apply Reads.blk; (· (repeat (first | apply Sel.here | apply Sel.there | apply Upd.here | apply Upd.there))); (· rfl)) | (apply Reads.row; (· (repeat (first | apply Sel.here | apply Sel.there | apply Upd.here | apply Upd.there))); (· (first | rfl | assumption)); (· rfl)) | (apply Reads.rs; (· exact Rs.mono (by assumption) (by (repeat' (first | exact Ent.refl | exact Ent.drop | exact Ent.appR | apply Ent.skip)))); (· (first | rfl | assumption)); (· rfl)) | exact Reads.mono (by assumption) (by (repeat' (first | exact Ent.refl | exact Ent.drop | exact Ent.appR | apply Ent.skip)))))) ?_ | refine SLl.rdSeq rfl rfl (Rd.loadN rfl rfl (by (first | exact ReadsN.mono (by assumption) (by (repeat' (first | exact Ent.refl | exact Ent.drop | exact Ent.appR | apply Ent.skip))) | (apply ReadsN.blk0; (· (repeat (first | apply Sel.here | apply Sel.there | apply Upd.here | apply Upd.there)))) | (apply ReadsN.row0; (· (repeat (first | apply Sel.here | apply Sel.there | apply Upd.here | apply Upd.there))); (· (first | rfl | assumption))) | (apply ReadsN.rs0; (· exact Rs.mono (by assumption) (by (repeat' (first | exact Ent.refl | exact Ent.drop | exact Ent.appR | apply Ent.skip)))); (· (first | rfl | assumption))))) (by rfl)) ?_))
 | ((show SLl _ _ _ _ _ (⟨⟨_, .fieldAddr _ _ _, _, _, _, _⟩, _, _⟩ :: _) _ _ _); (first | refine SLl.pu rfl rfl rfl (Pu.fieldAddr rfl) ?_ | refine SLl.rdSeq rfl rfl (Rd.fieldAddrEl rfl (by (first | exact Len.nil | (apply Len.row; (· (repeat (first | apply Sel.here | apply Sel.there | apply Upd.here | apply Upd.there)))) | (apply Len.rs; exact Rs.mono (by assumption) (by (repeat' (first | exact Ent.refl | exact Ent.drop | exact Ent.appR | apply Ent.skip)))))) (by omega)) ?_))
 | ((show SLl _ _ _ _ _ (⟨⟨_, .indexAddr _ _ _, _, _, _, _⟩, _, _⟩ :: _) _ _ _); (refine SLl.rdSeq rfl rfl (Rd.indexAddr rfl rfl (by (first | exact Len.nil | (apply Len.row; (· (repeat (first | apply Sel.here | apply Sel.there | apply Upd.here | apply Upd.there)))) | (apply Len.rs; exact Rs.mono (by assumption) (by (repeat' (first | exact Ent.refl | exact Ent.drop | exact Ent.appR | apply Ent.skip)))))) (by (first | exact ij0 | exact ij1 | exact ij2 | exact ij3 | exact ij4 | exact ij5 | exact ijs _ | exact ijm _ | rfl | exact (Int.toNat_of_nonneg (by omega)).symm)) (by omega)) ?_))
 | ((show SLl _ _ _ _ _ (⟨⟨_, .call ⟨.builtin .len, _, _⟩, _, _, _, _⟩, _, _⟩ :: _) _ _ _); refine SLl.rdSeq rfl rfl (Rd.len rfl (by (first | exact Len.nil | (apply Len.row; (· (repeat (first | apply Sel.here | apply Sel.there | apply Upd.here | apply Upd.there)))) | (apply Len.rs; exact Rs.mono (by assumption) (by (repeat' (first | exact Ent.refl | exact Ent.drop | exact Ent.appR | apply Ent.skip))))))) ?_)
 | ((show SLl _ _ _ _ _ (⟨⟨_, .binOp _ _ _ _ _, _, _, _, _⟩, _, _⟩ :: _) _ _ _); (first
 | refine SLl.pu rfl rfl rfl (Pu.add rfl rfl (IntWalk.i64_in _ (by omega))) ?_
 | refine SLl.pu rfl rfl rfl (Pu.sub rfl rfl (IntWalk.i64_in _ (by omega))) ?_
 | (refine SLl.cmp rfl rfl rfl rfl rfl rfl ?_ ?_ <;> intro hq <;> simp only [cmpP] at hq <;> try (first
 | exact (hq trivial).elim
 | (exfalso; omega)))
 | refine SLl.pu rfl rfl rfl (Pu.eqNilT rfl rfl) ?_
 | refine SLl.pu rfl rfl rfl (Pu.neNilF rfl rfl) ?_
 | refine SLl.rdSeq rfl rfl (Rd.eqNilF rfl rfl (by (first | exact Len.nil | (apply Len.row; (· (repeat (first | apply Sel.here | apply Sel.there | apply Upd.here | apply Upd.there)))) | (apply Len.rs; exact Rs.mono (by assumption) (by (repeat' (first | exact Ent.refl | exact Ent.drop | exact Ent.appR | apply Ent.skip)))))) (by assumption)) ?_
 | refine SLl.rdSeq rfl rfl (Rd.neNilT rfl rfl (by (first | exact Len.nil | (apply Len.row; (· (repeat (first | apply Sel.here | apply Sel.there | apply Upd.here | apply Upd.there)))) | (apply Len.rs; exact Rs.mono (by assumption) (by (repeat' (first | exact Ent.refl | exact Ent.drop | exact Ent.appR | apply Ent.skip)))))) (by assumption)) ?_
 | refine SLl.pu rfl rfl rfl (Pu.eqPtrNil rfl rfl) ?_
 | refine SLl.pu rfl rfl rfl (Pu.eqBool rfl rfl) ?_
 | refine SLl.pu rfl rfl rfl (Pu.neBool rfl rfl) ?_))
 | ((show SLl _ _ _ _ _ (⟨⟨_, .store _ _ _, _, _, _, _⟩, _, _⟩ :: _) _ _ _); (first | (refine SLl.seq0 rfl (SLo.store rfl rfl rfl (by (first | exact One.lit rfl | exact One.lit (by assumption) | exact One.mono (by assumption) (by (repeat' (first | exact Ent.refl | exact Ent.drop | exact Ent.appR | apply Ent.skip))) | exact One.len (by (first | exact Len.nil | (apply Len.row; (· (repeat (first | apply Sel.here | apply Sel.there | apply Upd.here | apply Upd.there)))) | (apply Len.rs; exact Rs.mono (by assumption) (by (repeat' (first | exact Ent.refl | exact Ent.drop | exact Ent.appR | apply Ent.skip)))))))) (by (first | (apply Wr.blk; (· (repeat (first | apply Sel.here | apply Sel.there | apply Upd.here | apply Upd.there))); (· exact Nat.le_of_ble_eq_true rfl)) | (apply Wr.row; (· (first | rfl | assumption)); (· exact Nat.le_of_ble_eq_true rfl); (· (repeat (first | apply Sel.here | apply Sel.there | apply Upd.here | apply Upd.there)))))) ?_)) | (refine SLl.seq0 rfl (SLo.storeN rfl rfl rfl (by (repeat' (first | exact trivial | (apply And.intro; (· (first | exact One.lit rfl | exact One.lit (by assumption) | exact One.mono (by assumption) (by (repeat' (first | exact Ent.refl | exact Ent.drop | exact Ent.appR | apply Ent.skip))) | exact One.len (by (first | exact Len.nil | (apply Len.row; (· (repeat (first | apply Sel.here | apply Sel.there | apply Upd.here | apply Upd.there)))) | (apply Len.rs; exact Rs.mono (by assumption) (by (repeat' (first | exact Ent.refl | exact Ent.drop | exact Ent.appR | apply Ent.skip)))))))))))) (Nat.le_of_ble_eq_true rfl) (by (repeat (first | apply Sel.here | apply Sel.there | apply Upd.here | apply Upd.there))) ?_))))
 | ((show SLl _ _ _ _ _ (⟨⟨_, .box _ _, _, _, _, _⟩, _, _⟩ :: _) _ _ _); refine SLl.seq rfl rfl (SLo.boxC rfl (by (first | exact Cel.one (by (first | exact One.lit rfl | exact One.lit (by assumption) | exact One.mono (by assumption) (by (repeat' (first | exact Ent.refl | exact Ent.drop | exact Ent.appR | apply Ent.skip))) | exact One.len (by (first | exact Len.nil | (apply Len.row; (· (repeat (first | apply Sel.here | apply Sel.there | apply Upd.here | apply Upd.there)))) | (apply Len.rs; exact Rs.mono (by assumption) (by (repeat' (first | exact Ent.refl | exact Ent.drop | exact Ent.appR | apply Ent.skip)))))))) | exact Cel.agg)) ?_); intro b)
 | ((show SLl _ _ _ _ _ (⟨⟨_, .alloc _, _, _, _, _⟩, _, _⟩ :: _) _ _ _); refine SLl.seq rfl rfl (SLo.alloc ?_); intro b)
 | ((show SLl _ _ _ _ _ (⟨⟨_, .build _ _, _, _, _, _⟩, _, _⟩ :: _) _ _ _); first
 | refine SLl.rdSeq rfl rfl (Rd.build rfl (by (repeat (first | exact CellsW.nil | (apply CellsW.cons; (· (first | exact Cel.one (by (first | exact One.lit rfl | exact One.lit (by assumption) | exact One.mono (by assumption) (by (repeat' (first | exact Ent.refl | exact Ent.drop | exact Ent.appR | apply Ent.skip))) | exact One.len (by (first | exact Len.nil | (apply Len.row; (· (repeat (first | apply Sel.here | apply Sel.there | apply Upd.here | apply Upd.there)))) | (apply Len.rs; exact Rs.mono (by assumption) (by (repeat' (first | exact Ent.refl | exact Ent.drop | exact Ent.appR | apply Ent.skip)))))))) | exact Cel.agg)))))) (by rfl)) ?_
 | refine SLl.pu rfl rfl rfl (Pu.build rfl rfl) ?_)
 | refine SLl.skip rfl rfl ?_))
 | (first
 | refine SLc.seq ?_
 | refine SLc.region rfl ?_
 | refine SLc.condT rfl ?_
 | refine SLc.condF rfl ?_
 | refine SLc.block ?_
 | refine SLc.skip ?_
 | refine SLc.exit ?_
 | refine SLc.ret ?_)))
      refine SLc.draws [.row pv 4 1 (bools (fromL G rt)), .row lv 24 1 [[sl]], .blk b 24 [sl]] [(0, .take), (1, .take), (3, .take), (4, .take), (6, .take), (7, .take), (2, .eff true), (5, .eff true), (8, .eff true), (9, .take), (10, .take), (11, .take)] mixed (by kernel_rfl) .refl ?_
      (repeat' (first
 | (first
 | refine SLl.nil ?_
 | ((show SLl _ _ _ _ _ (⟨⟨_, _, _, _, _, _⟩, _, _⟩ :: _) _ _ _); first
 | refine SLl.ev rfl rfl rfl rfl ?_
 | ((show SLl _ _ _ _ _ (⟨⟨_, .load _ _, _, _, _, _⟩, _, _⟩ :: _) _ _ _); (first | refine SLl.rdTake rfl rfl (Rd.load rfl rfl (by (first | (apply Reads.blk; (· (repeat (first | apply Sel.here | apply Sel.there | apply Upd.here | apply Upd.there))); (· rfl)) | (apply Reads.row; (· (repeat (first | apply Sel.here | apply Sel.there | apply Upd.here | apply Upd.there))); (· (first | rfl | assumption)); (· rfl)) | (apply Reads.rs; (· exact Rs.mono (by assumption) (by (repeat' (first | exact Ent.refl | exact Ent.drop | exact Ent.appR | apply Ent.skip)))); (· (first | rfl | assumption)); (· rfl)) | exact Reads.mono (by assumption) (by (repeat' (first | exact Ent.refl | exact Ent.drop | exact Ent.appR | apply Ent.skip)))))) ?_ | refine SLl.rdTake rfl rfl (Rd.loadN rfl rfl (by (first | exact ReadsN.mono (by assumption) (by (repeat' (first | exact Ent.refl | exact Ent.drop | exact Ent.appR | apply Ent.skip))) | (apply ReadsN.blk0; (· (repeat (first | apply Sel.here | apply Sel.there | apply Upd.here | apply Upd.there)))) | (apply ReadsN.row0; (· (repeat (first | apply Sel.here | apply Sel.there | apply Upd.here | apply Upd.there))); (· (first | rfl | assumption))) | (apply ReadsN.rs0; (· exact Rs.mono (by assumption) (by (repeat' (first | exact Ent.refl | exact Ent.drop | exact Ent.appR | apply Ent.skip)))); (· (first | rfl | assumption))))) (by rfl)) ?_))
 | ((show SLl _ _ _ _ _ (⟨⟨_, .fieldAddr _ _ _, _, _, _, _⟩, _, _⟩ :: _) _ _ _); (first | refine SLl.pu rfl rfl rfl (Pu.fieldAddr rfl) ?_ | refine SLl.rdTake rfl rfl (Rd.fieldAddrEl rfl (by (first | exact Len.nil | (apply Len.row; (· (repeat (first | apply Sel.here | apply Sel.there | apply Upd.here | apply Upd.there)))) | (apply Len.rs; exact Rs.mono (by assumption) (by (repeat' (first | exact Ent.refl | exact Ent.drop | exact Ent.appR | apply Ent.skip)))))) (by omega)) ?_))
 | ((show SLl _ _ _ _ _ (⟨⟨_, .indexAddr _ _ _, _, _, _, _⟩, _, _⟩ :: _) _ _ _); (refine SLl.rdTake rfl rfl (Rd.indexAddr rfl rfl (by (first | exact Len.nil | (apply Len.row; (· (repeat (first | apply Sel.here | apply Sel.there | apply Upd.here | apply Upd.there)))) | (apply Len.rs; exact Rs.mono (by assumption) (by (repeat' (first | exact Ent.refl | exact Ent.drop | exact Ent.appR | apply Ent.skip)))))) (by (first | exact ij0 | exact ij1 | exact ij2 | exact ij3 | exact ij4 | exact ij5 | exact ijs _ | exact ijm _ | rfl | exact (Int.toNat_of_nonneg (by omega)).symm)) (by omega)) ?_))
 | ((show SLl _ _ _ _ _ (⟨⟨_, .call ⟨.builtin .len, _, _⟩, _, _, _, _⟩, _, _⟩ :: _) _ _ _); refine SLl.rdTake rfl rfl (Rd.len rfl (by (first | exact Len.nil | (apply Len.row; (· (repeat (first | apply Sel.here | apply Sel.there | apply Upd.here | apply Upd.there)))) | (apply Len.rs; exact Rs.mono (by assumption) (by (repeat' (first | exact Ent.refl | exact Ent.drop | exact Ent.appR | apply Ent.skip))))))) ?_)
 | ((show SLl _ _ _ _ _ (⟨⟨_, .binOp _ _ _ _ _, _, _, _, _⟩, _, _⟩ :: _) _ _ _); (first
 | refine SLl.pu rfl rfl rfl (Pu.add rfl rfl (IntWalk.i64_in _ (by omega))) ?_
 | refine SLl.pu rfl rfl rfl (Pu.sub rfl rfl (IntWalk.i64_in _ (by omega))) ?_
 | (refine SLl.cmp rfl rfl rfl rfl rfl rfl ?_ ?_ <;> intro hq <;> simp only [cmpP] at hq <;> try (first
 | exact (hq trivial).elim
 | (exfalso; omega)))
 | refine SLl.pu rfl rfl rfl (Pu.eqNilT rfl rfl) ?_
 | refine SLl.pu rfl rfl rfl (Pu.neNilF rfl rfl) ?_
 | refine SLl.rdTake rfl rfl (Rd.eqNilF rfl rfl (by (first | exact Len.nil | (apply Len.row; (· (repeat (first | apply Sel.here | apply Sel.there | apply Upd.here | apply Upd.there)))) | (apply Len.rs; exact Rs.mono (by assumption) (by (repeat' (first | exact Ent.refl | exact Ent.drop | exact Ent.appR | apply Ent.skip)))))) (by assumption)) ?_
 | refine SLl.rdTake rfl rfl (Rd.neNilT rfl rfl (by (first | exact Len.nil | (apply Len.row; (· (repeat (first | apply Sel.here | apply Sel.there | apply Upd.here | apply Upd.there)))) | (apply Len.rs; exact Rs.mono (by assumption) (by (repeat' (first | exact Ent.refl | exact Ent.drop | exact Ent.appR | apply Ent.skip)))))) (by assumption)) ?_
 | refine SLl.pu rfl rfl rfl (Pu.eqPtrNil rfl rfl) ?_
 | refine SLl.pu rfl rfl rfl (Pu.eqBool rfl rfl) ?_
 | refine SLl.pu rfl rfl rfl (Pu.neBool rfl rfl) ?_))
 | ((show SLl _ _ _ _ _ (⟨⟨_, .store _ _ _, _, _, _, _⟩, _, _⟩ :: _) _ _ _); (first | (refine SLl.seq0 rfl (SLo.store rfl rfl rfl (by (first | exact One.lit rfl | exact One.lit (by assumption) | exact One.mono (by assumption) (by (repeat' (first | exact Ent.refl | exact Ent.drop | exact Ent.appR | apply Ent.skip))) | exact One.len (by (first | exact Len.nil | (apply Len.row; (· (repeat (first | apply Sel.here | apply Sel.there | apply Upd.here | apply Upd.there)))) | (apply Len.rs; exact Rs.mono (by assumption) (by (repeat' (first | exact Ent.refl | exact Ent.drop | exact Ent.appR | apply Ent.skip)))))))) (by (first | (apply Wr.blk; (· (repeat (first | apply Sel.here | apply Sel.there | apply Upd.here | apply Upd.there))); (· exact Nat.le_of_ble_eq_true rfl)) | (apply Wr.row; (· (first | rfl | assumption)); (· exact Nat.le_of_ble_eq_true rfl); (· (repeat (first | apply Sel.here | apply Sel.there | apply Upd.here | apply Upd.there)))))) ?_)) | (refine SLl.seq0 rfl (SLo.storeN rfl rfl rfl (by (repeat' (first | exact trivial | (apply And.intro; (· (first | exact One.lit rfl | exact One.lit (by assumption) | exact One.mono (by assumption) (by (repeat' (first | exact Ent.refl | exact Ent.drop | exact Ent.appR | apply Ent.skip))) | exact One.len (by (first | exact Len.nil | (apply Len.row; (· (repeat (first | apply Sel.here | apply Sel.there | apply Upd.here | apply Upd.there)))) | (apply Len.rs; exact Rs.mono (by assumption) (by (repeat' (first | exact Ent.refl | exact Ent.drop | exact Ent.appR | apply Ent.skip)))))))))))) (Nat.le_of_ble_eq_true rfl) (by (repeat (first | apply Sel.here | apply Sel.there | apply Upd.here | apply Upd.there))) ?_))))
 | ((show SLl _ _ _ _ _ (⟨⟨_, .box _ _, _, _, _, _⟩, _, _⟩ :: _) _ _ _); refine SLl.seq rfl rfl (SLo.boxC rfl (by (first | exact Cel.one (by (first | exact One.lit rfl | exact One.lit (by assumption) | exact One.mono (by assumption) (by (repeat' (first | exact Ent.refl | exact Ent.drop | exact Ent.appR | apply Ent.skip))) | exact One.len (by (first | exact Len.nil | (apply Len.row; (· (repeat (first | apply Sel.here | apply Sel.there | apply Upd.here | apply Upd.there)))) | (apply Len.rs; exact Rs.mono (by assumption) (by (repeat' (first | exact Ent.refl | exact Ent.drop | exact Ent.appR | apply Ent.skip)))))))) | exact Cel.agg)) ?_); intro b)
 | ((show SLl _ _ _ _ _ (⟨⟨_, .alloc _, _, _, _, _⟩, _, _⟩ :: _) _ _ _); refine SLl.seq rfl rfl (SLo.alloc ?_); intro b)
 | ((show SLl _ _ _ _ _ (⟨⟨_, .build _ _, _, _, _, _⟩, _, _⟩ :: _) _ _ _); first
 | refine SLl.rdTake rfl rfl (Rd.build rfl (by (repeat (first | exact CellsW.nil | (apply CellsW.cons; (· (first | exact Cel.one (by (first | exact One.lit rfl | exact One.lit (by assumption) | exact One.mono (by assumption) (by (repeat' (first | exact Ent.refl | exact Ent.drop | exact Ent.appR | apply Ent.skip))) | exact One.len (by (first | exact Len.nil | (apply Len.row; (· (repeat (first | apply Sel.here | apply Sel.there | apply Upd.here | apply Upd.there)))) | (apply Len.rs; exact Rs.mono (by assumption) (by (repeat' (first | exact Ent.refl | exact Ent.drop | exact Ent.appR | apply Ent.skip)))))))) | exact Cel.agg)))))) (by rfl)) ?_
 | refine SLl.pu rfl rfl rfl (Pu.build rfl rfl) ?_)
 | refine SLl.skip rfl rfl ?_))
 | (first
 | refine SLc.seq ?_
 | refine SLc.region rfl ?_
 | refine SLc.condT rfl ?_
 | refine SLc.condF rfl ?_
 | refine SLc.block ?_
 | refine SLc.skip ?_
 | refine SLc.exit ?_
 | refine SLc.ret ?_)))
      refine SLl.eff rfl rfl (SLo.call plain29 rfl (SLf.mono (From_yes W _ sl G rt (hx.graphR _) hm (by omega)) ?_))
      rintro rv σ ⟨hrv, rfl⟩
      refine And.intro (fun _ => by (repeat' (first | exact Ent.refl | exact Ent.drop | exact Ent.appR | apply Ent.skip))) ?_
      refine SLl.eff rfl rfl (SLo.call plain30 rfl (SLf.mono (Users_yes W _ sl G rt (hx.graphR _) hm (by omega) (by omega)) ?_))
      rintro uv σ ⟨huv, ps, hps, rfl⟩
      refine And.intro (fun _ => .skip (.trans .appR (by (repeat' (first | exact Ent.refl | exact Ent.drop | exact Ent.appR | apply Ent.skip))))) ?_
      refine SLl.eff rfl rfl (SLo.call plain31 rfl (SLf.mono (Counts_yes W _ sl G rt (hx.graphR _) hm (by omega) (by omega)) ?_))
      rintro cv σ rfl
      refine And.intro (fun _ => .skip (.skip (.trans .appR (by (repeat' (first | exact Ent.refl | exact Ent.drop | exact Ent.appR | apply Ent.skip)))))) ?_
      refine SLl.abst fun σ1 hσ1 => ?_
      have hc : Rs W σ1 cv 1 (ints ((usersL G rt).map fun u => (u.length : Int))) := (Rs.row .here intsC_one).mono hσ1
      have hu : Rs W σ1 uv 1 (uvals ps) := (Rs.row (.there .here) uvalsC_one).mono hσ1
      have hr : Rs W σ1 rv 1 (bools (fromL G rt)) := (Rs.row (.there (.there (Sel.right _ .here))) boolsC_one).mono hσ1
      have hb : Reads W σ1 ⟨b, 0, none⟩ sl := (Reads.blk (.there (.there (Sel.right _ (.there (.there (.there .here)))))) rfl).mono hσ1
      have hus : ∀ (i : Nat) p, ps[i]? = some p → Rs W σ1 p.1 2 (usesV p.2) := fun i p h => (Rs.row (.there (.there (Sel.app (Sel.many (f := urow) h)))) usesC_two).mono hσ1
      clear hσ1
      have hfl := @fromL_len G rt
      have hul := @usersL_len G rt
      have hule : ∀ (i : Nat) u, (usersL G rt)[i]? = some u → u.length ≤ 4000 := fun i u h => by have := users_le hm h; omega
      have hre : ∀ i : Nat, (fromL G rt)[i]? = some true ↔ i = rt ∨ usesAll G (fromL G rt) i (rt + 1) ≠ [] := fun i => reached_iff hm
      have hab : ∀ i : Nat, (fromL G rt)[i]? = some true → i ≤ rt := fun i h => fromL_above hm h
      have hua : ∀ i, i < G.length → (usersL G rt)[i]? = some (usesAll G (fromL G rt) i (rt + 1)) := fun i hi => usersL_at hi
      have hso : ∀ i : Nat, (usesAll G (fromL G rt) i (rt + 1)).Pairwise before := fun i => usesAll_sorted
      have hsum := lens_usersL hm
      have hia : ∀ i, i ≤ G.length → insAll G (fromL G rt) i ≤ 4000 := fun i hi => by
        have h2 := insAll_le (G := G) (R := fromL G rt) i hi
        have h3 := insSum_le (G := G) i
        omega
      generalize hR : fromL G rt = R at *
      generalize hU : usersL G rt = U at *
      have hsle : ∀ i, lens (U.take i) ≤ 4000 := fun i => by have h1 := lens_take_le (us := U) i; have h2 := hia G.length (Nat.le_refl _); omega
      have hRl := @bools_len R
      have hpl := pair_len hps
      have hpl2 := @uvals_len ps
      have hCl : (ints (U.map fun u => (u.length : Int))).length = U.length := by simp [ints]
      (repeat' (first
 | (first
 | refine SLl.nil ?_
 | ((show SLl _ _ _ _ _ (⟨⟨_, _, _, _, _, _⟩, _, _⟩ :: _) _ _ _); first
 | refine SLl.ev rfl rfl rfl rfl ?_
 | ((show SLl _ _ _ _ _ (⟨⟨_, .load _ _, _, _, _, _⟩, _, _⟩ :: _) _ _ _); (first | refine SLl.rdSeq rfl rfl (Rd.load rfl rfl (by (first | (apply Reads.blk; (· (repeat (first | apply Sel.here | apply Sel.there | apply Upd.here | apply Upd.there))); (· rfl)) | (apply Reads.row; (· (repeat (first | apply Sel.here | apply Sel.there | apply Upd.here | apply Upd.there))); (· (first | rfl | assumption)); (· rfl)) | (apply Reads.rs; (· exact Rs.mono (by assumption) (by (repeat' (first | exact Ent.refl | exact Ent.drop | exact Ent.appR | apply Ent.skip)))); (· (first | rfl | assumption)); (· rfl)) | exact Reads.mono (by assumption) (by (repeat' (first | exact Ent.refl | exact Ent.drop | exact Ent.appR | apply Ent.skip)))))) ?_ | refine SLl.rdSeq rfl rfl (Rd.loadN rfl rfl (by (first | exact ReadsN.mono (by assumption) (by (repeat' (first | exact Ent.refl | exact Ent.drop | exact Ent.appR | apply Ent.skip))) | (apply ReadsN.blk0; (· (repeat (first | apply Sel.here | apply Sel.there | apply Upd.here | apply Upd.there)))) | (apply ReadsN.row0; (· (repeat (first | apply Sel.here | apply Sel.there | apply Upd.here | apply Upd.there))); (· (first | rfl | assumption))) | (apply ReadsN.rs0; (· exact Rs.mono (by assumption) (by (repeat' (first | exact Ent.refl | exact Ent.drop | exact Ent.appR | apply Ent.skip)))); (· (first | rfl | assumption))))) (by rfl)) ?_))
 | ((show SLl _ _ _ _ _ (⟨⟨_, .fieldAddr _ _ _, _, _, _, _⟩, _, _⟩ :: _) _ _ _); (first | refine SLl.pu rfl rfl rfl (Pu.fieldAddr rfl) ?_ | refine SLl.rdSeq rfl rfl (Rd.fieldAddrEl rfl (by (first | exact Len.nil | (apply Len.row; (· (repeat (first | apply Sel.here | apply Sel.there | apply Upd.here | apply Upd.there)))) | (apply Len.rs; exact Rs.mono (by assumption) (by (repeat' (first | exact Ent.refl | exact Ent.drop | exact Ent.appR | apply Ent.skip)))))) (by omega)) ?_))
 | ((show SLl _ _ _ _ _ (⟨⟨_, .indexAddr _ _ _, _, _, _, _⟩, _, _⟩ :: _) _ _ _); (refine SLl.rdSeq rfl rfl (Rd.indexAddr rfl rfl (by (first | exact Len.nil | (apply Len.row; (· (repeat (first | apply Sel.here | apply Sel.there | apply Upd.here | apply Upd.there)))) | (apply Len.rs; exact Rs.mono (by assumption) (by (repeat' (first | exact Ent.refl | exact Ent.drop | exact Ent.appR | apply Ent.skip)))))) (by (first | exact ij0 | exact ij1 | exact ij2 | exact ij3 | exact ij4 | exact ij5 | exact ijs _ | exact ijm _ | rfl | exact (Int.toNat_of_nonneg (by omega)).symm)) (by omega)) ?_))
 | ((show SLl _ _ _ _ _ (⟨⟨_, .call ⟨.builtin .len, _, _⟩, _, _, _, _⟩, _, _⟩ :: _) _ _ _); refine SLl.rdSeq rfl rfl (Rd.len rfl (by (first | exact Len.nil | (apply Len.row; (· (repeat (first | apply Sel.here | apply Sel.there | apply Upd.here | apply Upd.there)))) | (apply Len.rs; exact Rs.mono (by assumption) (by (repeat' (first | exact Ent.refl | exact Ent.drop | exact Ent.appR | apply Ent.skip))))))) ?_)
 | ((show SLl _ _ _ _ _ (⟨⟨_, .binOp _ _ _ _ _, _, _, _, _⟩, _, _⟩ :: _) _ _ _); (first
 | refine SLl.pu rfl rfl rfl (Pu.add rfl rfl (IntWalk.i64_in _ (by omega))) ?_
 | refine SLl.pu rfl rfl rfl (Pu.sub rfl rfl (IntWalk.i64_in _ (by omega))) ?_
 | (refine SLl.cmp rfl rfl rfl rfl rfl rfl ?_ ?_ <;> intro hq <;> simp only [cmpP] at hq <;> try (first
 | exact (hq trivial).elim
 | (exfalso; omega)))
 | refine SLl.pu rfl rfl rfl (Pu.eqNilT rfl rfl) ?_
 | refine SLl.pu rfl rfl rfl (Pu.neNilF rfl rfl) ?_
 | refine SLl.rdSeq rfl rfl (Rd.eqNilF rfl rfl (by (first | exact Len.nil | (apply Len.row; (· (repeat (first | apply Sel.here | apply Sel.there | apply Upd.here | apply Upd.there)))) | (apply Len.rs; exact Rs.mono (by assumption) (by (repeat' (first | exact Ent.refl | exact Ent.drop | exact Ent.appR | apply Ent.skip)))))) (by assumption)) ?_
 | refine SLl.rdSeq rfl rfl (Rd.neNilT rfl rfl (by (first | exact Len.nil | (apply Len.row; (· (repeat (first | apply Sel.here | apply Sel.there | apply Upd.here | apply Upd.there)))) | (apply Len.rs; exact Rs.mono (by assumption) (by (repeat' (first | exact Ent.refl | exact Ent.drop | exact Ent.appR | apply Ent.skip)))))) (by assumption)) ?_
 | refine SLl.pu rfl rfl rfl (Pu.eqPtrNil rfl rfl) ?_
 | refine SLl.pu rfl rfl rfl (Pu.eqBool rfl rfl) ?_
 | refine SLl.pu rfl rfl rfl (Pu.neBool rfl rfl) ?_))
 | ((show SLl _ _ _ _ _ (⟨⟨_, .store _ _ _, _, _, _, _⟩, _, _⟩ :: _) _ _ _); (first | (refine SLl.seq0 rfl (SLo.store rfl rfl rfl (by (first | exact One.lit rfl | exact One.lit (by assumption) | exact One.mono (by assumption) (by (repeat' (first | exact Ent.refl | exact Ent.drop | exact Ent.appR | apply Ent.skip))) | exact One.len (by (first | exact Len.nil | (apply Len.row; (· (repeat (first | apply Sel.here | apply Sel.there | apply Upd.here | apply Upd.there)))) | (apply Len.rs; exact Rs.mono (by assumption) (by (repeat' (first | exact Ent.refl | exact Ent.drop | exact Ent.appR | apply Ent.skip)))))))) (by (first | (apply Wr.blk; (· (repeat (first | apply Sel.here | apply Sel.there | apply Upd.here | apply Upd.there))); (· exact Nat.le_of_ble_eq_true rfl)) | (apply Wr.row; (· (first | rfl | assumption)); (· exact Nat.le_of_ble_eq_true rfl); (· (repeat (first | apply Sel.here | apply Sel.there | apply Upd.here | apply Upd.there)))))) ?_)) | (refine SLl.seq0 rfl (SLo.storeN rfl rfl rfl (by (repeat' (first | exact trivial | (apply And.intro; (· (first | exact One.lit rfl | exact One.lit (by assumption) | exact One.mono (by assumption) (by (repeat' (first | exact Ent.refl | exact Ent.drop | exact Ent.appR | apply Ent.skip))) | exact One.len (by (first | exact Len.nil | (apply Len.row; (· (repeat (first | apply Sel.here | apply Sel.there | apply Upd.here | apply Upd.there)))) | (apply Len.rs; exact Rs.mono (by assumption) (by (repeat' (first | exact Ent.refl | exact Ent.drop | exact Ent.appR | apply Ent.skip)))))))))))) (Nat.le_of_ble_eq_true rfl) (by (repeat (first | apply Sel.here | apply Sel.there | apply Upd.here | apply Upd.there))) ?_))))
 | ((show SLl _ _ _ _ _ (⟨⟨_, .box _ _, _, _, _, _⟩, _, _⟩ :: _) _ _ _); refine SLl.seq rfl rfl (SLo.boxC rfl (by (first | exact Cel.one (by (first | exact One.lit rfl | exact One.lit (by assumption) | exact One.mono (by assumption) (by (repeat' (first | exact Ent.refl | exact Ent.drop | exact Ent.appR | apply Ent.skip))) | exact One.len (by (first | exact Len.nil | (apply Len.row; (· (repeat (first | apply Sel.here | apply Sel.there | apply Upd.here | apply Upd.there)))) | (apply Len.rs; exact Rs.mono (by assumption) (by (repeat' (first | exact Ent.refl | exact Ent.drop | exact Ent.appR | apply Ent.skip)))))))) | exact Cel.agg)) ?_); intro b)
 | ((show SLl _ _ _ _ _ (⟨⟨_, .alloc _, _, _, _, _⟩, _, _⟩ :: _) _ _ _); refine SLl.seq rfl rfl (SLo.alloc ?_); intro b)
 | ((show SLl _ _ _ _ _ (⟨⟨_, .build _ _, _, _, _, _⟩, _, _⟩ :: _) _ _ _); first
 | refine SLl.rdSeq rfl rfl (Rd.build rfl (by (repeat (first | exact CellsW.nil | (apply CellsW.cons; (· (first | exact Cel.one (by (first | exact One.lit rfl | exact One.lit (by assumption) | exact One.mono (by assumption) (by (repeat' (first | exact Ent.refl | exact Ent.drop | exact Ent.appR | apply Ent.skip))) | exact One.len (by (first | exact Len.nil | (apply Len.row; (· (repeat (first | apply Sel.here | apply Sel.there | apply Upd.here | apply Upd.there)))) | (apply Len.rs; exact Rs.mono (by assumption) (by (repeat' (first | exact Ent.refl | exact Ent.drop | exact Ent.appR | apply Ent.skip)))))))) | exact Cel.agg)))))) (by rfl)) ?_
 | refine SLl.pu rfl rfl rfl (Pu.build rfl rfl) ?_)
 | refine SLl.skip rfl rfl ?_))
 | (first
 | refine SLc.seq ?_
 | refine SLc.region rfl ?_
 | refine SLc.condT rfl ?_
 | refine SLc.condF rfl ?_
 | refine SLc.block ?_
 | refine SLc.skip ?_
 | refine SLc.exit ?_
 | refine SLc.ret ?_)))
      refine SLc.loop (ι := Nat) (fun i => [(10, .int .i64 i), (9, .int .i64 (insAll G R i : Nat)), (8, .int .i64 (lens (U.take i) : Nat)), (7, cv), (6, uv), (5, rv), (2, .pointer (some ⟨b, 0, none⟩)), (1, .int .i64 rt)]) (fun _ => σ1) (fun i => i ≤ G.length) (fun i => G.length - i) 0 (Nat.zero_le _) (by (repeat' (first | exact trivial | apply And.intro | rfl))) .refl ?_
      intro i hi
      by_cases hlt : i < G.length
      · have hUi := hua i hlt
        have hRi : R[i]? = some (R[i]'(by omega)) := List.getElem?_eq_getElem (by omega)
        have hxi : G[i]? = some G[i] := List.getElem?_eq_getElem hlt
        generalize G[i] = x at hxi
        have hca := cells_at hxi
        have hxn := hx.nodes x (List.mem_of_getElem? hxi)
        have hxr := hxn.ins []
        have hxl := hxn.insl
        have hil := @ints_len x.ins
        have hiat := insAt_of hxi
        have hre := hre i
        have hab := hab i
        have hso := hso i
        generalize usesAll G R i (rt + 1) = u at hUi hre hso
        have hub := hule i u hUi
        obtain ⟨vi, hpi⟩ := pair_at hps hUi
        have hui := uvals_at hpi
        have hri := hus i _ hpi
        dsimp only at hui hri
        have hci : (ints (U.map fun u => (u.length : Int)))[i]? = some [.int .i64 (u.length : Int)] := ints_at (by simp [hUi])
        have hul2 := @usesV_len u
        have hlt2 := lens_take hUi
        have hb1 := hsle i
        have hb2 := hsle (i + 1)
        have hb3 := hia i (by omega)
        have hb4 := hia (i + 1) (by omega)
        cases hb0 : (R[i]'(by omega)) with
        | true =>
          rw [hb0] at hRi
          have hbi := bools_at hRi
          have hstep : insAll G R (i + 1) = insAll G R i + x.ins.length := by simp only [insAll, if_pos hRi, hiat]
          have hle := hab hRi
          have hlen : i = rt ∨ 0 < u.length := (hre.1 hRi).imp id List.length_pos_iff.2
          (repeat' (first
 | (first
 | refine SLl.nil ?_
 | ((show SLl _ _ _ _ _ (⟨⟨_, _, _, _, _, _⟩, _, _⟩ :: _) _ _ _); first
 | refine SLl.ev rfl rfl rfl rfl ?_
 | ((show SLl _ _ _ _ _ (⟨⟨_, .load _ _, _, _, _, _⟩, _, _⟩ :: _) _ _ _); (first | refine SLl.rdSeq rfl rfl (Rd.load rfl rfl (by (first | (apply Reads.blk; (· (repeat (first | apply Sel.here | apply Sel.there | apply Upd.here | apply Upd.there))); (· rfl)) | (apply Reads.row; (· (repeat (first | apply Sel.here | apply Sel.there | apply Upd.here | apply Upd.there))); (· (first | rfl | assumption)); (· rfl)) | (apply Reads.rs; (· exact Rs.mono (by assumption) (by (repeat' (first | exact Ent.refl | exact Ent.drop | exact Ent.appR | apply Ent.skip)))); (· (first | rfl | assumption)); (· rfl)) | exact Reads.mono (by assumption) (by (repeat' (first | exact Ent.refl | exact Ent.drop | exact Ent.appR | apply Ent.skip)))))) ?_ | refine SLl.rdSeq rfl rfl (Rd.loadN rfl rfl (by (first | exact ReadsN.mono (by assumption) (by (repeat' (first | exact Ent.refl | exact Ent.drop | exact Ent.appR | apply Ent.skip))) | (apply ReadsN.blk0; (· (repeat (first | apply Sel.here | apply Sel.there | apply Upd.here | apply Upd.there)))) | (apply ReadsN.row0; (· (repeat (first | apply Sel.here | apply Sel.there | apply Upd.here | apply Upd.there))); (· (first | rfl | assumption))) | (apply ReadsN.rs0; (· exact Rs.mono (by assumption) (by (repeat' (first | exact Ent.refl | exact Ent.drop | exact Ent.appR | apply Ent.skip)))); (· (first | rfl | assumption))))) (by rfl)) ?_))
 | ((show SLl _ _ _ _ _ (⟨⟨_, .fieldAddr _ _ _, _, _, _, _⟩, _, _⟩ :: _) _ _ _); (first | refine SLl.pu rfl rfl rfl (Pu.fieldAddr rfl) ?_ | refine SLl.rdSeq rfl rfl (Rd.fieldAddrEl rfl (by (first | exact Len.nil | (apply Len.row; (· (repeat (first | apply Sel.here | apply Sel.there | apply Upd.here | apply Upd.there)))) | (apply Len.rs; exact Rs.mono (by assumption) (by (repeat' (first | exact Ent.refl | exact Ent.drop | exact Ent.appR | apply Ent.skip)))))) (by omega)) ?_))
 | ((show SLl _ _ _ _ _ (⟨⟨_, .indexAddr _ _ _, _, _, _, _⟩, _, _⟩ :: _) _ _ _); (refine SLl.rdSeq rfl rfl (Rd.indexAddr rfl rfl (by (first | exact Len.nil | (apply Len.row; (· (repeat (first | apply Sel.here | apply Sel.there | apply Upd.here | apply Upd.there)))) | (apply Len.rs; exact Rs.mono (by assumption) (by (repeat' (first | exact Ent.refl | exact Ent.drop | exact Ent.appR | apply Ent.skip)))))) (by (first | exact ij0 | exact ij1 | exact ij2 | exact ij3 | exact ij4 | exact ij5 | exact ijs _ | exact ijm _ | rfl | exact (Int.toNat_of_nonneg (by omega)).symm)) (by omega)) ?_))
 | ((show SLl _ _ _ _ _ (⟨⟨_, .call ⟨.builtin .len, _, _⟩, _, _, _, _⟩, _, _⟩ :: _) _ _ _); refine SLl.rdSeq rfl rfl (Rd.len rfl (by (first | exact Len.nil | (apply Len.row; (· (repeat (first | apply Sel.here | apply Sel.there | apply Upd.here | apply Upd.there)))) | (apply Len.rs; exact Rs.mono (by assumption) (by (repeat' (first | exact Ent.refl | exact Ent.drop | exact Ent.appR | apply Ent.skip))))))) ?_)
 | ((show SLl _ _ _ _ _ (⟨⟨_, .binOp _ _ _ _ _, _, _, _, _⟩, _, _⟩ :: _) _ _ _); (first
 | refine SLl.pu rfl rfl rfl (Pu.add rfl rfl (IntWalk.i64_in _ (by omega))) ?_
 | refine SLl.pu rfl rfl rfl (Pu.sub rfl rfl (IntWalk.i64_in _ (by omega))) ?_
 | (refine SLl.cmp rfl rfl rfl rfl rfl rfl ?_ ?_ <;> intro hq <;> simp only [cmpP] at hq <;> try (first
 | exact (hq trivial).elim
 | (exfalso; omega)))
 | refine SLl.pu rfl rfl rfl (Pu.eqNilT rfl rfl) ?_
 | refine SLl.pu rfl rfl rfl (Pu.neNilF rfl rfl) ?_
 | refine SLl.rdSeq rfl rfl (Rd.eqNilF rfl rfl (by (first | exact Len.nil | (apply Len.row; (· (repeat (first | apply Sel.here | apply Sel.there | apply Upd.here | apply Upd.there)))) | (apply Len.rs; exact Rs.mono (by assumption) (by (repeat' (first | exact Ent.refl | exact Ent.drop | exact Ent.appR | apply Ent.skip)))))) (by assumption)) ?_
 | refine SLl.rdSeq rfl rfl (Rd.neNilT rfl rfl (by (first | exact Len.nil | (apply Len.row; (· (repeat (first | apply Sel.here | apply Sel.there | apply Upd.here | apply Upd.there)))) | (apply Len.rs; exact Rs.mono (by assumption) (by (repeat' (first | exact Ent.refl | exact Ent.drop | exact Ent.appR | apply Ent.skip)))))) (by assumption)) ?_
 | refine SLl.pu rfl rfl rfl (Pu.eqPtrNil rfl rfl) ?_
 | refine SLl.pu rfl rfl rfl (Pu.eqBool rfl rfl) ?_
 | refine SLl.pu rfl rfl rfl (Pu.neBool rfl rfl) ?_))
 | ((show SLl _ _ _ _ _ (⟨⟨_, .store _ _ _, _, _, _, _⟩, _, _⟩ :: _) _ _ _); (first | (refine SLl.seq0 rfl (SLo.store rfl rfl rfl (by (first | exact One.lit rfl | exact One.lit (by assumption) | exact One.mono (by assumption) (by (repeat' (first | exact Ent.refl | exact Ent.drop | exact Ent.appR | apply Ent.skip))) | exact One.len (by (first | exact Len.nil | (apply Len.row; (· (repeat (first | apply Sel.here | apply Sel.there | apply Upd.here | apply Upd.there)))) | (apply Len.rs; exact Rs.mono (by assumption) (by (repeat' (first | exact Ent.refl | exact Ent.drop | exact Ent.appR | apply Ent.skip)))))))) (by (first | (apply Wr.blk; (· (repeat (first | apply Sel.here | apply Sel.there | apply Upd.here | apply Upd.there))); (· exact Nat.le_of_ble_eq_true rfl)) | (apply Wr.row; (· (first | rfl | assumption)); (· exact Nat.le_of_ble_eq_true rfl); (· (repeat (first | apply Sel.here | apply Sel.there | apply Upd.here | apply Upd.there)))))) ?_)) | (refine SLl.seq0 rfl (SLo.storeN rfl rfl rfl (by (repeat' (first | exact trivial | (apply And.intro; (· (first | exact One.lit rfl | exact One.lit (by assumption) | exact One.mono (by assumption) (by (repeat' (first | exact Ent.refl | exact Ent.drop | exact Ent.appR | apply Ent.skip))) | exact One.len (by (first | exact Len.nil | (apply Len.row; (· (repeat (first | apply Sel.here | apply Sel.there | apply Upd.here | apply Upd.there)))) | (apply Len.rs; exact Rs.mono (by assumption) (by (repeat' (first | exact Ent.refl | exact Ent.drop | exact Ent.appR | apply Ent.skip)))))))))))) (Nat.le_of_ble_eq_true rfl) (by (repeat (first | apply Sel.here | apply Sel.there | apply Upd.here | apply Upd.there))) ?_))))
 | ((show SLl _ _ _ _ _ (⟨⟨_, .box _ _, _, _, _, _⟩, _, _⟩ :: _) _ _ _); refine SLl.seq rfl rfl (SLo.boxC rfl (by (first | exact Cel.one (by (first | exact One.lit rfl | exact One.lit (by assumption) | exact One.mono (by assumption) (by (repeat' (first | exact Ent.refl | exact Ent.drop | exact Ent.appR | apply Ent.skip))) | exact One.len (by (first | exact Len.nil | (apply Len.row; (· (repeat (first | apply Sel.here | apply Sel.there | apply Upd.here | apply Upd.there)))) | (apply Len.rs; exact Rs.mono (by assumption) (by (repeat' (first | exact Ent.refl | exact Ent.drop | exact Ent.appR | apply Ent.skip)))))))) | exact Cel.agg)) ?_); intro b)
 | ((show SLl _ _ _ _ _ (⟨⟨_, .alloc _, _, _, _, _⟩, _, _⟩ :: _) _ _ _); refine SLl.seq rfl rfl (SLo.alloc ?_); intro b)
 | ((show SLl _ _ _ _ _ (⟨⟨_, .build _ _, _, _, _, _⟩, _, _⟩ :: _) _ _ _); first
 | refine SLl.rdSeq rfl rfl (Rd.build rfl (by (repeat (first | exact CellsW.nil | (apply CellsW.cons; (· (first | exact Cel.one (by (first | exact One.lit rfl | exact One.lit (by assumption) | exact One.mono (by assumption) (by (repeat' (first | exact Ent.refl | exact Ent.drop | exact Ent.appR | apply Ent.skip))) | exact One.len (by (first | exact Len.nil | (apply Len.row; (· (repeat (first | apply Sel.here | apply Sel.there | apply Upd.here | apply Upd.there)))) | (apply Len.rs; exact Rs.mono (by assumption) (by (repeat' (first | exact Ent.refl | exact Ent.drop | exact Ent.appR | apply Ent.skip)))))))) | exact Cel.agg)))))) (by rfl)) ?_
 | refine SLl.pu rfl rfl rfl (Pu.build rfl rfl) ?_)
 | refine SLl.skip rfl rfl ?_))
 | (first
 | refine SLc.seq ?_
 | refine SLc.region rfl ?_
 | refine SLc.condT rfl ?_
 | refine SLc.condF rfl ?_
 | refine SLc.block ?_
 | refine SLc.skip ?_
 | refine SLc.exit ?_
 | refine SLc.ret ?_)))
          refine SLc.drawsI _ (List.replicate 38 .take) mixed (by kernel_rfl) .refl ?_
          (repeat' (first
 | (first
 | refine SLl.nil ?_
 | ((show SLl _ _ _ _ _ (⟨⟨_, _, _, _, _, _⟩, _, _⟩ :: _) _ _ _); first
 | refine SLl.ev rfl rfl rfl rfl ?_
 | ((show SLl _ _ _ _ _ (⟨⟨_, .load _ _, _, _, _, _⟩, _, _⟩ :: _) _ _ _); (first | refine SLl.rdTake rfl rfl (Rd.load rfl rfl (by (first | (apply Reads.blk; (· (repeat (first | apply Sel.here | apply Sel.there | apply Upd.here | apply Upd.there))); (· rfl)) | (apply Reads.row; (· (repeat (first | apply Sel.here | apply Sel.there | apply Upd.here | apply Upd.there))); (· (first | rfl | assumption)); (· rfl)) | (apply Reads.rs; (· exact Rs.mono (by assumption) (by (repeat' (first | exact Ent.refl | exact Ent.drop | exact Ent.appR | apply Ent.skip)))); (· (first | rfl | assumption)); (· rfl)) | exact Reads.mono (by assumption) (by (repeat' (first | exact Ent.refl | exact Ent.drop | exact Ent.appR | apply Ent.skip)))))) ?_ | refine SLl.rdTake rfl rfl (Rd.loadN rfl rfl (by (first | exact ReadsN.mono (by assumption) (by (repeat' (first | exact Ent.refl | exact Ent.drop | exact Ent.appR | apply Ent.skip))) | (apply ReadsN.blk0; (· (repeat (first | apply Sel.here | apply Sel.there | apply Upd.here | apply Upd.there)))) | (apply ReadsN.row0; (· (repeat (first | apply Sel.here | apply Sel.there | apply Upd.here | apply Upd.there))); (· (first | rfl | assumption))) | (apply ReadsN.rs0; (· exact Rs.mono (by assumption) (by (repeat' (first | exact Ent.refl | exact Ent.drop | exact Ent.appR | apply Ent.skip)))); (· (first | rfl | assumption))))) (by rfl)) ?_))
 | ((show SLl _ _ _ _ _ (⟨⟨_, .fieldAddr _ _ _, _, _, _, _⟩, _, _⟩ :: _) _ _ _); (first | refine SLl.pu rfl rfl rfl (Pu.fieldAddr rfl) ?_ | refine SLl.rdTake rfl rfl (Rd.fieldAddrEl rfl (by (first | exact Len.nil | (apply Len.row; (· (repeat (first | apply Sel.here | apply Sel.there | apply Upd.here | apply Upd.there)))) | (apply Len.rs; exact Rs.mono (by assumption) (by (repeat' (first | exact Ent.refl | exact Ent.drop | exact Ent.appR | apply Ent.skip)))))) (by omega)) ?_))
 | ((show SLl _ _ _ _ _ (⟨⟨_, .indexAddr _ _ _, _, _, _, _⟩, _, _⟩ :: _) _ _ _); (refine SLl.rdTake rfl rfl (Rd.indexAddr rfl rfl (by (first | exact Len.nil | (apply Len.row; (· (repeat (first | apply Sel.here | apply Sel.there | apply Upd.here | apply Upd.there)))) | (apply Len.rs; exact Rs.mono (by assumption) (by (repeat' (first | exact Ent.refl | exact Ent.drop | exact Ent.appR | apply Ent.skip)))))) (by (first | exact ij0 | exact ij1 | exact ij2 | exact ij3 | exact ij4 | exact ij5 | exact ijs _ | exact ijm _ | rfl | exact (Int.toNat_of_nonneg (by omega)).symm)) (by omega)) ?_))
 | ((show SLl _ _ _ _ _ (⟨⟨_, .call ⟨.builtin .len, _, _⟩, _, _, _, _⟩, _, _⟩ :: _) _ _ _); refine SLl.rdTake rfl rfl (Rd.len rfl (by (first | exact Len.nil | (apply Len.row; (· (repeat (first | apply Sel.here | apply Sel.there | apply Upd.here | apply Upd.there)))) | (apply Len.rs; exact Rs.mono (by assumption) (by (repeat' (first | exact Ent.refl | exact Ent.drop | exact Ent.appR | apply Ent.skip))))))) ?_)
 | ((show SLl _ _ _ _ _ (⟨⟨_, .binOp _ _ _ _ _, _, _, _, _⟩, _, _⟩ :: _) _ _ _); (first
 | refine SLl.pu rfl rfl rfl (Pu.add rfl rfl (IntWalk.i64_in _ (by omega))) ?_
 | refine SLl.pu rfl rfl rfl (Pu.sub rfl rfl (IntWalk.i64_in _ (by omega))) ?_
 | (refine SLl.cmp rfl rfl rfl rfl rfl rfl ?_ ?_ <;> intro hq <;> simp only [cmpP] at hq <;> try (first
 | exact (hq trivial).elim
 | (exfalso; omega)))
 | refine SLl.pu rfl rfl rfl (Pu.eqNilT rfl rfl) ?_
 | refine SLl.pu rfl rfl rfl (Pu.neNilF rfl rfl) ?_
 | refine SLl.rdTake rfl rfl (Rd.eqNilF rfl rfl (by (first | exact Len.nil | (apply Len.row; (· (repeat (first | apply Sel.here | apply Sel.there | apply Upd.here | apply Upd.there)))) | (apply Len.rs; exact Rs.mono (by assumption) (by (repeat' (first | exact Ent.refl | exact Ent.drop | exact Ent.appR | apply Ent.skip)))))) (by assumption)) ?_
 | refine SLl.rdTake rfl rfl (Rd.neNilT rfl rfl (by (first | exact Len.nil | (apply Len.row; (· (repeat (first | apply Sel.here | apply Sel.there | apply Upd.here | apply Upd.there)))) | (apply Len.rs; exact Rs.mono (by assumption) (by (repeat' (first | exact Ent.refl | exact Ent.drop | exact Ent.appR | apply Ent.skip)))))) (by assumption)) ?_
 | refine SLl.pu rfl rfl rfl (Pu.eqPtrNil rfl rfl) ?_
 | refine SLl.pu rfl rfl rfl (Pu.eqBool rfl rfl) ?_
 | refine SLl.pu rfl rfl rfl (Pu.neBool rfl rfl) ?_))
 | ((show SLl _ _ _ _ _ (⟨⟨_, .store _ _ _, _, _, _, _⟩, _, _⟩ :: _) _ _ _); (first | (refine SLl.seq0 rfl (SLo.store rfl rfl rfl (by (first | exact One.lit rfl | exact One.lit (by assumption) | exact One.mono (by assumption) (by (repeat' (first | exact Ent.refl | exact Ent.drop | exact Ent.appR | apply Ent.skip))) | exact One.len (by (first | exact Len.nil | (apply Len.row; (· (repeat (first | apply Sel.here | apply Sel.there | apply Upd.here | apply Upd.there)))) | (apply Len.rs; exact Rs.mono (by assumption) (by (repeat' (first | exact Ent.refl | exact Ent.drop | exact Ent.appR | apply Ent.skip)))))))) (by (first | (apply Wr.blk; (· (repeat (first | apply Sel.here | apply Sel.there | apply Upd.here | apply Upd.there))); (· exact Nat.le_of_ble_eq_true rfl)) | (apply Wr.row; (· (first | rfl | assumption)); (· exact Nat.le_of_ble_eq_true rfl); (· (repeat (first | apply Sel.here | apply Sel.there | apply Upd.here | apply Upd.there)))))) ?_)) | (refine SLl.seq0 rfl (SLo.storeN rfl rfl rfl (by (repeat' (first | exact trivial | (apply And.intro; (· (first | exact One.lit rfl | exact One.lit (by assumption) | exact One.mono (by assumption) (by (repeat' (first | exact Ent.refl | exact Ent.drop | exact Ent.appR | apply Ent.skip))) | exact One.len (by (first | exact Len.nil | (apply Len.row; (· (repeat (first | apply Sel.here | apply Sel.there | apply Upd.here | apply Upd.there)))) | (apply Len.rs; exact Rs.mono (by assumption) (by (repeat' (first | exact Ent.refl | exact Ent.drop | exact Ent.appR | apply Ent.skip)))))))))))) (Nat.le_of_ble_eq_true rfl) (by (repeat (first | apply Sel.here | apply Sel.there | apply Upd.here | apply Upd.there))) ?_))))
 | ((show SLl _ _ _ _ _ (⟨⟨_, .box _ _, _, _, _, _⟩, _, _⟩ :: _) _ _ _); refine SLl.seq rfl rfl (SLo.boxC rfl (by (first | exact Cel.one (by (first | exact One.lit rfl | exact One.lit (by assumption) | exact One.mono (by assumption) (by (repeat' (first | exact Ent.refl | exact Ent.drop | exact Ent.appR | apply Ent.skip))) | exact One.len (by (first | exact Len.nil | (apply Len.row; (· (repeat (first | apply Sel.here | apply Sel.there | apply Upd.here | apply Upd.there)))) | (apply Len.rs; exact Rs.mono (by assumption) (by (repeat' (first | exact Ent.refl | exact Ent.drop | exact Ent.appR | apply Ent.skip)))))))) | exact Cel.agg)) ?_); intro b)
 | ((show SLl _ _ _ _ _ (⟨⟨_, .alloc _, _, _, _, _⟩, _, _⟩ :: _) _ _ _); refine SLl.seq rfl rfl (SLo.alloc ?_); intro b)
 | ((show SLl _ _ _ _ _ (⟨⟨_, .build _ _, _, _, _, _⟩, _, _⟩ :: _) _ _ _); first
 | refine SLl.rdTake rfl rfl (Rd.build rfl (by (repeat (first | exact CellsW.nil | (apply CellsW.cons; (· (first | exact Cel.one (by (first | exact One.lit rfl | exact One.lit (by assumption) | exact One.mono (by assumption) (by (repeat' (first | exact Ent.refl | exact Ent.drop | exact Ent.appR | apply Ent.skip))) | exact One.len (by (first | exact Len.nil | (apply Len.row; (· (repeat (first | apply Sel.here | apply Sel.there | apply Upd.here | apply Upd.there)))) | (apply Len.rs; exact Rs.mono (by assumption) (by (repeat' (first | exact Ent.refl | exact Ent.drop | exact Ent.appR | apply Ent.skip)))))))) | exact Cel.agg)))))) (by rfl)) ?_
 | refine SLl.pu rfl rfl rfl (Pu.build rfl rfl) ?_)
 | refine SLl.skip rfl rfl ?_))
 | (first
 | refine SLc.seq ?_
 | refine SLc.region rfl ?_
 | refine SLc.condT rfl ?_
 | refine SLc.condF rfl ?_
 | refine SLc.block ?_
 | refine SLc.skip ?_
 | refine SLc.exit ?_
 | refine SLc.ret ?_)))
          all_goals (repeat' (first
 | (first
 | refine SLl.nil ?_
 | ((show SLl _ _ _ _ _ (⟨⟨_, _, _, _, _, _⟩, _, _⟩ :: _) _ _ _); first
 | refine SLl.ev rfl rfl rfl rfl ?_
 | ((show SLl _ _ _ _ _ (⟨⟨_, .load _ _, _, _, _, _⟩, _, _⟩ :: _) _ _ _); (first | refine SLl.rdSeq rfl rfl (Rd.load rfl rfl (by (first | (apply Reads.blk; (· (repeat (first | apply Sel.here | apply Sel.there | apply Upd.here | apply Upd.there))); (· rfl)) | (apply Reads.row; (· (repeat (first | apply Sel.here | apply Sel.there | apply Upd.here | apply Upd.there))); (· (first | rfl | assumption)); (· rfl)) | (apply Reads.rs; (· exact Rs.mono (by assumption) (by (repeat' (first | exact Ent.refl | exact Ent.drop | exact Ent.appR | apply Ent.skip)))); (· (first | rfl | assumption)); (· rfl)) | exact Reads.mono (by assumption) (by (repeat' (first | exact Ent.refl | exact Ent.drop | exact Ent.appR | apply Ent.skip)))))) ?_ | refine SLl.rdSeq rfl rfl (Rd.loadN rfl rfl (by (first | exact ReadsN.mono (by assumption) (by (repeat' (first | exact Ent.refl | exact Ent.drop | exact Ent.appR | apply Ent.skip))) | (apply ReadsN.blk0; (· (repeat (first | apply Sel.here | apply Sel.there | apply Upd.here | apply Upd.there)))) | (apply ReadsN.row0; (· (repeat (first | apply Sel.here | apply Sel.there | apply Upd.here | apply Upd.there))); (· (first | rfl | assumption))) | (apply ReadsN.rs0; (· exact Rs.mono (by assumption) (by (repeat' (first | exact Ent.refl | exact Ent.drop | exact Ent.appR | apply Ent.skip)))); (· (first | rfl | assumption))))) (by rfl)) ?_))
 | ((show SLl _ _ _ _ _ (⟨⟨_, .fieldAddr _ _ _, _, _, _, _⟩, _, _⟩ :: _) _ _ _); (first | refine SLl.pu rfl rfl rfl (Pu.fieldAddr rfl) ?_ | refine SLl.rdSeq rfl rfl (Rd.fieldAddrEl rfl (by (first | exact Len.nil | (apply Len.row; (· (repeat (first | apply Sel.here | apply Sel.there | apply Upd.here | apply Upd.there)))) | (apply Len.rs; exact Rs.mono (by assumption) (by (repeat' (first | exact Ent.refl | exact Ent.drop | exact Ent.appR | apply Ent.skip)))))) (by omega)) ?_))
 | ((show SLl _ _ _ _ _ (⟨⟨_, .indexAddr _ _ _, _, _, _, _⟩, _, _⟩ :: _) _ _ _); (refine SLl.rdSeq rfl rfl (Rd.indexAddr rfl rfl (by (first | exact Len.nil | (apply Len.row; (· (repeat (first | apply Sel.here | apply Sel.there | apply Upd.here | apply Upd.there)))) | (apply Len.rs; exact Rs.mono (by assumption) (by (repeat' (first | exact Ent.refl | exact Ent.drop | exact Ent.appR | apply Ent.skip)))))) (by (first | exact ij0 | exact ij1 | exact ij2 | exact ij3 | exact ij4 | exact ij5 | exact ijs _ | exact ijm _ | rfl | exact (Int.toNat_of_nonneg (by omega)).symm)) (by omega)) ?_))
 | ((show SLl _ _ _ _ _ (⟨⟨_, .call ⟨.builtin .len, _, _⟩, _, _, _, _⟩, _, _⟩ :: _) _ _ _); refine SLl.rdSeq rfl rfl (Rd.len rfl (by (first | exact Len.nil | (apply Len.row; (· (repeat (first | apply Sel.here | apply Sel.there | apply Upd.here | apply Upd.there)))) | (apply Len.rs; exact Rs.mono (by assumption) (by (repeat' (first | exact Ent.refl | exact Ent.drop | exact Ent.appR | apply Ent.skip))))))) ?_)
 | ((show SLl _ _ _ _ _ (⟨⟨_, .binOp _ _ _ _ _, _, _, _, _⟩, _, _⟩ :: _) _ _ _); (first
 | refine SLl.pu rfl rfl rfl (Pu.add rfl rfl (IntWalk.i64_in _ (by omega))) ?_
 | refine SLl.pu rfl rfl rfl (Pu.sub rfl rfl (IntWalk.i64_in _ (by omega))) ?_
 | (refine SLl.cmp rfl rfl rfl rfl rfl rfl ?_ ?_ <;> intro hq <;> simp only [cmpP] at hq <;> try (first
 | exact (hq trivial).elim
 | (exfalso; omega)))
 | refine SLl.pu rfl rfl rfl (Pu.eqNilT rfl rfl) ?_
 | refine SLl.pu rfl rfl rfl (Pu.neNilF rfl rfl) ?_
 | refine SLl.rdSeq rfl rfl (Rd.eqNilF rfl rfl (by (first | exact Len.nil | (apply Len.row; (· (repeat (first | apply Sel.here | apply Sel.there | apply Upd.here | apply Upd.there)))) | (apply Len.rs; exact Rs.mono (by assumption) (by (repeat' (first | exact Ent.refl | exact Ent.drop | exact Ent.appR | apply Ent.skip)))))) (by assumption)) ?_
 | refine SLl.rdSeq rfl rfl (Rd.neNilT rfl rfl (by (first | exact Len.nil | (apply Len.row; (· (repeat (first | apply Sel.here | apply Sel.there | apply Upd.here | apply Upd.there)))) | (apply Len.rs; exact Rs.mono (by assumption) (by (repeat' (first | exact Ent.refl | exact Ent.drop | exact Ent.appR | apply Ent.skip)))))) (by assumption)) ?_
 | refine SLl.pu rfl rfl rfl (Pu.eqPtrNil rfl rfl) ?_
 | refine SLl.pu rfl rfl rfl (Pu.eqBool rfl rfl) ?_
 | refine SLl.pu rfl rfl rfl (Pu.neBool rfl rfl) ?_))
 | ((show SLl _ _ _ _ _ (⟨⟨_, .store _ _ _, _, _, _, _⟩, _, _⟩ :: _) _ _ _); (first | (refine SLl.seq0 rfl (SLo.store rfl rfl rfl (by (first | exact One.lit rfl | exact One.lit (by assumption) | exact One.mono (by assumption) (by (repeat' (first | exact Ent.refl | exact Ent.drop | exact Ent.appR | apply Ent.skip))) | exact One.len (by (first | exact Len.nil | (apply Len.row; (· (repeat (first | apply Sel.here | apply Sel.there | apply Upd.here | apply Upd.there)))) | (apply Len.rs; exact Rs.mono (by assumption) (by (repeat' (first | exact Ent.refl | exact Ent.drop | exact Ent.appR | apply Ent.skip)))))))) (by (first | (apply Wr.blk; (· (repeat (first | apply Sel.here | apply Sel.there | apply Upd.here | apply Upd.there))); (· exact Nat.le_of_ble_eq_true rfl)) | (apply Wr.row; (· (first | rfl | assumption)); (· exact Nat.le_of_ble_eq_true rfl); (· (repeat (first | apply Sel.here | apply Sel.there | apply Upd.here | apply Upd.there)))))) ?_)) | (refine SLl.seq0 rfl (SLo.storeN rfl rfl rfl (by (repeat' (first | exact trivial | (apply And.intro; (· (first | exact One.lit rfl | exact One.lit (by assumption) | exact One.mono (by assumption) (by (repeat' (first | exact Ent.refl | exact Ent.drop | exact Ent.appR | apply Ent.skip))) | exact One.len (by (first | exact Len.nil | (apply Len.row; (· (repeat (first | apply Sel.here | apply Sel.there | apply Upd.here | apply Upd.there)))) | (apply Len.rs; exact Rs.mono (by assumption) (by (repeat' (first | exact Ent.refl | exact Ent.drop | exact Ent.appR | apply Ent.skip)))))))))))) (Nat.le_of_ble_eq_true rfl) (by (repeat (first | apply Sel.here | apply Sel.there | apply Upd.here | apply Upd.there))) ?_))))
 | ((show SLl _ _ _ _ _ (⟨⟨_, .box _ _, _, _, _, _⟩, _, _⟩ :: _) _ _ _); refine SLl.seq rfl rfl (SLo.boxC rfl (by (first | exact Cel.one (by (first | exact One.lit rfl | exact One.lit (by assumption) | exact One.mono (by assumption) (by (repeat' (first | exact Ent.refl | exact Ent.drop | exact Ent.appR | apply Ent.skip))) | exact One.len (by (first | exact Len.nil | (apply Len.row; (· (repeat (first | apply Sel.here | apply Sel.there | apply Upd.here | apply Upd.there)))) | (apply Len.rs; exact Rs.mono (by assumption) (by (repeat' (first | exact Ent.refl | exact Ent.drop | exact Ent.appR | apply Ent.skip)))))))) | exact Cel.agg)) ?_); intro b)
 | ((show SLl _ _ _ _ _ (⟨⟨_, .alloc _, _, _, _, _⟩, _, _⟩ :: _) _ _ _); refine SLl.seq rfl rfl (SLo.alloc ?_); intro b)
 | ((show SLl _ _ _ _ _ (⟨⟨_, .build _ _, _, _, _, _⟩, _, _⟩ :: _) _ _ _); first
 | refine SLl.rdSeq rfl rfl (Rd.build rfl (by (repeat (first | exact CellsW.nil | (apply CellsW.cons; (· (first | exact Cel.one (by (first | exact One.lit rfl | exact One.lit (by assumption) | exact One.mono (by assumption) (by (repeat' (first | exact Ent.refl | exact Ent.drop | exact Ent.appR | apply Ent.skip))) | exact One.len (by (first | exact Len.nil | (apply Len.row; (· (repeat (first | apply Sel.here | apply Sel.there | apply Upd.here | apply Upd.there)))) | (apply Len.rs; exact Rs.mono (by assumption) (by (repeat' (first | exact Ent.refl | exact Ent.drop | exact Ent.appR | apply Ent.skip)))))))) | exact Cel.agg)))))) (by rfl)) ?_
 | refine SLl.pu rfl rfl rfl (Pu.build rfl rfl) ?_)
 | refine SLl.skip rfl rfl ?_))
 | (first
 | refine SLc.seq ?_
 | refine SLc.region rfl ?_
 | refine SLc.condT rfl ?_
 | refine SLc.condF rfl ?_
 | refine SLc.block ?_
 | refine SLc.skip ?_
 | refine SLc.exit ?_
 | refine SLc.ret ?_)))
          all_goals
            refine SLc.loop (ι := Nat) (fun k => [(11, .int .i64 ((k : Int) + 1)), (10, .int .i64 i), (9, .int .i64 ((insAll G R i : Nat) + ((ints x.ins).length : Nat))), (8, .int .i64 ((lens (U.take i) : Nat) + (u.length : Nat))), (7, cv), (6, uv), (5, rv), (2, .pointer (some ⟨b, 0, none⟩)), (1, .int .i64 rt)]) (fun _ => σ1) (fun k => k + 1 ≤ u.length ∨ k = 0) (fun k => u.length - k) 0 (.inr rfl) (by (repeat' (first | exact trivial | apply And.intro | rfl))) .refl ?_
            intro k hk
            by_cases hlk : k + 1 < u.length
            · have huk : u[k]? = some (u[k]'(by omega)) := List.getElem?_eq_getElem (by omega)
              have huk2 : u[k + 1]? = some (u[k + 1]'(by omega)) := List.getElem?_eq_getElem (by omega)
              generalize u[k]'(by omega) = y at huk
              generalize u[k + 1]'(by omega) = z at huk2
              have hsk := sorted_at hso huk huk2
              have hyk := usesC_at huk
              have hzk := usesC_at huk2
              (repeat' (first
 | (first
 | refine SLl.nil ?_
 | ((show SLl _ _ _ _ _ (⟨⟨_, _, _, _, _, _⟩, _, _⟩ :: _) _ _ _); first
 | refine SLl.ev rfl rfl rfl rfl ?_
 | ((show SLl _ _ _ _ _ (⟨⟨_, .load _ _, _, _, _, _⟩, _, _⟩ :: _) _ _ _); (first | refine SLl.rdSeq rfl rfl (Rd.load rfl rfl (by (first | (apply Reads.blk; (· (repeat (first | apply Sel.here | apply Sel.there | apply Upd.here | apply Upd.there))); (· rfl)) | (apply Reads.row; (· (repeat (first | apply Sel.here | apply Sel.there | apply Upd.here | apply Upd.there))); (· (first | rfl | assumption)); (· rfl)) | (apply Reads.rs; (· exact Rs.mono (by assumption) (by (repeat' (first | exact Ent.refl | exact Ent.drop | exact Ent.appR | apply Ent.skip)))); (· (first | rfl | assumption)); (· rfl)) | exact Reads.mono (by assumption) (by (repeat' (first | exact Ent.refl | exact Ent.drop | exact Ent.appR | apply Ent.skip)))))) ?_ | refine SLl.rdSeq rfl rfl (Rd.loadN rfl rfl (by (first | exact ReadsN.mono (by assumption) (by (repeat' (first | exact Ent.refl | exact Ent.drop | exact Ent.appR | apply Ent.skip))) | (apply ReadsN.blk0; (· (repeat (first | apply Sel.here | apply Sel.there | apply Upd.here | apply Upd.there)))) | (apply ReadsN.row0; (· (repeat (first | apply Sel.here | apply Sel.there | apply Upd.here | apply Upd.there))); (· (first | rfl | assumption))) | (apply ReadsN.rs0; (· exact Rs.mono (by assumption) (by (repeat' (first | exact Ent.refl | exact Ent.drop | exact Ent.appR | apply Ent.skip)))); (· (first | rfl | assumption))))) (by rfl)) ?_))
 | ((show SLl _ _ _ _ _ (⟨⟨_, .fieldAddr _ _ _, _, _, _, _⟩, _, _⟩ :: _) _ _ _); (first | refine SLl.pu rfl rfl rfl (Pu.fieldAddr rfl) ?_ | refine SLl.rdSeq rfl rfl (Rd.fieldAddrEl rfl (by (first | exact Len.nil | (apply Len.row; (· (repeat (first | apply Sel.here | apply Sel.there | apply Upd.here | apply Upd.there)))) | (apply Len.rs; exact Rs.mono (by assumption) (by (repeat' (first | exact Ent.refl | exact Ent.drop | exact Ent.appR | apply Ent.skip)))))) (by omega)) ?_))
 | ((show SLl _ _ _ _ _ (⟨⟨_, .indexAddr _ _ _, _, _, _, _⟩, _, _⟩ :: _) _ _ _); (refine SLl.rdSeq rfl rfl (Rd.indexAddr rfl rfl (by (first | exact Len.nil | (apply Len.row; (· (repeat (first | apply Sel.here | apply Sel.there | apply Upd.here | apply Upd.there)))) | (apply Len.rs; exact Rs.mono (by assumption) (by (repeat' (first | exact Ent.refl | exact Ent.drop | exact Ent.appR | apply Ent.skip)))))) (by (first | exact ij0 | exact ij1 | exact ij2 | exact ij3 | exact ij4 | exact ij5 | exact ijs _ | exact ijm _ | rfl | exact (Int.toNat_of_nonneg (by omega)).symm)) (by omega)) ?_))
 | ((show SLl _ _ _ _ _ (⟨⟨_, .call ⟨.builtin .len, _, _⟩, _, _, _, _⟩, _, _⟩ :: _) _ _ _); refine SLl.rdSeq rfl rfl (Rd.len rfl (by (first | exact Len.nil | (apply Len.row; (· (repeat (first | apply Sel.here | apply Sel.there | apply Upd.here | apply Upd.there)))) | (apply Len.rs; exact Rs.mono (by assumption) (by (repeat' (first | exact Ent.refl | exact Ent.drop | exact Ent.appR | apply Ent.skip))))))) ?_)
 | ((show SLl _ _ _ _ _ (⟨⟨_, .binOp _ _ _ _ _, _, _, _, _⟩, _, _⟩ :: _) _ _ _); (first
 | refine SLl.pu rfl rfl rfl (Pu.add rfl rfl (IntWalk.i64_in _ (by omega))) ?_
 | refine SLl.pu rfl rfl rfl (Pu.sub rfl rfl (IntWalk.i64_in _ (by omega))) ?_
 | (refine SLl.cmp rfl rfl rfl rfl rfl rfl ?_ ?_ <;> intro hq <;> simp only [cmpP] at hq <;> try (first
 | exact (hq trivial).elim
 | (exfalso; omega)))
 | refine SLl.pu rfl rfl rfl (Pu.eqNilT rfl rfl) ?_
 | refine SLl.pu rfl rfl rfl (Pu.neNilF rfl rfl) ?_
 | refine SLl.rdSeq rfl rfl (Rd.eqNilF rfl rfl (by (first | exact Len.nil | (apply Len.row; (· (repeat (first | apply Sel.here | apply Sel.there | apply Upd.here | apply Upd.there)))) | (apply Len.rs; exact Rs.mono (by assumption) (by (repeat' (first | exact Ent.refl | exact Ent.drop | exact Ent.appR | apply Ent.skip)))))) (by assumption)) ?_
 | refine SLl.rdSeq rfl rfl (Rd.neNilT rfl rfl (by (first | exact Len.nil | (apply Len.row; (· (repeat (first | apply Sel.here | apply Sel.there | apply Upd.here | apply Upd.there)))) | (apply Len.rs; exact Rs.mono (by assumption) (by (repeat' (first | exact Ent.refl | exact Ent.drop | exact Ent.appR | apply Ent.skip)))))) (by assumption)) ?_
 | refine SLl.pu rfl rfl rfl (Pu.eqPtrNil rfl rfl) ?_
 | refine SLl.pu rfl rfl rfl (Pu.eqBool rfl rfl) ?_
 | refine SLl.pu rfl rfl rfl (Pu.neBool rfl rfl) ?_))
 | ((show SLl _ _ _ _ _ (⟨⟨_, .store _ _ _, _, _, _, _⟩, _, _⟩ :: _) _ _ _); (first | (refine SLl.seq0 rfl (SLo.store rfl rfl rfl (by (first | exact One.lit rfl | exact One.lit (by assumption) | exact One.mono (by assumption) (by (repeat' (first | exact Ent.refl | exact Ent.drop | exact Ent.appR | apply Ent.skip))) | exact One.len (by (first | exact Len.nil | (apply Len.row; (· (repeat (first | apply Sel.here | apply Sel.there | apply Upd.here | apply Upd.there)))) | (apply Len.rs; exact Rs.mono (by assumption) (by (repeat' (first | exact Ent.refl | exact Ent.drop | exact Ent.appR | apply Ent.skip)))))))) (by (first | (apply Wr.blk; (· (repeat (first | apply Sel.here | apply Sel.there | apply Upd.here | apply Upd.there))); (· exact Nat.le_of_ble_eq_true rfl)) | (apply Wr.row; (· (first | rfl | assumption)); (· exact Nat.le_of_ble_eq_true rfl); (· (repeat (first | apply Sel.here | apply Sel.there | apply Upd.here | apply Upd.there)))))) ?_)) | (refine SLl.seq0 rfl (SLo.storeN rfl rfl rfl (by (repeat' (first | exact trivial | (apply And.intro; (· (first | exact One.lit rfl | exact One.lit (by assumption) | exact One.mono (by assumption) (by (repeat' (first | exact Ent.refl | exact Ent.drop | exact Ent.appR | apply Ent.skip))) | exact One.len (by (first | exact Len.nil | (apply Len.row; (· (repeat (first | apply Sel.here | apply Sel.there | apply Upd.here | apply Upd.there)))) | (apply Len.rs; exact Rs.mono (by assumption) (by (repeat' (first | exact Ent.refl | exact Ent.drop | exact Ent.appR | apply Ent.skip)))))))))))) (Nat.le_of_ble_eq_true rfl) (by (repeat (first | apply Sel.here | apply Sel.there | apply Upd.here | apply Upd.there))) ?_))))
 | ((show SLl _ _ _ _ _ (⟨⟨_, .box _ _, _, _, _, _⟩, _, _⟩ :: _) _ _ _); refine SLl.seq rfl rfl (SLo.boxC rfl (by (first | exact Cel.one (by (first | exact One.lit rfl | exact One.lit (by assumption) | exact One.mono (by assumption) (by (repeat' (first | exact Ent.refl | exact Ent.drop | exact Ent.appR | apply Ent.skip))) | exact One.len (by (first | exact Len.nil | (apply Len.row; (· (repeat (first | apply Sel.here | apply Sel.there | apply Upd.here | apply Upd.there)))) | (apply Len.rs; exact Rs.mono (by assumption) (by (repeat' (first | exact Ent.refl | exact Ent.drop | exact Ent.appR | apply Ent.skip)))))))) | exact Cel.agg)) ?_); intro b)
 | ((show SLl _ _ _ _ _ (⟨⟨_, .alloc _, _, _, _, _⟩, _, _⟩ :: _) _ _ _); refine SLl.seq rfl rfl (SLo.alloc ?_); intro b)
 | ((show SLl _ _ _ _ _ (⟨⟨_, .build _ _, _, _, _, _⟩, _, _⟩ :: _) _ _ _); first
 | refine SLl.rdSeq rfl rfl (Rd.build rfl (by (repeat (first | exact CellsW.nil | (apply CellsW.cons; (· (first | exact Cel.one (by (first | exact One.lit rfl | exact One.lit (by assumption) | exact One.mono (by assumption) (by (repeat' (first | exact Ent.refl | exact Ent.drop | exact Ent.appR | apply Ent.skip))) | exact One.len (by (first | exact Len.nil | (apply Len.row; (· (repeat (first | apply Sel.here | apply Sel.there | apply Upd.here | apply Upd.there)))) | (apply Len.rs; exact Rs.mono (by assumption) (by (repeat' (first | exact Ent.refl | exact Ent.drop | exact Ent.appR | apply Ent.skip)))))))) | exact Cel.agg)))))) (by rfl)) ?_
 | refine SLl.pu rfl rfl rfl (Pu.build rfl rfl) ?_)
 | refine SLl.skip rfl rfl ?_))
 | (first
 | refine SLc.seq ?_
 | refine SLc.region rfl ?_
 | refine SLc.condT rfl ?_
 | refine SLc.condF rfl ?_
 | refine SLc.block ?_
 | refine SLc.skip ?_
 | refine SLc.exit ?_
 | refine SLc.ret ?_)))
              refine SLc.draws2 σ1 [0, 1, 2, 3, 4, 5, 6, 7, 8, 9, 10, 11, 12, 13, 14] 15 [(16, .eff true), (17, .eff true), (18, .eff false)] 16 [(15, .eff true), (17, .eff true), (18, .eff false)] mixed (by kernel_rfl) .refl ?_
              (repeat' (first
 | (first
 | refine SLl.nil ?_
 | ((show SLl _ _ _ _ _ (⟨⟨_, _, _, _, _, _⟩, _, _⟩ :: _) _ _ _); first
 | refine SLl.ev rfl rfl rfl rfl ?_
 | ((show SLl _ _ _ _ _ (⟨⟨_, .load _ _, _, _, _, _⟩, _, _⟩ :: _) _ _ _); (first | refine SLl.rdTake rfl rfl (Rd.load rfl rfl (by (first | (apply Reads.blk; (· (repeat (first | apply Sel.here | apply Sel.there | apply Upd.here | apply Upd.there))); (· rfl)) | (apply Reads.row; (· (repeat (first | apply Sel.here | apply Sel.there | apply Upd.here | apply Upd.there))); (· (first | rfl | assumption)); (· rfl)) | (apply Reads.rs; (· exact Rs.mono (by assumption) (by (repeat' (first | exact Ent.refl | exact Ent.drop | exact Ent.appR | apply Ent.skip)))); (· (first | rfl | assumption)); (· rfl)) | exact Reads.mono (by assumption) (by (repeat' (first | exact Ent.refl | exact Ent.drop | exact Ent.appR | apply Ent.skip)))))) ?_ | refine SLl.rdTake rfl rfl (Rd.loadN rfl rfl (by (first | exact ReadsN.mono (by assumption) (by (repeat' (first | exact Ent.refl | exact Ent.drop | exact Ent.appR | apply Ent.skip))) | (apply ReadsN.blk0; (· (repeat (first | apply Sel.here | apply Sel.there | apply Upd.here | apply Upd.there)))) | (apply ReadsN.row0; (· (repeat (first | apply Sel.here | apply Sel.there | apply Upd.here | apply Upd.there))); (· (first | rfl | assumption))) | (apply ReadsN.rs0; (· exact Rs.mono (by assumption) (by (repeat' (first | exact Ent.refl | exact Ent.drop | exact Ent.appR | apply Ent.skip)))); (· (first | rfl | assumption))))) (by rfl)) ?_))
 | ((show SLl _ _ _ _ _ (⟨⟨_, .fieldAddr _ _ _, _, _, _, _⟩, _, _⟩ :: _) _ _ _); (first | refine SLl.pu rfl rfl rfl (Pu.fieldAddr rfl) ?_ | refine SLl.rdTake rfl rfl (Rd.fieldAddrEl rfl (by (first | exact Len.nil | (apply Len.row; (· (repeat (first | apply Sel.here | apply Sel.there | apply Upd.here | apply Upd.there)))) | (apply Len.rs; exact Rs.mono (by assumption) (by (repeat' (first | exact Ent.refl | exact Ent.drop | exact Ent.appR | apply Ent.skip)))))) (by omega)) ?_))
 | ((show SLl _ _ _ _ _ (⟨⟨_, .indexAddr _ _ _, _, _, _, _⟩, _, _⟩ :: _) _ _ _); (refine SLl.rdTake rfl rfl (Rd.indexAddr rfl rfl (by (first | exact Len.nil | (apply Len.row; (· (repeat (first | apply Sel.here | apply Sel.there | apply Upd.here | apply Upd.there)))) | (apply Len.rs; exact Rs.mono (by assumption) (by (repeat' (first | exact Ent.refl | exact Ent.drop | exact Ent.appR | apply Ent.skip)))))) (by (first | exact ij0 | exact ij1 | exact ij2 | exact ij3 | exact ij4 | exact ij5 | exact ijs _ | exact ijm _ | rfl | exact (Int.toNat_of_nonneg (by omega)).symm)) (by omega)) ?_))
 | ((show SLl _ _ _ _ _ (⟨⟨_, .call ⟨.builtin .len, _, _⟩, _, _, _, _⟩, _, _⟩ :: _) _ _ _); refine SLl.rdTake rfl rfl (Rd.len rfl (by (first | exact Len.nil | (apply Len.row; (· (repeat (first | apply Sel.here | apply Sel.there | apply Upd.here | apply Upd.there)))) | (apply Len.rs; exact Rs.mono (by assumption) (by (repeat' (first | exact Ent.refl | exact Ent.drop | exact Ent.appR | apply Ent.skip))))))) ?_)
 | ((show SLl _ _ _ _ _ (⟨⟨_, .binOp _ _ _ _ _, _, _, _, _⟩, _, _⟩ :: _) _ _ _); (first
 | refine SLl.pu rfl rfl rfl (Pu.add rfl rfl (IntWalk.i64_in _ (by omega))) ?_
 | refine SLl.pu rfl rfl rfl (Pu.sub rfl rfl (IntWalk.i64_in _ (by omega))) ?_
 | (refine SLl.cmp rfl rfl rfl rfl rfl rfl ?_ ?_ <;> intro hq <;> simp only [cmpP] at hq <;> try (first
 | exact (hq trivial).elim
 | (exfalso; omega)))
 | refine SLl.pu rfl rfl rfl (Pu.eqNilT rfl rfl) ?_
 | refine SLl.pu rfl rfl rfl (Pu.neNilF rfl rfl) ?_
 | refine SLl.rdTake rfl rfl (Rd.eqNilF rfl rfl (by (first | exact Len.nil | (apply Len.row; (· (repeat (first | apply Sel.here | apply Sel.there | apply Upd.here | apply Upd.there)))) | (apply Len.rs; exact Rs.mono (by assumption) (by (repeat' (first | exact Ent.refl | exact Ent.drop | exact Ent.appR | apply Ent.skip)))))) (by assumption)) ?_
 | refine SLl.rdTake rfl rfl (Rd.neNilT rfl rfl (by (first | exact Len.nil | (apply Len.row; (· (repeat (first | apply Sel.here | apply Sel.there | apply Upd.here | apply Upd.there)))) | (apply Len.rs; exact Rs.mono (by assumption) (by (repeat' (first | exact Ent.refl | exact Ent.drop | exact Ent.appR | apply Ent.skip)))))) (by assumption)) ?_
 | refine SLl.pu rfl rfl rfl (Pu.eqPtrNil rfl rfl) ?_
 | refine SLl.pu rfl rfl rfl (Pu.eqBool rfl rfl) ?_
 | refine SLl.pu rfl rfl rfl (Pu.neBool rfl rfl) ?_))
 | ((show SLl _ _ _ _ _ (⟨⟨_, .store _ _ _, _, _, _, _⟩, _, _⟩ :: _) _ _ _); (first | (refine SLl.seq0 rfl (SLo.store rfl rfl rfl (by (first | exact One.lit rfl | exact One.lit (by assumption) | exact One.mono (by assumption) (by (repeat' (first | exact Ent.refl | exact Ent.drop | exact Ent.appR | apply Ent.skip))) | exact One.len (by (first | exact Len.nil | (apply Len.row; (· (repeat (first | apply Sel.here | apply Sel.there | apply Upd.here | apply Upd.there)))) | (apply Len.rs; exact Rs.mono (by assumption) (by (repeat' (first | exact Ent.refl | exact Ent.drop | exact Ent.appR | apply Ent.skip)))))))) (by (first | (apply Wr.blk; (· (repeat (first | apply Sel.here | apply Sel.there | apply Upd.here | apply Upd.there))); (· exact Nat.le_of_ble_eq_true rfl)) | (apply Wr.row; (· (first | rfl | assumption)); (· exact Nat.le_of_ble_eq_true rfl); (· (repeat (first | apply Sel.here | apply Sel.there | apply Upd.here | apply Upd.there)))))) ?_)) | (refine SLl.seq0 rfl (SLo.storeN rfl rfl rfl (by (repeat' (first | exact trivial | (apply And.intro; (· (first | exact One.lit rfl | exact One.lit (by assumption) | exact One.mono (by assumption) (by (repeat' (first | exact Ent.refl | exact Ent.drop | exact Ent.appR | apply Ent.skip))) | exact One.len (by (first | exact Len.nil | (apply Len.row; (· (repeat (first | apply Sel.here | apply Sel.there | apply Upd.here | apply Upd.there)))) | (apply Len.rs; exact Rs.mono (by assumption) (by (repeat' (first | exact Ent.refl | exact Ent.drop | exact Ent.appR | apply Ent.skip)))))))))))) (Nat.le_of_ble_eq_true rfl) (by (repeat (first | apply Sel.here | apply Sel.there | apply Upd.here | apply Upd.there))) ?_))))
 | ((show SLl _ _ _ _ _ (⟨⟨_, .box _ _, _, _, _, _⟩, _, _⟩ :: _) _ _ _); refine SLl.seq rfl rfl (SLo.boxC rfl (by (first | exact Cel.one (by (first | exact One.lit rfl | exact One.lit (by assumption) | exact One.mono (by assumption) (by (repeat' (first | exact Ent.refl | exact Ent.drop | exact Ent.appR | apply Ent.skip))) | exact One.len (by (first | exact Len.nil | (apply Len.row; (· (repeat (first | apply Sel.here | apply Sel.there | apply Upd.here | apply Upd.there)))) | (apply Len.rs; exact Rs.mono (by assumption) (by (repeat' (first | exact Ent.refl | exact Ent.drop | exact Ent.appR | apply Ent.skip)))))))) | exact Cel.agg)) ?_); intro b)
 | ((show SLl _ _ _ _ _ (⟨⟨_, .alloc _, _, _, _, _⟩, _, _⟩ :: _) _ _ _); refine SLl.seq rfl rfl (SLo.alloc ?_); intro b)
 | ((show SLl _ _ _ _ _ (⟨⟨_, .build _ _, _, _, _, _⟩, _, _⟩ :: _) _ _ _); first
 | refine SLl.rdTake rfl rfl (Rd.build rfl (by (repeat (first | exact CellsW.nil | (apply CellsW.cons; (· (first | exact Cel.one (by (first | exact One.lit rfl | exact One.lit (by assumption) | exact One.mono (by assumption) (by (repeat' (first | exact Ent.refl | exact Ent.drop | exact Ent.appR | apply Ent.skip))) | exact One.len (by (first | exact Len.nil | (apply Len.row; (· (repeat (first | apply Sel.here | apply Sel.there | apply Upd.here | apply Upd.there)))) | (apply Len.rs; exact Rs.mono (by assumption) (by (repeat' (first | exact Ent.refl | exact Ent.drop | exact Ent.appR | apply Ent.skip)))))))) | exact Cel.agg)))))) (by rfl)) ?_
 | refine SLl.pu rfl rfl rfl (Pu.build rfl rfl) ?_)
 | refine SLl.skip rfl rfl ?_))
 | (first
 | refine SLc.seq ?_
 | refine SLc.region rfl ?_
 | refine SLc.condT rfl ?_
 | refine SLc.condF rfl ?_
 | refine SLc.block ?_
 | refine SLc.skip ?_
 | refine SLc.exit ?_
 | refine SLc.ret ?_)))
              refine And.intro ?_ ?_
              · refine SLl.eff rfl rfl (SLo.alloc ?_)
                intro b1
                refine And.intro (fun _ => by (repeat' (first | exact Ent.refl | exact Ent.drop | exact Ent.appR | apply Ent.skip))) ?_
                refine SLl.eff rfl rfl (SLo.alloc ?_)
                intro b2
                refine And.intro (fun _ => by (repeat' (first | exact Ent.refl | exact Ent.drop | exact Ent.appR | apply Ent.skip))) ?_
                refine SLl.eff0 rfl (SLo.storeN rfl rfl rfl (by (repeat' (first | exact trivial | (apply And.intro; (· (first | exact One.lit rfl | exact One.lit (by assumption) | exact One.mono (by assumption) (by (repeat' (first | exact Ent.refl | exact Ent.drop | exact Ent.appR | apply Ent.skip))) | exact One.len (by (first | exact Len.nil | (apply Len.row; (· (repeat (first | apply Sel.here | apply Sel.there | apply Upd.here | apply Upd.there)))) | (apply Len.rs; exact Rs.mono (by assumption) (by (repeat' (first | exact Ent.refl | exact Ent.drop | exact Ent.appR | apply Ent.skip)))))))))))) (Nat.le_of_ble_eq_true rfl) (by (repeat (first | apply Sel.here | apply Sel.there | apply Upd.here | apply Upd.there))) ?_)
                refine And.intro (fun _ => by (repeat' (first | exact Ent.refl | exact Ent.drop | exact Ent.appR | apply Ent.skip))) ?_
                refine SLl.eff0 rfl (SLo.storeN rfl rfl rfl (by (repeat' (first | exact trivial | (apply And.intro; (· (first | exact One.lit rfl | exact One.lit (by assumption) | exact One.mono (by assumption) (by (repeat' (first | exact Ent.refl | exact Ent.drop | exact Ent.appR | apply Ent.skip))) | exact One.len (by (first | exact Len.nil | (apply Len.row; (· (repeat (first | apply Sel.here | apply Sel.there | apply Upd.here | apply Upd.there)))) | (apply Len.rs; exact Rs.mono (by assumption) (by (repeat' (first | exact Ent.refl | exact Ent.drop | exact Ent.appR | apply Ent.skip)))))))))))) (Nat.le_of_ble_eq_true rfl) (by (repeat (first | apply Sel.here | apply Sel.there | apply Upd.here | apply Upd.there))) ?_)
                refine And.intro (fun h => by cases h) ?_
                (repeat' (first
 | (first
 | refine SLl.nil ?_
 | ((show SLl _ _ _ _ _ (⟨⟨_, _, _, _, _, _⟩, _, _⟩ :: _) _ _ _); first
 | refine SLl.ev rfl rfl rfl rfl ?_
 | ((show SLl _ _ _ _ _ (⟨⟨_, .load _ _, _, _, _, _⟩, _, _⟩ :: _) _ _ _); (first | refine SLl.rdSeq rfl rfl (Rd.load rfl rfl (by (first | (apply Reads.blk; (· (repeat (first | apply Sel.here | apply Sel.there | apply Upd.here | apply Upd.there))); (· rfl)) | (apply Reads.row; (· (repeat (first | apply Sel.here | apply Sel.there | apply Upd.here | apply Upd.there))); (· (first | rfl | assumption)); (· rfl)) | (apply Reads.rs; (· exact Rs.mono (by assumption) (by (repeat' (first | exact Ent.refl | exact Ent.drop | exact Ent.appR | apply Ent.skip)))); (· (first | rfl | assumption)); (· rfl)) | exact Reads.mono (by assumption) (by (repeat' (first | exact Ent.refl | exact Ent.drop | exact Ent.appR | apply Ent.skip)))))) ?_ | refine SLl.rdSeq rfl rfl (Rd.loadN rfl rfl (by (first | exact ReadsN.mono (by assumption) (by (repeat' (first | exact Ent.refl | exact Ent.drop | exact Ent.appR | apply Ent.skip))) | (apply ReadsN.blk0; (· (repeat (first | apply Sel.here | apply Sel.there | apply Upd.here | apply Upd.there)))) | (apply ReadsN.row0; (· (repeat (first | apply Sel.here | apply Sel.there | apply Upd.here | apply Upd.there))); (· (first | rfl | assumption))) | (apply ReadsN.rs0; (· exact Rs.mono (by assumption) (by (repeat' (first | exact Ent.refl | exact Ent.drop | exact Ent.appR | apply Ent.skip)))); (· (first | rfl | assumption))))) (by rfl)) ?_))
 | ((show SLl _ _ _ _ _ (⟨⟨_, .fieldAddr _ _ _, _, _, _, _⟩, _, _⟩ :: _) _ _ _); (first | refine SLl.pu rfl rfl rfl (Pu.fieldAddr rfl) ?_ | refine SLl.rdSeq rfl rfl (Rd.fieldAddrEl rfl (by (first | exact Len.nil | (apply Len.row; (· (repeat (first | apply Sel.here | apply Sel.there | apply Upd.here | apply Upd.there)))) | (apply Len.rs; exact Rs.mono (by assumption) (by (repeat' (first | exact Ent.refl | exact Ent.drop | exact Ent.appR | apply Ent.skip)))))) (by omega)) ?_))
 | ((show SLl _ _ _ _ _ (⟨⟨_, .indexAddr _ _ _, _, _, _, _⟩, _, _⟩ :: _) _ _ _); (refine SLl.rdSeq rfl rfl (Rd.indexAddr rfl rfl (by (first | exact Len.nil | (apply Len.row; (· (repeat (first | apply Sel.here | apply Sel.there | apply Upd.here | apply Upd.there)))) | (apply Len.rs; exact Rs.mono (by assumption) (by (repeat' (first | exact Ent.refl | exact Ent.drop | exact Ent.appR | apply Ent.skip)))))) (by (first | exact ij0 | exact ij1 | exact ij2 | exact ij3 | exact ij4 | exact ij5 | exact ijs _ | exact ijm _ | rfl | exact (Int.toNat_of_nonneg (by omega)).symm)) (by omega)) ?_))
 | ((show SLl _ _ _ _ _ (⟨⟨_, .call ⟨.builtin .len, _, _⟩, _, _, _, _⟩, _, _⟩ :: _) _ _ _); refine SLl.rdSeq rfl rfl (Rd.len rfl (by (first | exact Len.nil | (apply Len.row; (· (repeat (first | apply Sel.here | apply Sel.there | apply Upd.here | apply Upd.there)))) | (apply Len.rs; exact Rs.mono (by assumption) (by (repeat' (first | exact Ent.refl | exact Ent.drop | exact Ent.appR | apply Ent.skip))))))) ?_)
 | ((show SLl _ _ _ _ _ (⟨⟨_, .binOp _ _ _ _ _, _, _, _, _⟩, _, _⟩ :: _) _ _ _); (first
 | refine SLl.pu rfl rfl rfl (Pu.add rfl rfl (IntWalk.i64_in _ (by omega))) ?_
 | refine SLl.pu rfl rfl rfl (Pu.sub rfl rfl (IntWalk.i64_in _ (by omega))) ?_
 | (refine SLl.cmp rfl rfl rfl rfl rfl rfl ?_ ?_ <;> intro hq <;> simp only [cmpP] at hq <;> try (first
 | exact (hq trivial).elim
 | (exfalso; omega)))
 | refine SLl.pu rfl rfl rfl (Pu.eqNilT rfl rfl) ?_
 | refine SLl.pu rfl rfl rfl (Pu.neNilF rfl rfl) ?_
 | refine SLl.rdSeq rfl rfl (Rd.eqNilF rfl rfl (by (first | exact Len.nil | (apply Len.row; (· (repeat (first | apply Sel.here | apply Sel.there | apply Upd.here | apply Upd.there)))) | (apply Len.rs; exact Rs.mono (by assumption) (by (repeat' (first | exact Ent.refl | exact Ent.drop | exact Ent.appR | apply Ent.skip)))))) (by assumption)) ?_
 | refine SLl.rdSeq rfl rfl (Rd.neNilT rfl rfl (by (first | exact Len.nil | (apply Len.row; (· (repeat (first | apply Sel.here | apply Sel.there | apply Upd.here | apply Upd.there)))) | (apply Len.rs; exact Rs.mono (by assumption) (by (repeat' (first | exact Ent.refl | exact Ent.drop | exact Ent.appR | apply Ent.skip)))))) (by assumption)) ?_
 | refine SLl.pu rfl rfl rfl (Pu.eqPtrNil rfl rfl) ?_
 | refine SLl.pu rfl rfl rfl (Pu.eqBool rfl rfl) ?_
 | refine SLl.pu rfl rfl rfl (Pu.neBool rfl rfl) ?_))
 | ((show SLl _ _ _ _ _ (⟨⟨_, .store _ _ _, _, _, _, _⟩, _, _⟩ :: _) _ _ _); (first | (refine SLl.seq0 rfl (SLo.store rfl rfl rfl (by (first | exact One.lit rfl | exact One.lit (by assumption) | exact One.mono (by assumption) (by (repeat' (first | exact Ent.refl | exact Ent.drop | exact Ent.appR | apply Ent.skip))) | exact One.len (by (first | exact Len.nil | (apply Len.row; (· (repeat (first | apply Sel.here | apply Sel.there | apply Upd.here | apply Upd.there)))) | (apply Len.rs; exact Rs.mono (by assumption) (by (repeat' (first | exact Ent.refl | exact Ent.drop | exact Ent.appR | apply Ent.skip)))))))) (by (first | (apply Wr.blk; (· (repeat (first | apply Sel.here | apply Sel.there | apply Upd.here | apply Upd.there))); (· exact Nat.le_of_ble_eq_true rfl)) | (apply Wr.row; (· (first | rfl | assumption)); (· exact Nat.le_of_ble_eq_true rfl); (· (repeat (first | apply Sel.here | apply Sel.there | apply Upd.here | apply Upd.there)))))) ?_)) | (refine SLl.seq0 rfl (SLo.storeN rfl rfl rfl (by (repeat' (first | exact trivial | (apply And.intro; (· (first | exact One.lit rfl | exact One.lit (by assumption) | exact One.mono (by assumption) (by (repeat' (first | exact Ent.refl | exact Ent.drop | exact Ent.appR | apply Ent.skip))) | exact One.len (by (first | exact Len.nil | (apply Len.row; (· (repeat (first | apply Sel.here | apply Sel.there | apply Upd.here | apply Upd.there)))) | (apply Len.rs; exact Rs.mono (by assumption) (by (repeat' (first | exact Ent.refl | exact Ent.drop | exact Ent.appR | apply Ent.skip)))))))))))) (Nat.le_of_ble_eq_true rfl) (by (repeat (first | apply Sel.here | apply Sel.there | apply Upd.here | apply Upd.there))) ?_))))
 | ((show SLl _ _ _ _ _ (⟨⟨_, .box _ _, _, _, _, _⟩, _, _⟩ :: _) _ _ _); refine SLl.seq rfl rfl (SLo.boxC rfl (by (first | exact Cel.one (by (first | exact One.lit rfl | exact One.lit (by assumption) | exact One.mono (by assumption) (by (repeat' (first | exact Ent.refl | exact Ent.drop | exact Ent.appR | apply Ent.skip))) | exact One.len (by (first | exact Len.nil | (apply Len.row; (· (repeat (first | apply Sel.here | apply Sel.there | apply Upd.here | apply Upd.there)))) | (apply Len.rs; exact Rs.mono (by assumption) (by (repeat' (first | exact Ent.refl | exact Ent.drop | exact Ent.appR | apply Ent.skip)))))))) | exact Cel.agg)) ?_); intro b)
 | ((show SLl _ _ _ _ _ (⟨⟨_, .alloc _, _, _, _, _⟩, _, _⟩ :: _) _ _ _); refine SLl.seq rfl rfl (SLo.alloc ?_); intro b)
 | ((show SLl _ _ _ _ _ (⟨⟨_, .build _ _, _, _, _, _⟩, _, _⟩ :: _) _ _ _); first
 | refine SLl.rdSeq rfl rfl (Rd.build rfl (by (repeat (first | exact CellsW.nil | (apply CellsW.cons; (· (first | exact Cel.one (by (first | exact One.lit rfl | exact One.lit (by assumption) | exact One.mono (by assumption) (by (repeat' (first | exact Ent.refl | exact Ent.drop | exact Ent.appR | apply Ent.skip))) | exact One.len (by (first | exact Len.nil | (apply Len.row; (· (repeat (first | apply Sel.here | apply Sel.there | apply Upd.here | apply Upd.there)))) | (apply Len.rs; exact Rs.mono (by assumption) (by (repeat' (first | exact Ent.refl | exact Ent.drop | exact Ent.appR | apply Ent.skip)))))))) | exact Cel.agg)))))) (by rfl)) ?_
 | refine SLl.pu rfl rfl rfl (Pu.build rfl rfl) ?_)
 | refine SLl.skip rfl rfl ?_))
 | (first
 | refine SLc.seq ?_
 | refine SLc.region rfl ?_
 | refine SLc.condT rfl ?_
 | refine SLc.condF rfl ?_
 | refine SLc.block ?_
 | refine SLc.skip ?_
 | refine SLc.exit ?_
 | refine SLc.ret ?_)))
                all_goals refine And.intro rfl (Exists.intro (k + 1) (And.intro (.inl (by omega)) (And.intro (by omega) (And.intro (by (repeat' (first | exact trivial | apply And.intro | rfl))) (by (repeat' (first | exact Ent.refl | exact Ent.drop | exact Ent.appR | apply Ent.skip)))))))
              · refine SLl.eff rfl rfl (SLo.alloc ?_)
                intro b1
                refine And.intro (fun _ => by (repeat' (first | exact Ent.refl | exact Ent.drop | exact Ent.appR | apply Ent.skip))) ?_
                refine SLl.eff rfl rfl (SLo.alloc ?_)
                intro b2
                refine And.intro (fun _ => by (repeat' (first | exact Ent.refl | exact Ent.drop | exact Ent.appR | apply Ent.skip))) ?_
                refine SLl.eff0 rfl (SLo.storeN rfl rfl rfl (by (repeat' (first | exact trivial | (apply And.intro; (· (first | exact One.lit rfl | exact One.lit (by assumption) | exact One.mono (by assumption) (by (repeat' (first | exact Ent.refl | exact Ent.drop | exact Ent.appR | apply Ent.skip))) | exact One.len (by (first | exact Len.nil | (apply Len.row; (· (repeat (first | apply Sel.here | apply Sel.there | apply Upd.here | apply Upd.there)))) | (apply Len.rs; exact Rs.mono (by assumption) (by (repeat' (first | exact Ent.refl | exact Ent.drop | exact Ent.appR | apply Ent.skip)))))))))))) (Nat.le_of_ble_eq_true rfl) (by (repeat (first | apply Sel.here | apply Sel.there | apply Upd.here | apply Upd.there))) ?_)
                refine And.intro (fun _ => by (repeat' (first | exact Ent.refl | exact Ent.drop | exact Ent.appR | apply Ent.skip))) ?_
                refine SLl.eff0 rfl (SLo.storeN rfl rfl rfl (by (repeat' (first | exact trivial | (apply And.intro; (· (first | exact One.lit rfl | exact One.lit (by assumption) | exact One.mono (by assumption) (by (repeat' (first | exact Ent.refl | exact Ent.drop | exact Ent.appR | apply Ent.skip))) | exact One.len (by (first | exact Len.nil | (apply Len.row; (· (repeat (first | apply Sel.here | apply Sel.there | apply Upd.here | apply Upd.there)))) | (apply Len.rs; exact Rs.mono (by assumption) (by (repeat' (first | exact Ent.refl | exact Ent.drop | exact Ent.appR | apply Ent.skip)))))))))))) (Nat.le_of_ble_eq_true rfl) (by (repeat (first | apply Sel.here | apply Sel.there | apply Upd.here | apply Upd.there))) ?_)
                refine And.intro (fun h => by cases h) ?_
                (repeat' (first
 | (first
 | refine SLl.nil ?_
 | ((show SLl _ _ _ _ _ (⟨⟨_, _, _, _, _, _⟩, _, _⟩ :: _) _ _ _); first
 | refine SLl.ev rfl rfl rfl rfl ?_
 | ((show SLl _ _ _ _ _ (⟨⟨_, .load _ _, _, _, _, _⟩, _, _⟩ :: _) _ _ _); (first | refine SLl.rdSeq rfl rfl (Rd.load rfl rfl (by (first | (apply Reads.blk; (· (repeat (first | apply Sel.here | apply Sel.there | apply Upd.here | apply Upd.there))); (· rfl)) | (apply Reads.row; (· (repeat (first | apply Sel.here | apply Sel.there | apply Upd.here | apply Upd.there))); (· (first | rfl | assumption)); (· rfl)) | (apply Reads.rs; (· exact Rs.mono (by assumption) (by (repeat' (first | exact Ent.refl | exact Ent.drop | exact Ent.appR | apply Ent.skip)))); (· (first | rfl | assumption)); (· rfl)) | exact Reads.mono (by assumption) (by (repeat' (first | exact Ent.refl | exact Ent.drop | exact Ent.appR | apply Ent.skip)))))) ?_ | refine SLl.rdSeq rfl rfl (Rd.loadN rfl rfl (by (first | exact ReadsN.mono (by assumption) (by (repeat' (first | exact Ent.refl | exact Ent.drop | exact Ent.appR | apply Ent.skip))) | (apply ReadsN.blk0; (· (repeat (first | apply Sel.here | apply Sel.there | apply Upd.here | apply Upd.there)))) | (apply ReadsN.row0; (· (repeat (first | apply Sel.here | apply Sel.there | apply Upd.here | apply Upd.there))); (· (first | rfl | assumption))) | (apply ReadsN.rs0; (· exact Rs.mono (by assumption) (by (repeat' (first | exact Ent.refl | exact Ent.drop | exact Ent.appR | apply Ent.skip)))); (· (first | rfl | assumption))))) (by rfl)) ?_))
 | ((show SLl _ _ _ _ _ (⟨⟨_, .fieldAddr _ _ _, _, _, _, _⟩, _, _⟩ :: _) _ _ _); (first | refine SLl.pu rfl rfl rfl (Pu.fieldAddr rfl) ?_ | refine SLl.rdSeq rfl rfl (Rd.fieldAddrEl rfl (by (first | exact Len.nil | (apply Len.row; (· (repeat (first | apply Sel.here | apply Sel.there | apply Upd.here | apply Upd.there)))) | (apply Len.rs; exact Rs.mono (by assumption) (by (repeat' (first | exact Ent.refl | exact Ent.drop | exact Ent.appR | apply Ent.skip)))))) (by omega)) ?_))
 | ((show SLl _ _ _ _ _ (⟨⟨_, .indexAddr _ _ _, _, _, _, _⟩, _, _⟩ :: _) _ _ _); (refine SLl.rdSeq rfl rfl (Rd.indexAddr rfl rfl (by (first | exact Len.nil | (apply Len.row; (· (repeat (first | apply Sel.here | apply Sel.there | apply Upd.here | apply Upd.there)))) | (apply Len.rs; exact Rs.mono (by assumption) (by (repeat' (first | exact Ent.refl | exact Ent.drop | exact Ent.appR | apply Ent.skip)))))) (by (first | exact ij0 | exact ij1 | exact ij2 | exact ij3 | exact ij4 | exact ij5 | exact ijs _ | exact ijm _ | rfl | exact (Int.toNat_of_nonneg (by omega)).symm)) (by omega)) ?_))
 | ((show SLl _ _ _ _ _ (⟨⟨_, .call ⟨.builtin .len, _, _⟩, _, _, _, _⟩, _, _⟩ :: _) _ _ _); refine SLl.rdSeq rfl rfl (Rd.len rfl (by (first | exact Len.nil | (apply Len.row; (· (repeat (first | apply Sel.here | apply Sel.there | apply Upd.here | apply Upd.there)))) | (apply Len.rs; exact Rs.mono (by assumption) (by (repeat' (first | exact Ent.refl | exact Ent.drop | exact Ent.appR | apply Ent.skip))))))) ?_)
 | ((show SLl _ _ _ _ _ (⟨⟨_, .binOp _ _ _ _ _, _, _, _, _⟩, _, _⟩ :: _) _ _ _); (first
 | refine SLl.pu rfl rfl rfl (Pu.add rfl rfl (IntWalk.i64_in _ (by omega))) ?_
 | refine SLl.pu rfl rfl rfl (Pu.sub rfl rfl (IntWalk.i64_in _ (by omega))) ?_
 | (refine SLl.cmp rfl rfl rfl rfl rfl rfl ?_ ?_ <;> intro hq <;> simp only [cmpP] at hq <;> try (first
 | exact (hq trivial).elim
 | (exfalso; omega)))
 | refine SLl.pu rfl rfl rfl (Pu.eqNilT rfl rfl) ?_
 | refine SLl.pu rfl rfl rfl (Pu.neNilF rfl rfl) ?_
 | refine SLl.rdSeq rfl rfl (Rd.eqNilF rfl rfl (by (first | exact Len.nil | (apply Len.row; (· (repeat (first | apply Sel.here | apply Sel.there | apply Upd.here | apply Upd.there)))) | (apply Len.rs; exact Rs.mono (by assumption) (by (repeat' (first | exact Ent.refl | exact Ent.drop | exact Ent.appR | apply Ent.skip)))))) (by assumption)) ?_
 | refine SLl.rdSeq rfl rfl (Rd.neNilT rfl rfl (by (first | exact Len.nil | (apply Len.row; (· (repeat (first | apply Sel.here | apply Sel.there | apply Upd.here | apply Upd.there)))) | (apply Len.rs; exact Rs.mono (by assumption) (by (repeat' (first | exact Ent.refl | exact Ent.drop | exact Ent.appR | apply Ent.skip)))))) (by assumption)) ?_
 | refine SLl.pu rfl rfl rfl (Pu.eqPtrNil rfl rfl) ?_
 | refine SLl.pu rfl rfl rfl (Pu.eqBool rfl rfl) ?_
 | refine SLl.pu rfl rfl rfl (Pu.neBool rfl rfl) ?_))
 | ((show SLl _ _ _ _ _ (⟨⟨_, .store _ _ _, _, _, _, _⟩, _, _⟩ :: _) _ _ _); (first | (refine SLl.seq0 rfl (SLo.store rfl rfl rfl (by (first | exact One.lit rfl | exact One.lit (by assumption) | exact One.mono (by assumption) (by (repeat' (first | exact Ent.refl | exact Ent.drop | exact Ent.appR | apply Ent.skip))) | exact One.len (by (first | exact Len.nil | (apply Len.row; (· (repeat (first | apply Sel.here | apply Sel.there | apply Upd.here | apply Upd.there)))) | (apply Len.rs; exact Rs.mono (by assumption) (by (repeat' (first | exact Ent.refl | exact Ent.drop | exact Ent.appR | apply Ent.skip)))))))) (by (first | (apply Wr.blk; (· (repeat (first | apply Sel.here | apply Sel.there | apply Upd.here | apply Upd.there))); (· exact Nat.le_of_ble_eq_true rfl)) | (apply Wr.row; (· (first | rfl | assumption)); (· exact Nat.le_of_ble_eq_true rfl); (· (repeat (first | apply Sel.here | apply Sel.there | apply Upd.here | apply Upd.there)))))) ?_)) | (refine SLl.seq0 rfl (SLo.storeN rfl rfl rfl (by (repeat' (first | exact trivial | (apply And.intro; (· (first | exact One.lit rfl | exact One.lit (by assumption) | exact One.mono (by assumption) (by (repeat' (first | exact Ent.refl | exact Ent.drop | exact Ent.appR | apply Ent.skip))) | exact One.len (by (first | exact Len.nil | (apply Len.row; (· (repeat (first | apply Sel.here | apply Sel.there | apply Upd.here | apply Upd.there)))) | (apply Len.rs; exact Rs.mono (by assumption) (by (repeat' (first | exact Ent.refl | exact Ent.drop | exact Ent.appR | apply Ent.skip)))))))))))) (Nat.le_of_ble_eq_true rfl) (by (repeat (first | apply Sel.here | apply Sel.there | apply Upd.here | apply Upd.there))) ?_))))
 | ((show SLl _ _ _ _ _ (⟨⟨_, .box _ _, _, _, _, _⟩, _, _⟩ :: _) _ _ _); refine SLl.seq rfl rfl (SLo.boxC rfl (by (first | exact Cel.one (by (first | exact One.lit rfl | exact One.lit (by assumption) | exact One.mono (by assumption) (by (repeat' (first | exact Ent.refl | exact Ent.drop | exact Ent.appR | apply Ent.skip))) | exact One.len (by (first | exact Len.nil | (apply Len.row; (· (repeat (first | apply Sel.here | apply Sel.there | apply Upd.here | apply Upd.there)))) | (apply Len.rs; exact Rs.mono (by assumption) (by (repeat' (first | exact Ent.refl | exact Ent.drop | exact Ent.appR | apply Ent.skip)))))))) | exact Cel.agg)) ?_); intro b)
 | ((show SLl _ _ _ _ _ (⟨⟨_, .alloc _, _, _, _, _⟩, _, _⟩ :: _) _ _ _); refine SLl.seq rfl rfl (SLo.alloc ?_); intro b)
 | ((show SLl _ _ _ _ _ (⟨⟨_, .build _ _, _, _, _, _⟩, _, _⟩ :: _) _ _ _); first
 | refine SLl.rdSeq rfl rfl (Rd.build rfl (by (repeat (first | exact CellsW.nil | (apply CellsW.cons; (· (first | exact Cel.one (by (first | exact One.lit rfl | exact One.lit (by assumption) | exact One.mono (by assumption) (by (repeat' (first | exact Ent.refl | exact Ent.drop | exact Ent.appR | apply Ent.skip))) | exact One.len (by (first | exact Len.nil | (apply Len.row; (· (repeat (first | apply Sel.here | apply Sel.there | apply Upd.here | apply Upd.there)))) | (apply Len.rs; exact Rs.mono (by assumption) (by (repeat' (first | exact Ent.refl | exact Ent.drop | exact Ent.appR | apply Ent.skip)))))))) | exact Cel.agg)))))) (by rfl)) ?_
 | refine SLl.pu rfl rfl rfl (Pu.build rfl rfl) ?_)
 | refine SLl.skip rfl rfl ?_))
 | (first
 | refine SLc.seq ?_
 | refine SLc.region rfl ?_
 | refine SLc.condT rfl ?_
 | refine SLc.condF rfl ?_
 | refine SLc.block ?_
 | refine SLc.skip ?_
 | refine SLc.exit ?_
 | refine SLc.ret ?_)))
                all_goals refine And.intro rfl (Exists.intro (k + 1) (And.intro (.inl (by omega)) (And.intro (by omega) (And.intro (by (repeat' (first | exact trivial | apply And.intro | rfl))) (by (repeat' (first | exact Ent.refl | exact Ent.drop | exact Ent.appR | apply Ent.skip)))))))
            · (repeat' (first
 | (first
 | refine SLl.nil ?_
 | ((show SLl _ _ _ _ _ (⟨⟨_, _, _, _, _, _⟩, _, _⟩ :: _) _ _ _); first
 | refine SLl.ev rfl rfl rfl rfl ?_
 | ((show SLl _ _ _ _ _ (⟨⟨_, .load _ _, _, _, _, _⟩, _, _⟩ :: _) _ _ _); (first | refine SLl.rdSeq rfl rfl (Rd.load rfl rfl (by (first | (apply Reads.blk; (· (repeat (first | apply Sel.here | apply Sel.there | apply Upd.here | apply Upd.there))); (· rfl)) | (apply Reads.row; (· (repeat (first | apply Sel.here | apply Sel.there | apply Upd.here | apply Upd.there))); (· (first | rfl | assumption)); (· rfl)) | (apply Reads.rs; (· exact Rs.mono (by assumption) (by (repeat' (first | exact Ent.refl | exact Ent.drop | exact Ent.appR | apply Ent.skip)))); (· (first | rfl | assumption)); (· rfl)) | exact Reads.mono (by assumption) (by (repeat' (first | exact Ent.refl | exact Ent.drop | exact Ent.appR | apply Ent.skip)))))) ?_ | refine SLl.rdSeq rfl rfl (Rd.loadN rfl rfl (by (first | exact ReadsN.mono (by assumption) (by (repeat' (first | exact Ent.refl | exact Ent.drop | exact Ent.appR | apply Ent.skip))) | (apply ReadsN.blk0; (· (repeat (first | apply Sel.here | apply Sel.there | apply Upd.here | apply Upd.there)))) | (apply ReadsN.row0; (· (repeat (first | apply Sel.here | apply Sel.there | apply Upd.here | apply Upd.there))); (· (first | rfl | assumption))) | (apply ReadsN.rs0; (· exact Rs.mono (by assumption) (by (repeat' (first | exact Ent.refl | exact Ent.drop | exact Ent.appR | apply Ent.skip)))); (· (first | rfl | assumption))))) (by rfl)) ?_))
 | ((show SLl _ _ _ _ _ (⟨⟨_, .fieldAddr _ _ _, _, _, _, _⟩, _, _⟩ :: _) _ _ _); (first | refine SLl.pu rfl rfl rfl (Pu.fieldAddr rfl) ?_ | refine SLl.rdSeq rfl rfl (Rd.fieldAddrEl rfl (by (first | exact Len.nil | (apply Len.row; (· (repeat (first | apply Sel.here | apply Sel.there | apply Upd.here | apply Upd.there)))) | (apply Len.rs; exact Rs.mono (by assumption) (by (repeat' (first | exact Ent.refl | exact Ent.drop | exact Ent.appR | apply Ent.skip)))))) (by omega)) ?_))
 | ((show SLl _ _ _ _ _ (⟨⟨_, .indexAddr _ _ _, _, _, _, _⟩, _, _⟩ :: _) _ _ _); (refine SLl.rdSeq rfl rfl (Rd.indexAddr rfl rfl (by (first | exact Len.nil | (apply Len.row; (· (repeat (first | apply Sel.here | apply Sel.there | apply Upd.here | apply Upd.there)))) | (apply Len.rs; exact Rs.mono (by assumption) (by (repeat' (first | exact Ent.refl | exact Ent.drop | exact Ent.appR | apply Ent.skip)))))) (by (first | exact ij0 | exact ij1 | exact ij2 | exact ij3 | exact ij4 | exact ij5 | exact ijs _ | exact ijm _ | rfl | exact (Int.toNat_of_nonneg (by omega)).symm)) (by omega)) ?_))
 | ((show SLl _ _ _ _ _ (⟨⟨_, .call ⟨.builtin .len, _, _⟩, _, _, _, _⟩, _, _⟩ :: _) _ _ _); refine SLl.rdSeq rfl rfl (Rd.len rfl (by (first | exact Len.nil | (apply Len.row; (· (repeat (first | apply Sel.here | apply Sel.there | apply Upd.here | apply Upd.there)))) | (apply Len.rs; exact Rs.mono (by assumption) (by (repeat' (first | exact Ent.refl | exact Ent.drop | exact Ent.appR | apply Ent.skip))))))) ?_)
 | ((show SLl _ _ _ _ _ (⟨⟨_, .binOp _ _ _ _ _, _, _, _, _⟩, _, _⟩ :: _) _ _ _); (first
 | refine SLl.pu rfl rfl rfl (Pu.add rfl rfl (IntWalk.i64_in _ (by omega))) ?_
 | refine SLl.pu rfl rfl rfl (Pu.sub rfl rfl (IntWalk.i64_in _ (by omega))) ?_
 | (refine SLl.cmp rfl rfl rfl rfl rfl rfl ?_ ?_ <;> intro hq <;> simp only [cmpP] at hq <;> try (first
 | exact (hq trivial).elim
 | (exfalso; omega)))
 | refine SLl.pu rfl rfl rfl (Pu.eqNilT rfl rfl) ?_
 | refine SLl.pu rfl rfl rfl (Pu.neNilF rfl rfl) ?_
 | refine SLl.rdSeq rfl rfl (Rd.eqNilF rfl rfl (by (first | exact Len.nil | (apply Len.row; (· (repeat (first | apply Sel.here | apply Sel.there | apply Upd.here | apply Upd.there)))) | (apply Len.rs; exact Rs.mono (by assumption) (by (repeat' (first | exact Ent.refl | exact Ent.drop | exact Ent.appR | apply Ent.skip)))))) (by assumption)) ?_
 | refine SLl.rdSeq rfl rfl (Rd.neNilT rfl rfl (by (first | exact Len.nil | (apply Len.row; (· (repeat (first | apply Sel.here | apply Sel.there | apply Upd.here | apply Upd.there)))) | (apply Len.rs; exact Rs.mono (by assumption) (by (repeat' (first | exact Ent.refl | exact Ent.drop | exact Ent.appR | apply Ent.skip)))))) (by assumption)) ?_
 | refine SLl.pu rfl rfl rfl (Pu.eqPtrNil rfl rfl) ?_
 | refine SLl.pu rfl rfl rfl (Pu.eqBool rfl rfl) ?_
 | refine SLl.pu rfl rfl rfl (Pu.neBool rfl rfl) ?_))
 | ((show SLl _ _ _ _ _ (⟨⟨_, .store _ _ _, _, _, _, _⟩, _, _⟩ :: _) _ _ _); (first | (refine SLl.seq0 rfl (SLo.store rfl rfl rfl (by (first | exact One.lit rfl | exact One.lit (by assumption) | exact One.mono (by assumption) (by (repeat' (first | exact Ent.refl | exact Ent.drop | exact Ent.appR | apply Ent.skip))) | exact One.len (by (first | exact Len.nil | (apply Len.row; (· (repeat (first | apply Sel.here | apply Sel.there | apply Upd.here | apply Upd.there)))) | (apply Len.rs; exact Rs.mono (by assumption) (by (repeat' (first | exact Ent.refl | exact Ent.drop | exact Ent.appR | apply Ent.skip)))))))) (by (first | (apply Wr.blk; (· (repeat (first | apply Sel.here | apply Sel.there | apply Upd.here | apply Upd.there))); (· exact Nat.le_of_ble_eq_true rfl)) | (apply Wr.row; (· (first | rfl | assumption)); (· exact Nat.le_of_ble_eq_true rfl); (· (repeat (first | apply Sel.here | apply Sel.there | apply Upd.here | apply Upd.there)))))) ?_)) | (refine SLl.seq0 rfl (SLo.storeN rfl rfl rfl (by (repeat' (first | exact trivial | (apply And.intro; (· (first | exact One.lit rfl | exact One.lit (by assumption) | exact One.mono (by assumption) (by (repeat' (first | exact Ent.refl | exact Ent.drop | exact Ent.appR | apply Ent.skip))) | exact One.len (by (first | exact Len.nil | (apply Len.row; (· (repeat (first | apply Sel.here | apply Sel.there | apply Upd.here | apply Upd.there)))) | (apply Len.rs; exact Rs.mono (by assumption) (by (repeat' (first | exact Ent.refl | exact Ent.drop | exact Ent.appR | apply Ent.skip)))))))))))) (Nat.le_of_ble_eq_true rfl) (by (repeat (first | apply Sel.here | apply Sel.there | apply Upd.here | apply Upd.there))) ?_))))
 | ((show SLl _ _ _ _ _ (⟨⟨_, .box _ _, _, _, _, _⟩, _, _⟩ :: _) _ _ _); refine SLl.seq rfl rfl (SLo.boxC rfl (by (first | exact Cel.one (by (first | exact One.lit rfl | exact One.lit (by assumption) | exact One.mono (by assumption) (by (repeat' (first | exact Ent.refl | exact Ent.drop | exact Ent.appR | apply Ent.skip))) | exact One.len (by (first | exact Len.nil | (apply Len.row; (· (repeat (first | apply Sel.here | apply Sel.there | apply Upd.here | apply Upd.there)))) | (apply Len.rs; exact Rs.mono (by assumption) (by (repeat' (first | exact Ent.refl | exact Ent.drop | exact Ent.appR | apply Ent.skip)))))))) | exact Cel.agg)) ?_); intro b)
 | ((show SLl _ _ _ _ _ (⟨⟨_, .alloc _, _, _, _, _⟩, _, _⟩ :: _) _ _ _); refine SLl.seq rfl rfl (SLo.alloc ?_); intro b)
 | ((show SLl _ _ _ _ _ (⟨⟨_, .build _ _, _, _, _, _⟩, _, _⟩ :: _) _ _ _); first
 | refine SLl.rdSeq rfl rfl (Rd.build rfl (by (repeat (first | exact CellsW.nil | (apply CellsW.cons; (· (first | exact Cel.one (by (first | exact One.lit rfl | exact One.lit (by assumption) | exact One.mono (by assumption) (by (repeat' (first | exact Ent.refl | exact Ent.drop | exact Ent.appR | apply Ent.skip))) | exact One.len (by (first | exact Len.nil | (apply Len.row; (· (repeat (first | apply Sel.here | apply Sel.there | apply Upd.here | apply Upd.there)))) | (apply Len.rs; exact Rs.mono (by assumption) (by (repeat' (first | exact Ent.refl | exact Ent.drop | exact Ent.appR | apply Ent.skip)))))))) | exact Cel.agg)))))) (by rfl)) ?_
 | refine SLl.pu rfl rfl rfl (Pu.build rfl rfl) ?_)
 | refine SLl.skip rfl rfl ?_))
 | (first
 | refine SLc.seq ?_
 | refine SLc.region rfl ?_
 | refine SLc.condT rfl ?_
 | refine SLc.condF rfl ?_
 | refine SLc.block ?_
 | refine SLc.skip ?_
 | refine SLc.exit ?_
 | refine SLc.ret ?_)))
              refine And.intro rfl (Exists.intro (i + 1) (And.intro (by omega) (And.intro (by omega) (And.intro ?_ .refl))))
              exact ⟨rfl, congrArg (fun q : Int => some (Value.int .i64 q)) (by rw [hstep] <;> omega), congrArg (fun q : Int => some (Value.int .i64 q)) (by rw [hlt2] <;> omega), rfl, rfl, rfl, rfl, rfl, trivial⟩
        | false =>
          rw [hb0] at hRi
          have hbi := bools_at hRi
          have hstep : insAll G R (i + 1) = insAll G R i := by simp [insAll, hRi]
          have hne : i ≠ rt := fun h => by have h2 := hre.2 (.inl h); rw [hRi] at h2; cases h2
          have hlen : ¬ 0 < u.length := fun h => by have h2 := hre.2 (.inr (List.length_pos_iff.1 h)); rw [hRi] at h2; cases h2
          (repeat' (first
 | (first
 | refine SLl.nil ?_
 | ((show SLl _ _ _ _ _ (⟨⟨_, _, _, _, _, _⟩, _, _⟩ :: _) _ _ _); first
 | refine SLl.ev rfl rfl rfl rfl ?_
 | ((show SLl _ _ _ _ _ (⟨⟨_, .load _ _, _, _, _, _⟩, _, _⟩ :: _) _ _ _); (first | refine SLl.rdSeq rfl rfl (Rd.load rfl rfl (by (first | (apply Reads.blk; (· (repeat (first | apply Sel.here | apply Sel.there | apply Upd.here | apply Upd.there))); (· rfl)) | (apply Reads.row; (· (repeat (first | apply Sel.here | apply Sel.there | apply Upd.here | apply Upd.there))); (· (first | rfl | assumption)); (· rfl)) | (apply Reads.rs; (· exact Rs.mono (by assumption) (by (repeat' (first | exact Ent.refl | exact Ent.drop | exact Ent.appR | apply Ent.skip)))); (· (first | rfl | assumption)); (· rfl)) | exact Reads.mono (by assumption) (by (repeat' (first | exact Ent.refl | exact Ent.drop | exact Ent.appR | apply Ent.skip)))))) ?_ | refine SLl.rdSeq rfl rfl (Rd.loadN rfl rfl (by (first | exact ReadsN.mono (by assumption) (by (repeat' (first | exact Ent.refl | exact Ent.drop | exact Ent.appR | apply Ent.skip))) | (apply ReadsN.blk0; (· (repeat (first | apply Sel.here | apply Sel.there | apply Upd.here | apply Upd.there)))) | (apply ReadsN.row0; (· (repeat (first | apply Sel.here | apply Sel.there | apply Upd.here | apply Upd.there))); (· (first | rfl | assumption))) | (apply ReadsN.rs0; (· exact Rs.mono (by assumption) (by (repeat' (first | exact Ent.refl | exact Ent.drop | exact Ent.appR | apply Ent.skip)))); (· (first | rfl | assumption))))) (by rfl)) ?_))
 | ((show SLl _ _ _ _ _ (⟨⟨_, .fieldAddr _ _ _, _, _, _, _⟩, _, _⟩ :: _) _ _ _); (first | refine SLl.pu rfl rfl rfl (Pu.fieldAddr rfl) ?_ | refine SLl.rdSeq rfl rfl (Rd.fieldAddrEl rfl (by (first | exact Len.nil | (apply Len.row; (· (repeat (first | apply Sel.here | apply Sel.there | apply Upd.here | apply Upd.there)))) | (apply Len.rs; exact Rs.mono (by assumption) (by (repeat' (first | exact Ent.refl | exact Ent.drop | exact Ent.appR | apply Ent.skip)))))) (by omega)) ?_))
 | ((show SLl _ _ _ _ _ (⟨⟨_, .indexAddr _ _ _, _, _, _, _⟩, _, _⟩ :: _) _ _ _); (refine SLl.rdSeq rfl rfl (Rd.indexAddr rfl rfl (by (first | exact Len.nil | (apply Len.row; (· (repeat (first | apply Sel.here | apply Sel.there | apply Upd.here | apply Upd.there)))) | (apply Len.rs; exact Rs.mono (by assumption) (by (repeat' (first | exact Ent.refl | exact Ent.drop | exact Ent.appR | apply Ent.skip)))))) (by (first | exact ij0 | exact ij1 | exact ij2 | exact ij3 | exact ij4 | exact ij5 | exact ijs _ | exact ijm _ | rfl | exact (Int.toNat_of_nonneg (by omega)).symm)) (by omega)) ?_))
 | ((show SLl _ _ _ _ _ (⟨⟨_, .call ⟨.builtin .len, _, _⟩, _, _, _, _⟩, _, _⟩ :: _) _ _ _); refine SLl.rdSeq rfl rfl (Rd.len rfl (by (first | exact Len.nil | (apply Len.row; (· (repeat (first | apply Sel.here | apply Sel.there | apply Upd.here | apply Upd.there)))) | (apply Len.rs; exact Rs.mono (by assumption) (by (repeat' (first | exact Ent.refl | exact Ent.drop | exact Ent.appR | apply Ent.skip))))))) ?_)
 | ((show SLl _ _ _ _ _ (⟨⟨_, .binOp _ _ _ _ _, _, _, _, _⟩, _, _⟩ :: _) _ _ _); (first
 | refine SLl.pu rfl rfl rfl (Pu.add rfl rfl (IntWalk.i64_in _ (by omega))) ?_
 | refine SLl.pu rfl rfl rfl (Pu.sub rfl rfl (IntWalk.i64_in _ (by omega))) ?_
 | (refine SLl.cmp rfl rfl rfl rfl rfl rfl ?_ ?_ <;> intro hq <;> simp only [cmpP] at hq <;> try (first
 | exact (hq trivial).elim
 | (exfalso; omega)))
 | refine SLl.pu rfl rfl rfl (Pu.eqNilT rfl rfl) ?_
 | refine SLl.pu rfl rfl rfl (Pu.neNilF rfl rfl) ?_
 | refine SLl.rdSeq rfl rfl (Rd.eqNilF rfl rfl (by (first | exact Len.nil | (apply Len.row; (· (repeat (first | apply Sel.here | apply Sel.there | apply Upd.here | apply Upd.there)))) | (apply Len.rs; exact Rs.mono (by assumption) (by (repeat' (first | exact Ent.refl | exact Ent.drop | exact Ent.appR | apply Ent.skip)))))) (by assumption)) ?_
 | refine SLl.rdSeq rfl rfl (Rd.neNilT rfl rfl (by (first | exact Len.nil | (apply Len.row; (· (repeat (first | apply Sel.here | apply Sel.there | apply Upd.here | apply Upd.there)))) | (apply Len.rs; exact Rs.mono (by assumption) (by (repeat' (first | exact Ent.refl | exact Ent.drop | exact Ent.appR | apply Ent.skip)))))) (by assumption)) ?_
 | refine SLl.pu rfl rfl rfl (Pu.eqPtrNil rfl rfl) ?_
 | refine SLl.pu rfl rfl rfl (Pu.eqBool rfl rfl) ?_
 | refine SLl.pu rfl rfl rfl (Pu.neBool rfl rfl) ?_))
 | ((show SLl _ _ _ _ _ (⟨⟨_, .store _ _ _, _, _, _, _⟩, _, _⟩ :: _) _ _ _); (first | (refine SLl.seq0 rfl (SLo.store rfl rfl rfl (by (first | exact One.lit rfl | exact One.lit (by assumption) | exact One.mono (by assumption) (by (repeat' (first | exact Ent.refl | exact Ent.drop | exact Ent.appR | apply Ent.skip))) | exact One.len (by (first | exact Len.nil | (apply Len.row; (· (repeat (first | apply Sel.here | apply Sel.there | apply Upd.here | apply Upd.there)))) | (apply Len.rs; exact Rs.mono (by assumption) (by (repeat' (first | exact Ent.refl | exact Ent.drop | exact Ent.appR | apply Ent.skip)))))))) (by (first | (apply Wr.blk; (· (repeat (first | apply Sel.here | apply Sel.there | apply Upd.here | apply Upd.there))); (· exact Nat.le_of_ble_eq_true rfl)) | (apply Wr.row; (· (first | rfl | assumption)); (· exact Nat.le_of_ble_eq_true rfl); (· (repeat (first | apply Sel.here | apply Sel.there | apply Upd.here | apply Upd.there)))))) ?_)) | (refine SLl.seq0 rfl (SLo.storeN rfl rfl rfl (by (repeat' (first | exact trivial | (apply And.intro; (· (first | exact One.lit rfl | exact One.lit (by assumption) | exact One.mono (by assumption) (by (repeat' (first | exact Ent.refl | exact Ent.drop | exact Ent.appR | apply Ent.skip))) | exact One.len (by (first | exact Len.nil | (apply Len.row; (· (repeat (first | apply Sel.here | apply Sel.there | apply Upd.here | apply Upd.there)))) | (apply Len.rs; exact Rs.mono (by assumption) (by (repeat' (first | exact Ent.refl | exact Ent.drop | exact Ent.appR | apply Ent.skip)))))))))))) (Nat.le_of_ble_eq_true rfl) (by (repeat (first | apply Sel.here | apply Sel.there | apply Upd.here | apply Upd.there))) ?_))))
 | ((show SLl _ _ _ _ _ (⟨⟨_, .box _ _, _, _, _, _⟩, _, _⟩ :: _) _ _ _); refine SLl.seq rfl rfl (SLo.boxC rfl (by (first | exact Cel.one (by (first | exact One.lit rfl | exact One.lit (by assumption) | exact One.mono (by assumption) (by (repeat' (first | exact Ent.refl | exact Ent.drop | exact Ent.appR | apply Ent.skip))) | exact One.len (by (first | exact Len.nil | (apply Len.row; (· (repeat (first | apply Sel.here | apply Sel.there | apply Upd.here | apply Upd.there)))) | (apply Len.rs; exact Rs.mono (by assumption) (by (repeat' (first | exact Ent.refl | exact Ent.drop | exact Ent.appR | apply Ent.skip)))))))) | exact Cel.agg)) ?_); intro b)
 | ((show SLl _ _ _ _ _ (⟨⟨_, .alloc _, _, _, _, _⟩, _, _⟩ :: _) _ _ _); refine SLl.seq rfl rfl (SLo.alloc ?_); intro b)
 | ((show SLl _ _ _ _ _ (⟨⟨_, .build _ _, _, _, _, _⟩, _, _⟩ :: _) _ _ _); first
 | refine SLl.rdSeq rfl rfl (Rd.build rfl (by (repeat (first | exact CellsW.nil | (apply CellsW.cons; (· (first | exact Cel.one (by (first | exact One.lit rfl | exact One.lit (by assumption) | exact One.mono (by assumption) (by (repeat' (first | exact Ent.refl | exact Ent.drop | exact Ent.appR | apply Ent.skip))) | exact One.len (by (first | exact Len.nil | (apply Len.row; (· (repeat (first | apply Sel.here | apply Sel.there | apply Upd.here | apply Upd.there)))) | (apply Len.rs; exact Rs.mono (by assumption) (by (repeat' (first | exact Ent.refl | exact Ent.drop | exact Ent.appR | apply Ent.skip)))))))) | exact Cel.agg)))))) (by rfl)) ?_
 | refine SLl.pu rfl rfl rfl (Pu.build rfl rfl) ?_)
 | refine SLl.skip rfl rfl ?_))
 | (first
 | refine SLc.seq ?_
 | refine SLc.region rfl ?_
 | refine SLc.condT rfl ?_
 | refine SLc.condF rfl ?_
 | refine SLc.block ?_
 | refine SLc.skip ?_
 | refine SLc.exit ?_
 | refine SLc.ret ?_)))
          refine SLc.drawsI _ (List.replicate 38 .take) mixed (by kernel_rfl) .refl ?_
          (repeat' (first
 | (first
 | refine SLl.nil ?_
 | ((show SLl _ _ _ _ _ (⟨⟨_, _, _, _, _, _⟩, _, _⟩ :: _) _ _ _); first
 | refine SLl.ev rfl rfl rfl rfl ?_
 | ((show SLl _ _ _ _ _ (⟨⟨_, .load _ _, _, _, _, _⟩, _, _⟩ :: _) _ _ _); (first | refine SLl.rdTake rfl rfl (Rd.load rfl rfl (by (first | (apply Reads.blk; (· (repeat (first | apply Sel.here | apply Sel.there | apply Upd.here | apply Upd.there))); (· rfl)) | (apply Reads.row; (· (repeat (first | apply Sel.here | apply Sel.there | apply Upd.here | apply Upd.there))); (· (first | rfl | assumption)); (· rfl)) | (apply Reads.rs; (· exact Rs.mono (by assumption) (by (repeat' (first | exact Ent.refl | exact Ent.drop | exact Ent.appR | apply Ent.skip)))); (· (first | rfl | assumption)); (· rfl)) | exact Reads.mono (by assumption) (by (repeat' (first | exact Ent.refl | exact Ent.drop | exact Ent.appR | apply Ent.skip)))))) ?_ | refine SLl.rdTake rfl rfl (Rd.loadN rfl rfl (by (first | exact ReadsN.mono (by assumption) (by (repeat' (first | exact Ent.refl | exact Ent.drop | exact Ent.appR | apply Ent.skip))) | (apply ReadsN.blk0; (· (repeat (first | apply Sel.here | apply Sel.there | apply Upd.here | apply Upd.there)))) | (apply ReadsN.row0; (· (repeat (first | apply Sel.here | apply Sel.there | apply Upd.here | apply Upd.there))); (· (first | rfl | assumption))) | (apply ReadsN.rs0; (· exact Rs.mono (by assumption) (by (repeat' (first | exact Ent.refl | exact Ent.drop | exact Ent.appR | apply Ent.skip)))); (· (first | rfl | assumption))))) (by rfl)) ?_))
 | ((show SLl _ _ _ _ _ (⟨⟨_, .fieldAddr _ _ _, _, _, _, _⟩, _, _⟩ :: _) _ _ _); (first | refine SLl.pu rfl rfl rfl (Pu.fieldAddr rfl) ?_ | refine SLl.rdTake rfl rfl (Rd.fieldAddrEl rfl (by (first | exact Len.nil | (apply Len.row; (· (repeat (first | apply Sel.here | apply Sel.there | apply Upd.here | apply Upd.there)))) | (apply Len.rs; exact Rs.mono (by assumption) (by (repeat' (first | exact Ent.refl | exact Ent.drop | exact Ent.appR | apply Ent.skip)))))) (by omega)) ?_))
 | ((show SLl _ _ _ _ _ (⟨⟨_, .indexAddr _ _ _, _, _, _, _⟩, _, _⟩ :: _) _ _ _); (refine SLl.rdTake rfl rfl (Rd.indexAddr rfl rfl (by (first | exact Len.nil | (apply Len.row; (· (repeat (first | apply Sel.here | apply Sel.there | apply Upd.here | apply Upd.there)))) | (apply Len.rs; exact Rs.mono (by assumption) (by (repeat' (first | exact Ent.refl | exact Ent.drop | exact Ent.appR | apply Ent.skip)))))) (by (first | exact ij0 | exact ij1 | exact ij2 | exact ij3 | exact ij4 | exact ij5 | exact ijs _ | exact ijm _ | rfl | exact (Int.toNat_of_nonneg (by omega)).symm)) (by omega)) ?_))
 | ((show SLl _ _ _ _ _ (⟨⟨_, .call ⟨.builtin .len, _, _⟩, _, _, _, _⟩, _, _⟩ :: _) _ _ _); refine SLl.rdTake rfl rfl (Rd.len rfl (by (first | exact Len.nil | (apply Len.row; (· (repeat (first | apply Sel.here | apply Sel.there | apply Upd.here | apply Upd.there)))) | (apply Len.rs; exact Rs.mono (by assumption) (by (repeat' (first | exact Ent.refl | exact Ent.drop | exact Ent.appR | apply Ent.skip))))))) ?_)
 | ((show SLl _ _ _ _ _ (⟨⟨_, .binOp _ _ _ _ _, _, _, _, _⟩, _, _⟩ :: _) _ _ _); (first
 | refine SLl.pu rfl rfl rfl (Pu.add rfl rfl (IntWalk.i64_in _ (by omega))) ?_
 | refine SLl.pu rfl rfl rfl (Pu.sub rfl rfl (IntWalk.i64_in _ (by omega))) ?_
 | (refine SLl.cmp rfl rfl rfl rfl rfl rfl ?_ ?_ <;> intro hq <;> simp only [cmpP] at hq <;> try (first
 | exact (hq trivial).elim
 | (exfalso; omega)))
 | refine SLl.pu rfl rfl rfl (Pu.eqNilT rfl rfl) ?_
 | refine SLl.pu rfl rfl rfl (Pu.neNilF rfl rfl) ?_
 | refine SLl.rdTake rfl rfl (Rd.eqNilF rfl rfl (by (first | exact Len.nil | (apply Len.row; (· (repeat (first | apply Sel.here | apply Sel.there | apply Upd.here | apply Upd.there)))) | (apply Len.rs; exact Rs.mono (by assumption) (by (repeat' (first | exact Ent.refl | exact Ent.drop | exact Ent.appR | apply Ent.skip)))))) (by assumption)) ?_
 | refine SLl.rdTake rfl rfl (Rd.neNilT rfl rfl (by (first | exact Len.nil | (apply Len.row; (· (repeat (first | apply Sel.here | apply Sel.there | apply Upd.here | apply Upd.there)))) | (apply Len.rs; exact Rs.mono (by assumption) (by (repeat' (first | exact Ent.refl | exact Ent.drop | exact Ent.appR | apply Ent.skip)))))) (by assumption)) ?_
 | refine SLl.pu rfl rfl rfl (Pu.eqPtrNil rfl rfl) ?_
 | refine SLl.pu rfl rfl rfl (Pu.eqBool rfl rfl) ?_
 | refine SLl.pu rfl rfl rfl (Pu.neBool rfl rfl) ?_))
 | ((show SLl _ _ _ _ _ (⟨⟨_, .store _ _ _, _, _, _, _⟩, _, _⟩ :: _) _ _ _); (first | (refine SLl.seq0 rfl (SLo.store rfl rfl rfl (by (first | exact One.lit rfl | exact One.lit (by assumption) | exact One.mono (by assumption) (by (repeat' (first | exact Ent.refl | exact Ent.drop | exact Ent.appR | apply Ent.skip))) | exact One.len (by (first | exact Len.nil | (apply Len.row; (· (repeat (first | apply Sel.here | apply Sel.there | apply Upd.here | apply Upd.there)))) | (apply Len.rs; exact Rs.mono (by assumption) (by (repeat' (first | exact Ent.refl | exact Ent.drop | exact Ent.appR | apply Ent.skip)))))))) (by (first | (apply Wr.blk; (· (repeat (first | apply Sel.here | apply Sel.there | apply Upd.here | apply Upd.there))); (· exact Nat.le_of_ble_eq_true rfl)) | (apply Wr.row; (· (first | rfl | assumption)); (· exact Nat.le_of_ble_eq_true rfl); (· (repeat (first | apply Sel.here | apply Sel.there | apply Upd.here | apply Upd.there)))))) ?_)) | (refine SLl.seq0 rfl (SLo.storeN rfl rfl rfl (by (repeat' (first | exact trivial | (apply And.intro; (· (first | exact One.lit rfl | exact One.lit (by assumption) | exact One.mono (by assumption) (by (repeat' (first | exact Ent.refl | exact Ent.drop | exact Ent.appR | apply Ent.skip))) | exact One.len (by (first | exact Len.nil | (apply Len.row; (· (repeat (first | apply Sel.here | apply Sel.there | apply Upd.here | apply Upd.there)))) | (apply Len.rs; exact Rs.mono (by assumption) (by (repeat' (first | exact Ent.refl | exact Ent.drop | exact Ent.appR | apply Ent.skip)))))))))))) (Nat.le_of_ble_eq_true rfl) (by (repeat (first | apply Sel.here | apply Sel.there | apply Upd.here | apply Upd.there))) ?_))))
 | ((show SLl _ _ _ _ _ (⟨⟨_, .box _ _, _, _, _, _⟩, _, _⟩ :: _) _ _ _); refine SLl.seq rfl rfl (SLo.boxC rfl (by (first | exact Cel.one (by (first | exact One.lit rfl | exact One.lit (by assumption) | exact One.mono (by assumption) (by (repeat' (first | exact Ent.refl | exact Ent.drop | exact Ent.appR | apply Ent.skip))) | exact One.len (by (first | exact Len.nil | (apply Len.row; (· (repeat (first | apply Sel.here | apply Sel.there | apply Upd.here | apply Upd.there)))) | (apply Len.rs; exact Rs.mono (by assumption) (by (repeat' (first | exact Ent.refl | exact Ent.drop | exact Ent.appR | apply Ent.skip)))))))) | exact Cel.agg)) ?_); intro b)
 | ((show SLl _ _ _ _ _ (⟨⟨_, .alloc _, _, _, _, _⟩, _, _⟩ :: _) _ _ _); refine SLl.seq rfl rfl (SLo.alloc ?_); intro b)
 | ((show SLl _ _ _ _ _ (⟨⟨_, .build _ _, _, _, _, _⟩, _, _⟩ :: _) _ _ _); first
 | refine SLl.rdTake rfl rfl (Rd.build rfl (by (repeat (first | exact CellsW.nil | (apply CellsW.cons; (· (first | exact Cel.one (by (first | exact One.lit rfl | exact One.lit (by assumption) | exact One.mono (by assumption) (by (repeat' (first | exact Ent.refl | exact Ent.drop | exact Ent.appR | apply Ent.skip))) | exact One.len (by (first | exact Len.nil | (apply Len.row; (· (repeat (first | apply Sel.here | apply Sel.there | apply Upd.here | apply Upd.there)))) | (apply Len.rs; exact Rs.mono (by assumption) (by (repeat' (first | exact Ent.refl | exact Ent.drop | exact Ent.appR | apply Ent.skip)))))))) | exact Cel.agg)))))) (by rfl)) ?_
 | refine SLl.pu rfl rfl rfl (Pu.build rfl rfl) ?_)
 | refine SLl.skip rfl rfl ?_))
 | (first
 | refine SLc.seq ?_
 | refine SLc.region rfl ?_
 | refine SLc.condT rfl ?_
 | refine SLc.condF rfl ?_
 | refine SLc.block ?_
 | refine SLc.skip ?_
 | refine SLc.exit ?_
 | refine SLc.ret ?_)))
          all_goals (repeat' (first
 | (first
 | refine SLl.nil ?_
 | ((show SLl _ _ _ _ _ (⟨⟨_, _, _, _, _, _⟩, _, _⟩ :: _) _ _ _); first
 | refine SLl.ev rfl rfl rfl rfl ?_
 | ((show SLl _ _ _ _ _ (⟨⟨_, .load _ _, _, _, _, _⟩, _, _⟩ :: _) _ _ _); (first | refine SLl.rdSeq rfl rfl (Rd.load rfl rfl (by (first | (apply Reads.blk; (· (repeat (first | apply Sel.here | apply Sel.there | apply Upd.here | apply Upd.there))); (· rfl)) | (apply Reads.row; (· (repeat (first | apply Sel.here | apply Sel.there | apply Upd.here | apply Upd.there))); (· (first | rfl | assumption)); (· rfl)) | (apply Reads.rs; (· exact Rs.mono (by assumption) (by (repeat' (first | exact Ent.refl | exact Ent.drop | exact Ent.appR | apply Ent.skip)))); (· (first | rfl | assumption)); (· rfl)) | exact Reads.mono (by assumption) (by (repeat' (first | exact Ent.refl | exact Ent.drop | exact Ent.appR | apply Ent.skip)))))) ?_ | refine SLl.rdSeq rfl rfl (Rd.loadN rfl rfl (by (first | exact ReadsN.mono (by assumption) (by (repeat' (first | exact Ent.refl | exact Ent.drop | exact Ent.appR | apply Ent.skip))) | (apply ReadsN.blk0; (· (repeat (first | apply Sel.here | apply Sel.there | apply Upd.here | apply Upd.there)))) | (apply ReadsN.row0; (· (repeat (first | apply Sel.here | apply Sel.there | apply Upd.here | apply Upd.there))); (· (first | rfl | assumption))) | (apply ReadsN.rs0; (· exact Rs.mono (by assumption) (by (repeat' (first | exact Ent.refl | exact Ent.drop | exact Ent.appR | apply Ent.skip)))); (· (first | rfl | assumption))))) (by rfl)) ?_))
 | ((show SLl _ _ _ _ _ (⟨⟨_, .fieldAddr _ _ _, _, _, _, _⟩, _, _⟩ :: _) _ _ _); (first | refine SLl.pu rfl rfl rfl (Pu.fieldAddr rfl) ?_ | refine SLl.rdSeq rfl rfl (Rd.fieldAddrEl rfl (by (first | exact Len.nil | (apply Len.row; (· (repeat (first | apply Sel.here | apply Sel.there | apply Upd.here | apply Upd.there)))) | (apply Len.rs; exact Rs.mono (by assumption) (by (repeat' (first | exact Ent.refl | exact Ent.drop | exact Ent.appR | apply Ent.skip)))))) (by omega)) ?_))
 | ((show SLl _ _ _ _ _ (⟨⟨_, .indexAddr _ _ _, _, _, _, _⟩, _, _⟩ :: _) _ _ _); (refine SLl.rdSeq rfl rfl (Rd.indexAddr rfl rfl (by (first | exact Len.nil | (apply Len.row; (· (repeat (first | apply Sel.here | apply Sel.there | apply Upd.here | apply Upd.there)))) | (apply Len.rs; exact Rs.mono (by assumption) (by (repeat' (first | exact Ent.refl | exact Ent.drop | exact Ent.appR | apply Ent.skip)))))) (by (first | exact ij0 | exact ij1 | exact ij2 | exact ij3 | exact ij4 | exact ij5 | exact ijs _ | exact ijm _ | rfl | exact (Int.toNat_of_nonneg (by omega)).symm)) (by omega)) ?_))
 | ((show SLl _ _ _ _ _ (⟨⟨_, .call ⟨.builtin .len, _, _⟩, _, _, _, _⟩, _, _⟩ :: _) _ _ _); refine SLl.rdSeq rfl rfl (Rd.len rfl (by (first | exact Len.nil | (apply Len.row; (· (repeat (first | apply Sel.here | apply Sel.there | apply Upd.here | apply Upd.there)))) | (apply Len.rs; exact Rs.mono (by assumption) (by (repeat' (first | exact Ent.refl | exact Ent.drop | exact Ent.appR | apply Ent.skip))))))) ?_)
 | ((show SLl _ _ _ _ _ (⟨⟨_, .binOp _ _ _ _ _, _, _, _, _⟩, _, _⟩ :: _) _ _ _); (first
 | refine SLl.pu rfl rfl rfl (Pu.add rfl rfl (IntWalk.i64_in _ (by omega))) ?_
 | refine SLl.pu rfl rfl rfl (Pu.sub rfl rfl (IntWalk.i64_in _ (by omega))) ?_
 | (refine SLl.cmp rfl rfl rfl rfl rfl rfl ?_ ?_ <;> intro hq <;> simp only [cmpP] at hq <;> try (first
 | exact (hq trivial).elim
 | (exfalso; omega)))
 | refine SLl.pu rfl rfl rfl (Pu.eqNilT rfl rfl) ?_
 | refine SLl.pu rfl rfl rfl (Pu.neNilF rfl rfl) ?_
 | refine SLl.rdSeq rfl rfl (Rd.eqNilF rfl rfl (by (first | exact Len.nil | (apply Len.row; (· (repeat (first | apply Sel.here | apply Sel.there | apply Upd.here | apply Upd.there)))) | (apply Len.rs; exact Rs.mono (by assumption) (by (repeat' (first | exact Ent.refl | exact Ent.drop | exact Ent.appR | apply Ent.skip)))))) (by assumption)) ?_
 | refine SLl.rdSeq rfl rfl (Rd.neNilT rfl rfl (by (first | exact Len.nil | (apply Len.row; (· (repeat (first | apply Sel.here | apply Sel.there | apply Upd.here | apply Upd.there)))) | (apply Len.rs; exact Rs.mono (by assumption) (by (repeat' (first | exact Ent.refl | exact Ent.drop | exact Ent.appR | apply Ent.skip)))))) (by assumption)) ?_
 | refine SLl.pu rfl rfl rfl (Pu.eqPtrNil rfl rfl) ?_
 | refine SLl.pu rfl rfl rfl (Pu.eqBool rfl rfl) ?_
 | refine SLl.pu rfl rfl rfl (Pu.neBool rfl rfl) ?_))
 | ((show SLl _ _ _ _ _ (⟨⟨_, .store _ _ _, _, _, _, _⟩, _, _⟩ :: _) _ _ _); (first | (refine SLl.seq0 rfl (SLo.store rfl rfl rfl (by (first | exact One.lit rfl | exact One.lit (by assumption) | exact One.mono (by assumption) (by (repeat' (first | exact Ent.refl | exact Ent.drop | exact Ent.appR | apply Ent.skip))) | exact One.len (by (first | exact Len.nil | (apply Len.row; (· (repeat (first | apply Sel.here | apply Sel.there | apply Upd.here | apply Upd.there)))) | (apply Len.rs; exact Rs.mono (by assumption) (by (repeat' (first | exact Ent.refl | exact Ent.drop | exact Ent.appR | apply Ent.skip)))))))) (by (first | (apply Wr.blk; (· (repeat (first | apply Sel.here | apply Sel.there | apply Upd.here | apply Upd.there))); (· exact Nat.le_of_ble_eq_true rfl)) | (apply Wr.row; (· (first | rfl | assumption)); (· exact Nat.le_of_ble_eq_true rfl); (· (repeat (first | apply Sel.here | apply Sel.there | apply Upd.here | apply Upd.there)))))) ?_)) | (refine SLl.seq0 rfl (SLo.storeN rfl rfl rfl (by (repeat' (first | exact trivial | (apply And.intro; (· (first | exact One.lit rfl | exact One.lit (by assumption) | exact One.mono (by assumption) (by (repeat' (first | exact Ent.refl | exact Ent.drop | exact Ent.appR | apply Ent.skip))) | exact One.len (by (first | exact Len.nil | (apply Len.row; (· (repeat (first | apply Sel.here | apply Sel.there | apply Upd.here | apply Upd.there)))) | (apply Len.rs; exact Rs.mono (by assumption) (by (repeat' (first | exact Ent.refl | exact Ent.drop | exact Ent.appR | apply Ent.skip)))))))))))) (Nat.le_of_ble_eq_true rfl) (by (repeat (first | apply Sel.here | apply Sel.there | apply Upd.here | apply Upd.there))) ?_))))
 | ((show SLl _ _ _ _ _ (⟨⟨_, .box _ _, _, _, _, _⟩, _, _⟩ :: _) _ _ _); refine SLl.seq rfl rfl (SLo.boxC rfl (by (first | exact Cel.one (by (first | exact One.lit rfl | exact One.lit (by assumption) | exact One.mono (by assumption) (by (repeat' (first | exact Ent.refl | exact Ent.drop | exact Ent.appR | apply Ent.skip))) | exact One.len (by (first | exact Len.nil | (apply Len.row; (· (repeat (first | apply Sel.here | apply Sel.there | apply Upd.here | apply Upd.there)))) | (apply Len.rs; exact Rs.mono (by assumption) (by (repeat' (first | exact Ent.refl | exact Ent.drop | exact Ent.appR | apply Ent.skip)))))))) | exact Cel.agg)) ?_); intro b)
 | ((show SLl _ _ _ _ _ (⟨⟨_, .alloc _, _, _, _, _⟩, _, _⟩ :: _) _ _ _); refine SLl.seq rfl rfl (SLo.alloc ?_); intro b)
 | ((show SLl _ _ _ _ _ (⟨⟨_, .build _ _, _, _, _, _⟩, _, _⟩ :: _) _ _ _); first
 | refine SLl.rdSeq rfl rfl (Rd.build rfl (by (repeat (first | exact CellsW.nil | (apply CellsW.cons; (· (first | exact Cel.one (by (first | exact One.lit rfl | exact One.lit (by assumption) | exact One.mono (by assumption) (by (repeat' (first | exact Ent.refl | exact Ent.drop | exact Ent.appR | apply Ent.skip))) | exact One.len (by (first | exact Len.nil | (apply Len.row; (· (repeat (first | apply Sel.here | apply Sel.there | apply Upd.here | apply Upd.there)))) | (apply Len.rs; exact Rs.mono (by assumption) (by (repeat' (first | exact Ent.refl | exact Ent.drop | exact Ent.appR | apply Ent.skip)))))))) | exact Cel.agg)))))) (by rfl)) ?_
 | refine SLl.pu rfl rfl rfl (Pu.build rfl rfl) ?_)
 | refine SLl.skip rfl rfl ?_))
 | (first
 | refine SLc.seq ?_
 | refine SLc.region rfl ?_
 | refine SLc.condT rfl ?_
 | refine SLc.condF rfl ?_
 | refine SLc.block ?_
 | refine SLc.skip ?_
 | refine SLc.exit ?_
 | refine SLc.ret ?_)))
          all_goals
            refine SLc.loop (ι := Nat) (fun k => [(11, .int .i64 ((k : Int) + 1)), (10, .int .i64 i), (9, .int .i64 ((insAll G R i : Nat))), (8, .int .i64 ((lens (U.take i) : Nat) + (u.length : Nat))), (7, cv), (6, uv), (5, rv), (2, .pointer (some ⟨b, 0, none⟩)), (1, .int .i64 rt)]) (fun _ => σ1) (fun k => k + 1 ≤ u.length ∨ k = 0) (fun k => u.length - k) 0 (.inr rfl) (by (repeat' (first | exact trivial | apply And.intro | rfl))) .refl ?_
            intro k hk
            by_cases hlk : k + 1 < u.length
            · exfalso; omega
            · (repeat' (first
 | (first
 | refine SLl.nil ?_
 | ((show SLl _ _ _ _ _ (⟨⟨_, _, _, _, _, _⟩, _, _⟩ :: _) _ _ _); first
 | refine SLl.ev rfl rfl rfl rfl ?_
 | ((show SLl _ _ _ _ _ (⟨⟨_, .load _ _, _, _, _, _⟩, _, _⟩ :: _) _ _ _); (first | refine SLl.rdSeq rfl rfl (Rd.load rfl rfl (by (first | (apply Reads.blk; (· (repeat (first | apply Sel.here | apply Sel.there | apply Upd.here | apply Upd.there))); (· rfl)) | (apply Reads.row; (· (repeat (first | apply Sel.here | apply Sel.there | apply Upd.here | apply Upd.there))); (· (first | rfl | assumption)); (· rfl)) | (apply Reads.rs; (· exact Rs.mono (by assumption) (by (repeat' (first | exact Ent.refl | exact Ent.drop | exact Ent.appR | apply Ent.skip)))); (· (first | rfl | assumption)); (· rfl)) | exact Reads.mono (by assumption) (by (repeat' (first | exact Ent.refl | exact Ent.drop | exact Ent.appR | apply Ent.skip)))))) ?_ | refine SLl.rdSeq rfl rfl (Rd.loadN rfl rfl (by (first | exact ReadsN.mono (by assumption) (by (repeat' (first | exact Ent.refl | exact Ent.drop | exact Ent.appR | apply Ent.skip))) | (apply ReadsN.blk0; (· (repeat (first | apply Sel.here | apply Sel.there | apply Upd.here | apply Upd.there)))) | (apply ReadsN.row0; (· (repeat (first | apply Sel.here | apply Sel.there | apply Upd.here | apply Upd.there))); (· (first | rfl | assumption))) | (apply ReadsN.rs0; (· exact Rs.mono (by assumption) (by (repeat' (first | exact Ent.refl | exact Ent.drop | exact Ent.appR | apply Ent.skip)))); (· (first | rfl | assumption))))) (by rfl)) ?_))
 | ((show SLl _ _ _ _ _ (⟨⟨_, .fieldAddr _ _ _, _, _, _, _⟩, _, _⟩ :: _) _ _ _); (first | refine SLl.pu rfl rfl rfl (Pu.fieldAddr rfl) ?_ | refine SLl.rdSeq rfl rfl (Rd.fieldAddrEl rfl (by (first | exact Len.nil | (apply Len.row; (· (repeat (first | apply Sel.here | apply Sel.there | apply Upd.here | apply Upd.there)))) | (apply Len.rs; exact Rs.mono (by assumption) (by (repeat' (first | exact Ent.refl | exact Ent.drop | exact Ent.appR | apply Ent.skip)))))) (by omega)) ?_))
 | ((show SLl _ _ _ _ _ (⟨⟨_, .indexAddr _ _ _, _, _, _, _⟩, _, _⟩ :: _) _ _ _); (refine SLl.rdSeq rfl rfl (Rd.indexAddr rfl rfl (by (first | exact Len.nil | (apply Len.row; (· (repeat (first | apply Sel.here | apply Sel.there | apply Upd.here | apply Upd.there)))) | (apply Len.rs; exact Rs.mono (by assumption) (by (repeat' (first | exact Ent.refl | exact Ent.drop | exact Ent.appR | apply Ent.skip)))))) (by (first | exact ij0 | exact ij1 | exact ij2 | exact ij3 | exact ij4 | exact ij5 | exact ijs _ | exact ijm _ | rfl | exact (Int.toNat_of_nonneg (by omega)).symm)) (by omega)) ?_))
 | ((show SLl _ _ _ _ _ (⟨⟨_, .call ⟨.builtin .len, _, _⟩, _, _, _, _⟩, _, _⟩ :: _) _ _ _); refine SLl.rdSeq rfl rfl (Rd.len rfl (by (first | exact Len.nil | (apply Len.row; (· (repeat (first | apply Sel.here | apply Sel.there | apply Upd.here | apply Upd.there)))) | (apply Len.rs; exact Rs.mono (by assumption) (by (repeat' (first | exact Ent.refl | exact Ent.drop | exact Ent.appR | apply Ent.skip))))))) ?_)
 | ((show SLl _ _ _ _ _ (⟨⟨_, .binOp _ _ _ _ _, _, _, _, _⟩, _, _⟩ :: _) _ _ _); (first
 | refine SLl.pu rfl rfl rfl (Pu.add rfl rfl (IntWalk.i64_in _ (by omega))) ?_
 | refine SLl.pu rfl rfl rfl (Pu.sub rfl rfl (IntWalk.i64_in _ (by omega))) ?_
 | (refine SLl.cmp rfl rfl rfl rfl rfl rfl ?_ ?_ <;> intro hq <;> simp only [cmpP] at hq <;> try (first
 | exact (hq trivial).elim
 | (exfalso; omega)))
 | refine SLl.pu rfl rfl rfl (Pu.eqNilT rfl rfl) ?_
 | refine SLl.pu rfl rfl rfl (Pu.neNilF rfl rfl) ?_
 | refine SLl.rdSeq rfl rfl (Rd.eqNilF rfl rfl (by (first | exact Len.nil | (apply Len.row; (· (repeat (first | apply Sel.here | apply Sel.there | apply Upd.here | apply Upd.there)))) | (apply Len.rs; exact Rs.mono (by assumption) (by (repeat' (first | exact Ent.refl | exact Ent.drop | exact Ent.appR | apply Ent.skip)))))) (by assumption)) ?_
 | refine SLl.rdSeq rfl rfl (Rd.neNilT rfl rfl (by (first | exact Len.nil | (apply Len.row; (· (repeat (first | apply Sel.here | apply Sel.there | apply Upd.here | apply Upd.there)))) | (apply Len.rs; exact Rs.mono (by assumption) (by (repeat' (first | exact Ent.refl | exact Ent.drop | exact Ent.appR | apply Ent.skip)))))) (by assumption)) ?_
 | refine SLl.pu rfl rfl rfl (Pu.eqPtrNil rfl rfl) ?_
 | refine SLl.pu rfl rfl rfl (Pu.eqBool rfl rfl) ?_
 | refine SLl.pu rfl rfl rfl (Pu.neBool rfl rfl) ?_))
 | ((show SLl _ _ _ _ _ (⟨⟨_, .store _ _ _, _, _, _, _⟩, _, _⟩ :: _) _ _ _); (first | (refine SLl.seq0 rfl (SLo.store rfl rfl rfl (by (first | exact One.lit rfl | exact One.lit (by assumption) | exact One.mono (by assumption) (by (repeat' (first | exact Ent.refl | exact Ent.drop | exact Ent.appR | apply Ent.skip))) | exact One.len (by (first | exact Len.nil | (apply Len.row; (· (repeat (first | apply Sel.here | apply Sel.there | apply Upd.here | apply Upd.there)))) | (apply Len.rs; exact Rs.mono (by assumption) (by (repeat' (first | exact Ent.refl | exact Ent.drop | exact Ent.appR | apply Ent.skip)))))))) (by (first | (apply Wr.blk; (· (repeat (first | apply Sel.here | apply Sel.there | apply Upd.here | apply Upd.there))); (· exact Nat.le_of_ble_eq_true rfl)) | (apply Wr.row; (· (first | rfl | assumption)); (· exact Nat.le_of_ble_eq_true rfl); (· (repeat (first | apply Sel.here | apply Sel.there | apply Upd.here | apply Upd.there)))))) ?_)) | (refine SLl.seq0 rfl (SLo.storeN rfl rfl rfl (by (repeat' (first | exact trivial | (apply And.intro; (· (first | exact One.lit rfl | exact One.lit (by assumption) | exact One.mono (by assumption) (by (repeat' (first | exact Ent.refl | exact Ent.drop | exact Ent.appR | apply Ent.skip))) | exact One.len (by (first | exact Len.nil | (apply Len.row; (· (repeat (first | apply Sel.here | apply Sel.there | apply Upd.here | apply Upd.there)))) | (apply Len.rs; exact Rs.mono (by assumption) (by (repeat' (first | exact Ent.refl | exact Ent.drop | exact Ent.appR | apply Ent.skip)))))))))))) (Nat.le_of_ble_eq_true rfl) (by (repeat (first | apply Sel.here | apply Sel.there | apply Upd.here | apply Upd.there))) ?_))))
 | ((show SLl _ _ _ _ _ (⟨⟨_, .box _ _, _, _, _, _⟩, _, _⟩ :: _) _ _ _); refine SLl.seq rfl rfl (SLo.boxC rfl (by (first | exact Cel.one (by (first | exact One.lit rfl | exact One.lit (by assumption) | exact One.mono (by assumption) (by (repeat' (first | exact Ent.refl | exact Ent.drop | exact Ent.appR | apply Ent.skip))) | exact One.len (by (first | exact Len.nil | (apply Len.row; (· (repeat (first | apply Sel.here | apply Sel.there | apply Upd.here | apply Upd.there)))) | (apply Len.rs; exact Rs.mono (by assumption) (by (repeat' (first | exact Ent.refl | exact Ent.drop | exact Ent.appR | apply Ent.skip)))))))) | exact Cel.agg)) ?_); intro b)
 | ((show SLl _ _ _ _ _ (⟨⟨_, .alloc _, _, _, _, _⟩, _, _⟩ :: _) _ _ _); refine SLl.seq rfl rfl (SLo.alloc ?_); intro b)
 | ((show SLl _ _ _ _ _ (⟨⟨_, .build _ _, _, _, _, _⟩, _, _⟩ :: _) _ _ _); first
 | refine SLl.rdSeq rfl rfl (Rd.build rfl (by (repeat (first | exact CellsW.nil | (apply CellsW.cons; (· (first | exact Cel.one (by (first | exact One.lit rfl | exact One.lit (by assumption) | exact One.mono (by assumption) (by (repeat' (first | exact Ent.refl | exact Ent.drop | exact Ent.appR | apply Ent.skip))) | exact One.len (by (first | exact Len.nil | (apply Len.row; (· (repeat (first | apply Sel.here | apply Sel.there | apply Upd.here | apply Upd.there)))) | (apply Len.rs; exact Rs.mono (by assumption) (by (repeat' (first | exact Ent.refl | exact Ent.drop | exact Ent.appR | apply Ent.skip)))))))) | exact Cel.agg)))))) (by rfl)) ?_
 | refine SLl.pu rfl rfl rfl (Pu.build rfl rfl) ?_)
 | refine SLl.skip rfl rfl ?_))
 | (first
 | refine SLc.seq ?_
 | refine SLc.region rfl ?_
 | refine SLc.condT rfl ?_
 | refine SLc.condF rfl ?_
 | refine SLc.block ?_
 | refine SLc.skip ?_
 | refine SLc.exit ?_
 | refine SLc.ret ?_)))
              refine And.intro rfl (Exists.intro (i + 1) (And.intro (by omega) (And.intro (by omega) (And.intro ?_ .refl))))
              exact ⟨rfl, congrArg (fun q : Int => some (Value.int .i64 q)) (by rw [hstep] <;> omega), congrArg (fun q : Int => some (Value.int .i64 q)) (by rw [hlt2] <;> omega), rfl, rfl, rfl, rfl, rfl, trivial⟩
      · have hiG : i = G.length := by omega
        have htk : U.take i = U := List.take_of_length_le (by omega)
        have hfin : ((lens (U.take i) : Nat) : Int) = ((insAll G R i : Nat) : Int) := by rw [htk, hiG, hsum]
        (repeat' (first
 | (first
 | refine SLl.nil ?_
 | ((show SLl _ _ _ _ _ (⟨⟨_, _, _, _, _, _⟩, _, _⟩ :: _) _ _ _); first
 | refine SLl.ev rfl rfl rfl rfl ?_
 | ((show SLl _ _ _ _ _ (⟨⟨_, .load _ _, _, _, _, _⟩, _, _⟩ :: _) _ _ _); (first | refine SLl.rdSeq rfl rfl (Rd.load rfl rfl (by (first | (apply Reads.blk; (· (repeat (first | apply Sel.here | apply Sel.there | apply Upd.here | apply Upd.there))); (· rfl)) | (apply Reads.row; (· (repeat (first | apply Sel.here | apply Sel.there | apply Upd.here | apply Upd.there))); (· (first | rfl | assumption)); (· rfl)) | (apply Reads.rs; (· exact Rs.mono (by assumption) (by (repeat' (first | exact Ent.refl | exact Ent.drop | exact Ent.appR | apply Ent.skip)))); (· (first | rfl | assumption)); (· rfl)) | exact Reads.mono (by assumption) (by (repeat' (first | exact Ent.refl | exact Ent.drop | exact Ent.appR | apply Ent.skip)))))) ?_ | refine SLl.rdSeq rfl rfl (Rd.loadN rfl rfl (by (first | exact ReadsN.mono (by assumption) (by (repeat' (first | exact Ent.refl | exact Ent.drop | exact Ent.appR | apply Ent.skip))) | (apply ReadsN.blk0; (· (repeat (first | apply Sel.here | apply Sel.there | apply Upd.here | apply Upd.there)))) | (apply ReadsN.row0; (· (repeat (first | apply Sel.here | apply Sel.there | apply Upd.here | apply Upd.there))); (· (first | rfl | assumption))) | (apply ReadsN.rs0; (· exact Rs.mono (by assumption) (by (repeat' (first | exact Ent.refl | exact Ent.drop | exact Ent.appR | apply Ent.skip)))); (· (first | rfl | assumption))))) (by rfl)) ?_))
 | ((show SLl _ _ _ _ _ (⟨⟨_, .fieldAddr _ _ _, _, _, _, _⟩, _, _⟩ :: _) _ _ _); (first | refine SLl.pu rfl rfl rfl (Pu.fieldAddr rfl) ?_ | refine SLl.rdSeq rfl rfl (Rd.fieldAddrEl rfl (by (first | exact Len.nil | (apply Len.row; (· (repeat (first | apply Sel.here | apply Sel.there | apply Upd.here | apply Upd.there)))) | (apply Len.rs; exact Rs.mono (by assumption) (by (repeat' (first | exact Ent.refl | exact Ent.drop | exact Ent.appR | apply Ent.skip)))))) (by omega)) ?_))
 | ((show SLl _ _ _ _ _ (⟨⟨_, .indexAddr _ _ _, _, _, _, _⟩, _, _⟩ :: _) _ _ _); (refine SLl.rdSeq rfl rfl (Rd.indexAddr rfl rfl (by (first | exact Len.nil | (apply Len.row; (· (repeat (first | apply Sel.here | apply Sel.there | apply Upd.here | apply Upd.there)))) | (apply Len.rs; exact Rs.mono (by assumption) (by (repeat' (first | exact Ent.refl | exact Ent.drop | exact Ent.appR | apply Ent.skip)))))) (by (first | exact ij0 | exact ij1 | exact ij2 | exact ij3 | exact ij4 | exact ij5 | exact ijs _ | exact ijm _ | rfl | exact (Int.toNat_of_nonneg (by omega)).symm)) (by omega)) ?_))
 | ((show SLl _ _ _ _ _ (⟨⟨_, .call ⟨.builtin .len, _, _⟩, _, _, _, _⟩, _, _⟩ :: _) _ _ _); refine SLl.rdSeq rfl rfl (Rd.len rfl (by (first | exact Len.nil | (apply Len.row; (· (repeat (first | apply Sel.here | apply Sel.there | apply Upd.here | apply Upd.there)))) | (apply Len.rs; exact Rs.mono (by assumption) (by (repeat' (first | exact Ent.refl | exact Ent.drop | exact Ent.appR | apply Ent.skip))))))) ?_)
 | ((show SLl _ _ _ _ _ (⟨⟨_, .binOp _ _ _ _ _, _, _, _, _⟩, _, _⟩ :: _) _ _ _); (first
 | refine SLl.pu rfl rfl rfl (Pu.add rfl rfl (IntWalk.i64_in _ (by omega))) ?_
 | refine SLl.pu rfl rfl rfl (Pu.sub rfl rfl (IntWalk.i64_in _ (by omega))) ?_
 | (refine SLl.cmp rfl rfl rfl rfl rfl rfl ?_ ?_ <;> intro hq <;> simp only [cmpP] at hq <;> try (first
 | exact (hq trivial).elim
 | (exfalso; omega)))
 | refine SLl.pu rfl rfl rfl (Pu.eqNilT rfl rfl) ?_
 | refine SLl.pu rfl rfl rfl (Pu.neNilF rfl rfl) ?_
 | refine SLl.rdSeq rfl rfl (Rd.eqNilF rfl rfl (by (first | exact Len.nil | (apply Len.row; (· (repeat (first | apply Sel.here | apply Sel.there | apply Upd.here | apply Upd.there)))) | (apply Len.rs; exact Rs.mono (by assumption) (by (repeat' (first | exact Ent.refl | exact Ent.drop | exact Ent.appR | apply Ent.skip)))))) (by assumption)) ?_
 | refine SLl.rdSeq rfl rfl (Rd.neNilT rfl rfl (by (first | exact Len.nil | (apply Len.row; (· (repeat (first | apply Sel.here | apply Sel.there | apply Upd.here | apply Upd.there)))) | (apply Len.rs; exact Rs.mono (by assumption) (by (repeat' (first | exact Ent.refl | exact Ent.drop | exact Ent.appR | apply Ent.skip)))))) (by assumption)) ?_
 | refine SLl.pu rfl rfl rfl (Pu.eqPtrNil rfl rfl) ?_
 | refine SLl.pu rfl rfl rfl (Pu.eqBool rfl rfl) ?_
 | refine SLl.pu rfl rfl rfl (Pu.neBool rfl rfl) ?_))
 | ((show SLl _ _ _ _ _ (⟨⟨_, .store _ _ _, _, _, _, _⟩, _, _⟩ :: _) _ _ _); (first | (refine SLl.seq0 rfl (SLo.store rfl rfl rfl (by (first | exact One.lit rfl | exact One.lit (by assumption) | exact One.mono (by assumption) (by (repeat' (first | exact Ent.refl | exact Ent.drop | exact Ent.appR | apply Ent.skip))) | exact One.len (by (first | exact Len.nil | (apply Len.row; (· (repeat (first | apply Sel.here | apply Sel.there | apply Upd.here | apply Upd.there)))) | (apply Len.rs; exact Rs.mono (by assumption) (by (repeat' (first | exact Ent.refl | exact Ent.drop | exact Ent.appR | apply Ent.skip)))))))) (by (first | (apply Wr.blk; (· (repeat (first | apply Sel.here | apply Sel.there | apply Upd.here | apply Upd.there))); (· exact Nat.le_of_ble_eq_true rfl)) | (apply Wr.row; (· (first | rfl | assumption)); (· exact Nat.le_of_ble_eq_true rfl); (· (repeat (first | apply Sel.here | apply Sel.there | apply Upd.here | apply Upd.there)))))) ?_)) | (refine SLl.seq0 rfl (SLo.storeN rfl rfl rfl (by (repeat' (first | exact trivial | (apply And.intro; (· (first | exact One.lit rfl | exact One.lit (by assumption) | exact One.mono (by assumption) (by (repeat' (first | exact Ent.refl | exact Ent.drop | exact Ent.appR | apply Ent.skip))) | exact One.len (by (first | exact Len.nil | (apply Len.row; (· (repeat (first | apply Sel.here | apply Sel.there | apply Upd.here | apply Upd.there)))) | (apply Len.rs; exact Rs.mono (by assumption) (by (repeat' (first | exact Ent.refl | exact Ent.drop | exact Ent.appR | apply Ent.skip)))))))))))) (Nat.le_of_ble_eq_true rfl) (by (repeat (first | apply Sel.here | apply Sel.there | apply Upd.here | apply Upd.there))) ?_))))
 | ((show SLl _ _ _ _ _ (⟨⟨_, .box _ _, _, _, _, _⟩, _, _⟩ :: _) _ _ _); refine SLl.seq rfl rfl (SLo.boxC rfl (by (first | exact Cel.one (by (first | exact One.lit rfl | exact One.lit (by assumption) | exact One.mono (by assumption) (by (repeat' (first | exact Ent.refl | exact Ent.drop | exact Ent.appR | apply Ent.skip))) | exact One.len (by (first | exact Len.nil | (apply Len.row; (· (repeat (first | apply Sel.here | apply Sel.there | apply Upd.here | apply Upd.there)))) | (apply Len.rs; exact Rs.mono (by assumption) (by (repeat' (first | exact Ent.refl | exact Ent.drop | exact Ent.appR | apply Ent.skip)))))))) | exact Cel.agg)) ?_); intro b)
 | ((show SLl _ _ _ _ _ (⟨⟨_, .alloc _, _, _, _, _⟩, _, _⟩ :: _) _ _ _); refine SLl.seq rfl rfl (SLo.alloc ?_); intro b)
 | ((show SLl _ _ _ _ _ (⟨⟨_, .build _ _, _, _, _, _⟩, _, _⟩ :: _) _ _ _); first
 | refine SLl.rdSeq rfl rfl (Rd.build rfl (by (repeat (first | exact CellsW.nil | (apply CellsW.cons; (· (first | exact Cel.one (by (first | exact One.lit rfl | exact One.lit (by assumption) | exact One.mono (by assumption) (by (repeat' (first | exact Ent.refl | exact Ent.drop | exact Ent.appR | apply Ent.skip))) | exact One.len (by (first | exact Len.nil | (apply Len.row; (· (repeat (first | apply Sel.here | apply Sel.there | apply Upd.here | apply Upd.there)))) | (apply Len.rs; exact Rs.mono (by assumption) (by (repeat' (first | exact Ent.refl | exact Ent.drop | exact Ent.appR | apply Ent.skip)))))))) | exact Cel.agg)))))) (by rfl)) ?_
 | refine SLl.pu rfl rfl rfl (Pu.build rfl rfl) ?_)
 | refine SLl.skip rfl rfl ?_))
 | (first
 | refine SLc.seq ?_
 | refine SLc.region rfl ?_
 | refine SLc.condT rfl ?_
 | refine SLc.condF rfl ?_
 | refine SLc.block ?_
 | refine SLc.skip ?_
 | refine SLc.exit ?_
 | refine SLc.ret ?_)))
        refine And.intro rfl (Exists.intro _ (Exists.intro _ (And.intro rfl (And.intro .drop rfl))))
end Go.Sl
