/- backstitchlaw11.ReachTells: the walk. -/
import Derived.Test.YtloeicnadchkpaaLaw11d
import Derived.Test.YtloeicnadchkpaaSL9
import Derived.Test.YtloeicnadchkpaaReachLaw2
namespace Go.Sl
open Go.Proofs
attribute [local irreducible] SLc SLl SLo SLf Pu Rd

theorem usesV_at {u : Uses} {k : Nat} {x : Int × Int} (h : u[k]? = some x) : (usesV u)[k]? = some [.int .i64 x.1, .int .i64 x.2] := by simp [usesV, h]
theorem at_of_map {ps : UPairs} {us : List Uses} (h : ps.map (·.2) = us) {i : Nat} {u : Uses} (hu : us[i]? = some u) : ∃ v, ps[i]? = some (v, u) := by
  subst h
  rw [List.getElem?_map] at hu
  cases hp : ps[i]? with
  | none => simp [hp] at hu
  | some p => simp [hp] at hu; exact ⟨p.1, by rw [← hu]⟩
theorem len_of_map {ps : UPairs} {us : List Uses} (h : ps.map (·.2) = us) : ps.length = us.length := by subst h; simp
theorem bools_one {l : List Bool} : ∀ c ∈ bools l, c.length = 1 := fun c hc => by obtain ⟨x, _, rfl⟩ := List.mem_map.1 hc; rfl
theorem ints_one {l : List Int} : ∀ c ∈ ints l, c.length = 1 := fun c hc => by obtain ⟨x, _, rfl⟩ := List.mem_map.1 hc; rfl
theorem uvals_one {l : UPairs} : ∀ c ∈ uvals l, c.length = 1 := fun c hc => by obtain ⟨x, _, rfl⟩ := List.mem_map.1 hc; rfl
theorem usesV_two {l : Uses} : ∀ c ∈ usesV l, c.length = 2 := fun c hc => by obtain ⟨x, _, rfl⟩ := List.mem_map.1 hc; rfl
set_option maxHeartbeats 1000000 in
theorem Tells11 (W : World) (sl : Value) (G : List Node) (root : Int) (hx : GraphX W sl G) : SLf Try.prog W 3 [.agg #[sl], .int .i64 root] [] (fun v _ => v = .bool true) := by
  have hone : One W [] sl := One.lit hx.one
  refine SLf.enter Try.func3 rfl (Nat.le_of_ble_eq_true rfl) ?_
  (repeat' (first
 | (first
 | refine SLl.nil ?_
 | ((show SLl _ _ _ _ _ (⟨⟨_, _, _, _, _, _⟩, _, _⟩ :: _) _ _ _); first
 | refine SLl.ev rfl rfl rfl rfl ?_
 | ((show SLl _ _ _ _ _ (⟨⟨_, .load _ _, _, _, _, _⟩, _, _⟩ :: _) _ _ _); (first | refine SLl.rdSeq rfl rfl (Rd.load rfl rfl (by (first | (apply Reads.blk; (· (repeat (first | apply Sel.here | apply Sel.there | apply Upd.here | apply Upd.there))); (· rfl)) | (apply Reads.row; (· (repeat (first | apply Sel.here | apply Sel.there | apply Upd.here | apply Upd.there))); (· (first | rfl | assumption)); (· rfl)) | (apply Reads.rs; (· exact Rs.mono (by assumption) (by (repeat' (first | exact Ent.refl | exact Ent.appR | apply Ent.skip)))); (· (first | rfl | assumption)); (· rfl))))) ?_ | refine SLl.rdSeq rfl rfl (Rd.loadN rfl rfl (by (first | exact ReadsN.mono (by assumption) (by (repeat' (first | exact Ent.refl | exact Ent.appR | apply Ent.skip))) | (apply ReadsN.blk0; (· (repeat (first | apply Sel.here | apply Sel.there | apply Upd.here | apply Upd.there)))) | (apply ReadsN.row0; (· (repeat (first | apply Sel.here | apply Sel.there | apply Upd.here | apply Upd.there))); (· (first | rfl | assumption))) | (apply ReadsN.rs0; (· exact Rs.mono (by assumption) (by (repeat' (first | exact Ent.refl | exact Ent.appR | apply Ent.skip)))); (· (first | rfl | assumption))))) (by rfl)) ?_))
 | ((show SLl _ _ _ _ _ (⟨⟨_, .fieldAddr _ _ _, _, _, _, _⟩, _, _⟩ :: _) _ _ _); (first | refine SLl.pu rfl rfl rfl (Pu.fieldAddr rfl) ?_ | refine SLl.rdSeq rfl rfl (Rd.fieldAddrEl rfl (by (first | exact Len.nil | (apply Len.row; (· (repeat (first | apply Sel.here | apply Sel.there | apply Upd.here | apply Upd.there)))) | (apply Len.rs; exact Rs.mono (by assumption) (by (repeat' (first | exact Ent.refl | exact Ent.appR | apply Ent.skip)))))) (by omega)) ?_))
 | ((show SLl _ _ _ _ _ (⟨⟨_, .indexAddr _ _ _, _, _, _, _⟩, _, _⟩ :: _) _ _ _); (refine SLl.rdSeq rfl rfl (Rd.indexAddr rfl rfl (by (first | exact Len.nil | (apply Len.row; (· (repeat (first | apply Sel.here | apply Sel.there | apply Upd.here | apply Upd.there)))) | (apply Len.rs; exact Rs.mono (by assumption) (by (repeat' (first | exact Ent.refl | exact Ent.appR | apply Ent.skip)))))) (by (first | exact ij0 | exact ij1 | exact ij2 | exact ij3 | exact ij4 | exact ij5 | rfl | exact (Int.toNat_of_nonneg (by omega)).symm)) (by omega)) ?_))
 | ((show SLl _ _ _ _ _ (⟨⟨_, .call ⟨.builtin .len, _, _⟩, _, _, _, _⟩, _, _⟩ :: _) _ _ _); refine SLl.rdSeq rfl rfl (Rd.len rfl (by (first | exact Len.nil | (apply Len.row; (· (repeat (first | apply Sel.here | apply Sel.there | apply Upd.here | apply Upd.there)))) | (apply Len.rs; exact Rs.mono (by assumption) (by (repeat' (first | exact Ent.refl | exact Ent.appR | apply Ent.skip))))))) ?_)
 | ((show SLl _ _ _ _ _ (⟨⟨_, .binOp _ _ _ _ _, _, _, _, _⟩, _, _⟩ :: _) _ _ _); (first
 | refine SLl.pu rfl rfl rfl (Pu.add rfl rfl (IntWalk.i64_in _ (by omega))) ?_
 | refine SLl.pu rfl rfl rfl (Pu.sub rfl rfl (IntWalk.i64_in _ (by omega))) ?_
 | (refine SLl.cmp rfl rfl rfl rfl rfl rfl ?_ ?_ <;> intro hq <;> simp only [cmpP] at hq <;> try (first
 | exact (hq trivial).elim
 | (exfalso; omega)))
 | refine SLl.pu rfl rfl rfl (Pu.eqNilT rfl rfl) ?_
 | refine SLl.pu rfl rfl rfl (Pu.neNilF rfl rfl) ?_
 | refine SLl.rdSeq rfl rfl (Rd.eqNilF rfl rfl (by (first | exact Len.nil | (apply Len.row; (· (repeat (first | apply Sel.here | apply Sel.there | apply Upd.here | apply Upd.there)))) | (apply Len.rs; exact Rs.mono (by assumption) (by (repeat' (first | exact Ent.refl | exact Ent.appR | apply Ent.skip)))))) (by assumption)) ?_
 | refine SLl.rdSeq rfl rfl (Rd.neNilT rfl rfl (by (first | exact Len.nil | (apply Len.row; (· (repeat (first | apply Sel.here | apply Sel.there | apply Upd.here | apply Upd.there)))) | (apply Len.rs; exact Rs.mono (by assumption) (by (repeat' (first | exact Ent.refl | exact Ent.appR | apply Ent.skip)))))) (by assumption)) ?_
 | refine SLl.pu rfl rfl rfl (Pu.eqPtrNil rfl rfl) ?_
 | refine SLl.pu rfl rfl rfl (Pu.eqBool rfl rfl) ?_
 | refine SLl.pu rfl rfl rfl (Pu.neBool rfl rfl) ?_))
 | ((show SLl _ _ _ _ _ (⟨⟨_, .store _ _ _, _, _, _, _⟩, _, _⟩ :: _) _ _ _); (first | (refine SLl.seq0 rfl (SLo.store rfl rfl rfl (by (first | exact One.lit rfl | exact One.lit (by assumption) | exact One.mono (by assumption) (by (repeat' (first | exact Ent.refl | exact Ent.appR | apply Ent.skip))) | exact One.len (by (first | exact Len.nil | (apply Len.row; (· (repeat (first | apply Sel.here | apply Sel.there | apply Upd.here | apply Upd.there)))) | (apply Len.rs; exact Rs.mono (by assumption) (by (repeat' (first | exact Ent.refl | exact Ent.appR | apply Ent.skip)))))))) (by (first | (apply Wr.blk; (· (repeat (first | apply Sel.here | apply Sel.there | apply Upd.here | apply Upd.there))); (· exact Nat.le_of_ble_eq_true rfl)) | (apply Wr.row; (· (first | rfl | assumption)); (· exact Nat.le_of_ble_eq_true rfl); (· (repeat (first | apply Sel.here | apply Sel.there | apply Upd.here | apply Upd.there)))))) ?_)) | (refine SLl.seq0 rfl (SLo.storeN rfl rfl rfl (by (repeat' (first | exact trivial | (apply And.intro; (· (first | exact One.lit rfl | exact One.lit (by assumption) | exact One.mono (by assumption) (by (repeat' (first | exact Ent.refl | exact Ent.appR | apply Ent.skip))) | exact One.len (by (first | exact Len.nil | (apply Len.row; (· (repeat (first | apply Sel.here | apply Sel.there | apply Upd.here | apply Upd.there)))) | (apply Len.rs; exact Rs.mono (by assumption) (by (repeat' (first | exact Ent.refl | exact Ent.appR | apply Ent.skip)))))))))))) (Nat.le_of_ble_eq_true rfl) (by (repeat (first | apply Sel.here | apply Sel.there | apply Upd.here | apply Upd.there))) ?_))))
 | ((show SLl _ _ _ _ _ (⟨⟨_, .box _ _, _, _, _, _⟩, _, _⟩ :: _) _ _ _); refine SLl.seq rfl rfl (SLo.boxC rfl (by (first | exact Cel.one (by (first | exact One.lit rfl | exact One.lit (by assumption) | exact One.mono (by assumption) (by (repeat' (first | exact Ent.refl | exact Ent.appR | apply Ent.skip))) | exact One.len (by (first | exact Len.nil | (apply Len.row; (· (repeat (first | apply Sel.here | apply Sel.there | apply Upd.here | apply Upd.there)))) | (apply Len.rs; exact Rs.mono (by assumption) (by (repeat' (first | exact Ent.refl | exact Ent.appR | apply Ent.skip)))))))) | exact Cel.agg)) ?_); intro b)
 | ((show SLl _ _ _ _ _ (⟨⟨_, .alloc _, _, _, _, _⟩, _, _⟩ :: _) _ _ _); refine SLl.seq rfl rfl (SLo.alloc ?_); intro b)
 | ((show SLl _ _ _ _ _ (⟨⟨_, .build _ _, _, _, _, _⟩, _, _⟩ :: _) _ _ _); first
 | refine SLl.rdSeq rfl rfl (Rd.build rfl (by (repeat (first | exact CellsW.nil | (apply CellsW.cons; (· (first | exact Cel.one (by (first | exact One.lit rfl | exact One.lit (by assumption) | exact One.mono (by assumption) (by (repeat' (first | exact Ent.refl | exact Ent.appR | apply Ent.skip))) | exact One.len (by (first | exact Len.nil | (apply Len.row; (· (repeat (first | apply Sel.here | apply Sel.there | apply Upd.here | apply Upd.there)))) | (apply Len.rs; exact Rs.mono (by assumption) (by (repeat' (first | exact Ent.refl | exact Ent.appR | apply Ent.skip)))))))) | exact Cel.agg)))))) (by rfl)) ?_
 | refine SLl.pu rfl rfl rfl (Pu.build rfl rfl) ?_)
 | refine SLl.skip rfl rfl ?_))
 | (first
 | refine SLc.seq ?_
 | refine SLc.region rfl ?_
 | refine SLc.condT rfl ?_
 | refine SLc.condF rfl ?_
 | refine SLc.block ?_
 | refine SLc.skip ?_
 | refine SLc.exit ?_
 | refine SLc.ret ?_)))
  refine SLl.seq rfl rfl (SLo.call plain27 rfl (SLf.mono (Awake11 W _) ?_))
  rintro v σ ⟨rfl, rfl⟩
  (repeat' (first
 | (first
 | refine SLl.nil ?_
 | ((show SLl _ _ _ _ _ (⟨⟨_, _, _, _, _, _⟩, _, _⟩ :: _) _ _ _); first
 | refine SLl.ev rfl rfl rfl rfl ?_
 | ((show SLl _ _ _ _ _ (⟨⟨_, .load _ _, _, _, _, _⟩, _, _⟩ :: _) _ _ _); (first | refine SLl.rdSeq rfl rfl (Rd.load rfl rfl (by (first | (apply Reads.blk; (· (repeat (first | apply Sel.here | apply Sel.there | apply Upd.here | apply Upd.there))); (· rfl)) | (apply Reads.row; (· (repeat (first | apply Sel.here | apply Sel.there | apply Upd.here | apply Upd.there))); (· (first | rfl | assumption)); (· rfl)) | (apply Reads.rs; (· exact Rs.mono (by assumption) (by (repeat' (first | exact Ent.refl | exact Ent.appR | apply Ent.skip)))); (· (first | rfl | assumption)); (· rfl))))) ?_ | refine SLl.rdSeq rfl rfl (Rd.loadN rfl rfl (by (first | exact ReadsN.mono (by assumption) (by (repeat' (first | exact Ent.refl | exact Ent.appR | apply Ent.skip))) | (apply ReadsN.blk0; (· (repeat (first | apply Sel.here | apply Sel.there | apply Upd.here | apply Upd.there)))) | (apply ReadsN.row0; (· (repeat (first | apply Sel.here | apply Sel.there | apply Upd.here | apply Upd.there))); (· (first | rfl | assumption))) | (apply ReadsN.rs0; (· exact Rs.mono (by assumption) (by (repeat' (first | exact Ent.refl | exact Ent.appR | apply Ent.skip)))); (· (first | rfl | assumption))))) (by rfl)) ?_))
 | ((show SLl _ _ _ _ _ (⟨⟨_, .fieldAddr _ _ _, _, _, _, _⟩, _, _⟩ :: _) _ _ _); (first | refine SLl.pu rfl rfl rfl (Pu.fieldAddr rfl) ?_ | refine SLl.rdSeq rfl rfl (Rd.fieldAddrEl rfl (by (first | exact Len.nil | (apply Len.row; (· (repeat (first | apply Sel.here | apply Sel.there | apply Upd.here | apply Upd.there)))) | (apply Len.rs; exact Rs.mono (by assumption) (by (repeat' (first | exact Ent.refl | exact Ent.appR | apply Ent.skip)))))) (by omega)) ?_))
 | ((show SLl _ _ _ _ _ (⟨⟨_, .indexAddr _ _ _, _, _, _, _⟩, _, _⟩ :: _) _ _ _); (refine SLl.rdSeq rfl rfl (Rd.indexAddr rfl rfl (by (first | exact Len.nil | (apply Len.row; (· (repeat (first | apply Sel.here | apply Sel.there | apply Upd.here | apply Upd.there)))) | (apply Len.rs; exact Rs.mono (by assumption) (by (repeat' (first | exact Ent.refl | exact Ent.appR | apply Ent.skip)))))) (by (first | exact ij0 | exact ij1 | exact ij2 | exact ij3 | exact ij4 | exact ij5 | rfl | exact (Int.toNat_of_nonneg (by omega)).symm)) (by omega)) ?_))
 | ((show SLl _ _ _ _ _ (⟨⟨_, .call ⟨.builtin .len, _, _⟩, _, _, _, _⟩, _, _⟩ :: _) _ _ _); refine SLl.rdSeq rfl rfl (Rd.len rfl (by (first | exact Len.nil | (apply Len.row; (· (repeat (first | apply Sel.here | apply Sel.there | apply Upd.here | apply Upd.there)))) | (apply Len.rs; exact Rs.mono (by assumption) (by (repeat' (first | exact Ent.refl | exact Ent.appR | apply Ent.skip))))))) ?_)
 | ((show SLl _ _ _ _ _ (⟨⟨_, .binOp _ _ _ _ _, _, _, _, _⟩, _, _⟩ :: _) _ _ _); (first
 | refine SLl.pu rfl rfl rfl (Pu.add rfl rfl (IntWalk.i64_in _ (by omega))) ?_
 | refine SLl.pu rfl rfl rfl (Pu.sub rfl rfl (IntWalk.i64_in _ (by omega))) ?_
 | (refine SLl.cmp rfl rfl rfl rfl rfl rfl ?_ ?_ <;> intro hq <;> simp only [cmpP] at hq <;> try (first
 | exact (hq trivial).elim
 | (exfalso; omega)))
 | refine SLl.pu rfl rfl rfl (Pu.eqNilT rfl rfl) ?_
 | refine SLl.pu rfl rfl rfl (Pu.neNilF rfl rfl) ?_
 | refine SLl.rdSeq rfl rfl (Rd.eqNilF rfl rfl (by (first | exact Len.nil | (apply Len.row; (· (repeat (first | apply Sel.here | apply Sel.there | apply Upd.here | apply Upd.there)))) | (apply Len.rs; exact Rs.mono (by assumption) (by (repeat' (first | exact Ent.refl | exact Ent.appR | apply Ent.skip)))))) (by assumption)) ?_
 | refine SLl.rdSeq rfl rfl (Rd.neNilT rfl rfl (by (first | exact Len.nil | (apply Len.row; (· (repeat (first | apply Sel.here | apply Sel.there | apply Upd.here | apply Upd.there)))) | (apply Len.rs; exact Rs.mono (by assumption) (by (repeat' (first | exact Ent.refl | exact Ent.appR | apply Ent.skip)))))) (by assumption)) ?_
 | refine SLl.pu rfl rfl rfl (Pu.eqPtrNil rfl rfl) ?_
 | refine SLl.pu rfl rfl rfl (Pu.eqBool rfl rfl) ?_
 | refine SLl.pu rfl rfl rfl (Pu.neBool rfl rfl) ?_))
 | ((show SLl _ _ _ _ _ (⟨⟨_, .store _ _ _, _, _, _, _⟩, _, _⟩ :: _) _ _ _); (first | (refine SLl.seq0 rfl (SLo.store rfl rfl rfl (by (first | exact One.lit rfl | exact One.lit (by assumption) | exact One.mono (by assumption) (by (repeat' (first | exact Ent.refl | exact Ent.appR | apply Ent.skip))) | exact One.len (by (first | exact Len.nil | (apply Len.row; (· (repeat (first | apply Sel.here | apply Sel.there | apply Upd.here | apply Upd.there)))) | (apply Len.rs; exact Rs.mono (by assumption) (by (repeat' (first | exact Ent.refl | exact Ent.appR | apply Ent.skip)))))))) (by (first | (apply Wr.blk; (· (repeat (first | apply Sel.here | apply Sel.there | apply Upd.here | apply Upd.there))); (· exact Nat.le_of_ble_eq_true rfl)) | (apply Wr.row; (· (first | rfl | assumption)); (· exact Nat.le_of_ble_eq_true rfl); (· (repeat (first | apply Sel.here | apply Sel.there | apply Upd.here | apply Upd.there)))))) ?_)) | (refine SLl.seq0 rfl (SLo.storeN rfl rfl rfl (by (repeat' (first | exact trivial | (apply And.intro; (· (first | exact One.lit rfl | exact One.lit (by assumption) | exact One.mono (by assumption) (by (repeat' (first | exact Ent.refl | exact Ent.appR | apply Ent.skip))) | exact One.len (by (first | exact Len.nil | (apply Len.row; (· (repeat (first | apply Sel.here | apply Sel.there | apply Upd.here | apply Upd.there)))) | (apply Len.rs; exact Rs.mono (by assumption) (by (repeat' (first | exact Ent.refl | exact Ent.appR | apply Ent.skip)))))))))))) (Nat.le_of_ble_eq_true rfl) (by (repeat (first | apply Sel.here | apply Sel.there | apply Upd.here | apply Upd.there))) ?_))))
 | ((show SLl _ _ _ _ _ (⟨⟨_, .box _ _, _, _, _, _⟩, _, _⟩ :: _) _ _ _); refine SLl.seq rfl rfl (SLo.boxC rfl (by (first | exact Cel.one (by (first | exact One.lit rfl | exact One.lit (by assumption) | exact One.mono (by assumption) (by (repeat' (first | exact Ent.refl | exact Ent.appR | apply Ent.skip))) | exact One.len (by (first | exact Len.nil | (apply Len.row; (· (repeat (first | apply Sel.here | apply Sel.there | apply Upd.here | apply Upd.there)))) | (apply Len.rs; exact Rs.mono (by assumption) (by (repeat' (first | exact Ent.refl | exact Ent.appR | apply Ent.skip)))))))) | exact Cel.agg)) ?_); intro b)
 | ((show SLl _ _ _ _ _ (⟨⟨_, .alloc _, _, _, _, _⟩, _, _⟩ :: _) _ _ _); refine SLl.seq rfl rfl (SLo.alloc ?_); intro b)
 | ((show SLl _ _ _ _ _ (⟨⟨_, .build _ _, _, _, _, _⟩, _, _⟩ :: _) _ _ _); first
 | refine SLl.rdSeq rfl rfl (Rd.build rfl (by (repeat (first | exact CellsW.nil | (apply CellsW.cons; (· (first | exact Cel.one (by (first | exact One.lit rfl | exact One.lit (by assumption) | exact One.mono (by assumption) (by (repeat' (first | exact Ent.refl | exact Ent.appR | apply Ent.skip))) | exact One.len (by (first | exact Len.nil | (apply Len.row; (· (repeat (first | apply Sel.here | apply Sel.there | apply Upd.here | apply Upd.there)))) | (apply Len.rs; exact Rs.mono (by assumption) (by (repeat' (first | exact Ent.refl | exact Ent.appR | apply Ent.skip)))))))) | exact Cel.agg)))))) (by rfl)) ?_
 | refine SLl.pu rfl rfl rfl (Pu.build rfl rfl) ?_)
 | refine SLl.skip rfl rfl ?_))
 | (first
 | refine SLc.seq ?_
 | refine SLc.region rfl ?_
 | refine SLc.condT rfl ?_
 | refine SLc.condF rfl ?_
 | refine SLc.block ?_
 | refine SLc.skip ?_
 | refine SLc.exit ?_
 | refine SLc.ret ?_)))
  refine SLl.seq rfl rfl (SLo.buildSliceE [[sl]] (by decide) (by decide) rfl (by (repeat (first | exact CellsW.nil | (apply CellsW.cons; (· (first | exact Cel.one (by (first | exact One.lit rfl | exact One.lit (by assumption) | exact One.mono (by assumption) (by (repeat' (first | exact Ent.refl | exact Ent.appR | apply Ent.skip))) | exact One.len (by (first | exact Len.nil | (apply Len.row; (· (repeat (first | apply Sel.here | apply Sel.there | apply Upd.here | apply Upd.there)))) | (apply Len.rs; exact Rs.mono (by assumption) (by (repeat' (first | exact Ent.refl | exact Ent.appR | apply Ent.skip)))))))) | exact Cel.agg)))))) (by simp) rfl (by rfl) ?_)
  intro lv hlv
  refine SLl.seq rfl rfl (SLo.call plain28 rfl (SLf.mono (Small10_ok W _ lv [(sl, G)] (Rs.row .here (by simp [gcells])) (fun p hp => by rw [List.mem_singleton] at hp; subst hp; exact hx) (Nat.le_of_ble_eq_true rfl)) ?_))
  rintro v σ ⟨rfl, bb, rfl, hbb⟩
  cases bb with
  | false =>
    (repeat' (first
 | (first
 | refine SLl.nil ?_
 | ((show SLl _ _ _ _ _ (⟨⟨_, _, _, _, _, _⟩, _, _⟩ :: _) _ _ _); first
 | refine SLl.ev rfl rfl rfl rfl ?_
 | ((show SLl _ _ _ _ _ (⟨⟨_, .load _ _, _, _, _, _⟩, _, _⟩ :: _) _ _ _); (first | refine SLl.rdSeq rfl rfl (Rd.load rfl rfl (by (first | (apply Reads.blk; (· (repeat (first | apply Sel.here | apply Sel.there | apply Upd.here | apply Upd.there))); (· rfl)) | (apply Reads.row; (· (repeat (first | apply Sel.here | apply Sel.there | apply Upd.here | apply Upd.there))); (· (first | rfl | assumption)); (· rfl)) | (apply Reads.rs; (· exact Rs.mono (by assumption) (by (repeat' (first | exact Ent.refl | exact Ent.appR | apply Ent.skip)))); (· (first | rfl | assumption)); (· rfl))))) ?_ | refine SLl.rdSeq rfl rfl (Rd.loadN rfl rfl (by (first | exact ReadsN.mono (by assumption) (by (repeat' (first | exact Ent.refl | exact Ent.appR | apply Ent.skip))) | (apply ReadsN.blk0; (· (repeat (first | apply Sel.here | apply Sel.there | apply Upd.here | apply Upd.there)))) | (apply ReadsN.row0; (· (repeat (first | apply Sel.here | apply Sel.there | apply Upd.here | apply Upd.there))); (· (first | rfl | assumption))) | (apply ReadsN.rs0; (· exact Rs.mono (by assumption) (by (repeat' (first | exact Ent.refl | exact Ent.appR | apply Ent.skip)))); (· (first | rfl | assumption))))) (by rfl)) ?_))
 | ((show SLl _ _ _ _ _ (⟨⟨_, .fieldAddr _ _ _, _, _, _, _⟩, _, _⟩ :: _) _ _ _); (first | refine SLl.pu rfl rfl rfl (Pu.fieldAddr rfl) ?_ | refine SLl.rdSeq rfl rfl (Rd.fieldAddrEl rfl (by (first | exact Len.nil | (apply Len.row; (· (repeat (first | apply Sel.here | apply Sel.there | apply Upd.here | apply Upd.there)))) | (apply Len.rs; exact Rs.mono (by assumption) (by (repeat' (first | exact Ent.refl | exact Ent.appR | apply Ent.skip)))))) (by omega)) ?_))
 | ((show SLl _ _ _ _ _ (⟨⟨_, .indexAddr _ _ _, _, _, _, _⟩, _, _⟩ :: _) _ _ _); (refine SLl.rdSeq rfl rfl (Rd.indexAddr rfl rfl (by (first | exact Len.nil | (apply Len.row; (· (repeat (first | apply Sel.here | apply Sel.there | apply Upd.here | apply Upd.there)))) | (apply Len.rs; exact Rs.mono (by assumption) (by (repeat' (first | exact Ent.refl | exact Ent.appR | apply Ent.skip)))))) (by (first | exact ij0 | exact ij1 | exact ij2 | exact ij3 | exact ij4 | exact ij5 | rfl | exact (Int.toNat_of_nonneg (by omega)).symm)) (by omega)) ?_))
 | ((show SLl _ _ _ _ _ (⟨⟨_, .call ⟨.builtin .len, _, _⟩, _, _, _, _⟩, _, _⟩ :: _) _ _ _); refine SLl.rdSeq rfl rfl (Rd.len rfl (by (first | exact Len.nil | (apply Len.row; (· (repeat (first | apply Sel.here | apply Sel.there | apply Upd.here | apply Upd.there)))) | (apply Len.rs; exact Rs.mono (by assumption) (by (repeat' (first | exact Ent.refl | exact Ent.appR | apply Ent.skip))))))) ?_)
 | ((show SLl _ _ _ _ _ (⟨⟨_, .binOp _ _ _ _ _, _, _, _, _⟩, _, _⟩ :: _) _ _ _); (first
 | refine SLl.pu rfl rfl rfl (Pu.add rfl rfl (IntWalk.i64_in _ (by omega))) ?_
 | refine SLl.pu rfl rfl rfl (Pu.sub rfl rfl (IntWalk.i64_in _ (by omega))) ?_
 | (refine SLl.cmp rfl rfl rfl rfl rfl rfl ?_ ?_ <;> intro hq <;> simp only [cmpP] at hq <;> try (first
 | exact (hq trivial).elim
 | (exfalso; omega)))
 | refine SLl.pu rfl rfl rfl (Pu.eqNilT rfl rfl) ?_
 | refine SLl.pu rfl rfl rfl (Pu.neNilF rfl rfl) ?_
 | refine SLl.rdSeq rfl rfl (Rd.eqNilF rfl rfl (by (first | exact Len.nil | (apply Len.row; (· (repeat (first | apply Sel.here | apply Sel.there | apply Upd.here | apply Upd.there)))) | (apply Len.rs; exact Rs.mono (by assumption) (by (repeat' (first | exact Ent.refl | exact Ent.appR | apply Ent.skip)))))) (by assumption)) ?_
 | refine SLl.rdSeq rfl rfl (Rd.neNilT rfl rfl (by (first | exact Len.nil | (apply Len.row; (· (repeat (first | apply Sel.here | apply Sel.there | apply Upd.here | apply Upd.there)))) | (apply Len.rs; exact Rs.mono (by assumption) (by (repeat' (first | exact Ent.refl | exact Ent.appR | apply Ent.skip)))))) (by assumption)) ?_
 | refine SLl.pu rfl rfl rfl (Pu.eqPtrNil rfl rfl) ?_
 | refine SLl.pu rfl rfl rfl (Pu.eqBool rfl rfl) ?_
 | refine SLl.pu rfl rfl rfl (Pu.neBool rfl rfl) ?_))
 | ((show SLl _ _ _ _ _ (⟨⟨_, .store _ _ _, _, _, _, _⟩, _, _⟩ :: _) _ _ _); (first | (refine SLl.seq0 rfl (SLo.store rfl rfl rfl (by (first | exact One.lit rfl | exact One.lit (by assumption) | exact One.mono (by assumption) (by (repeat' (first | exact Ent.refl | exact Ent.appR | apply Ent.skip))) | exact One.len (by (first | exact Len.nil | (apply Len.row; (· (repeat (first | apply Sel.here | apply Sel.there | apply Upd.here | apply Upd.there)))) | (apply Len.rs; exact Rs.mono (by assumption) (by (repeat' (first | exact Ent.refl | exact Ent.appR | apply Ent.skip)))))))) (by (first | (apply Wr.blk; (· (repeat (first | apply Sel.here | apply Sel.there | apply Upd.here | apply Upd.there))); (· exact Nat.le_of_ble_eq_true rfl)) | (apply Wr.row; (· (first | rfl | assumption)); (· exact Nat.le_of_ble_eq_true rfl); (· (repeat (first | apply Sel.here | apply Sel.there | apply Upd.here | apply Upd.there)))))) ?_)) | (refine SLl.seq0 rfl (SLo.storeN rfl rfl rfl (by (repeat' (first | exact trivial | (apply And.intro; (· (first | exact One.lit rfl | exact One.lit (by assumption) | exact One.mono (by assumption) (by (repeat' (first | exact Ent.refl | exact Ent.appR | apply Ent.skip))) | exact One.len (by (first | exact Len.nil | (apply Len.row; (· (repeat (first | apply Sel.here | apply Sel.there | apply Upd.here | apply Upd.there)))) | (apply Len.rs; exact Rs.mono (by assumption) (by (repeat' (first | exact Ent.refl | exact Ent.appR | apply Ent.skip)))))))))))) (Nat.le_of_ble_eq_true rfl) (by (repeat (first | apply Sel.here | apply Sel.there | apply Upd.here | apply Upd.there))) ?_))))
 | ((show SLl _ _ _ _ _ (⟨⟨_, .box _ _, _, _, _, _⟩, _, _⟩ :: _) _ _ _); refine SLl.seq rfl rfl (SLo.boxC rfl (by (first | exact Cel.one (by (first | exact One.lit rfl | exact One.lit (by assumption) | exact One.mono (by assumption) (by (repeat' (first | exact Ent.refl | exact Ent.appR | apply Ent.skip))) | exact One.len (by (first | exact Len.nil | (apply Len.row; (· (repeat (first | apply Sel.here | apply Sel.there | apply Upd.here | apply Upd.there)))) | (apply Len.rs; exact Rs.mono (by assumption) (by (repeat' (first | exact Ent.refl | exact Ent.appR | apply Ent.skip)))))))) | exact Cel.agg)) ?_); intro b)
 | ((show SLl _ _ _ _ _ (⟨⟨_, .alloc _, _, _, _, _⟩, _, _⟩ :: _) _ _ _); refine SLl.seq rfl rfl (SLo.alloc ?_); intro b)
 | ((show SLl _ _ _ _ _ (⟨⟨_, .build _ _, _, _, _, _⟩, _, _⟩ :: _) _ _ _); first
 | refine SLl.rdSeq rfl rfl (Rd.build rfl (by (repeat (first | exact CellsW.nil | (apply CellsW.cons; (· (first | exact Cel.one (by (first | exact One.lit rfl | exact One.lit (by assumption) | exact One.mono (by assumption) (by (repeat' (first | exact Ent.refl | exact Ent.appR | apply Ent.skip))) | exact One.len (by (first | exact Len.nil | (apply Len.row; (· (repeat (first | apply Sel.here | apply Sel.there | apply Upd.here | apply Upd.there)))) | (apply Len.rs; exact Rs.mono (by assumption) (by (repeat' (first | exact Ent.refl | exact Ent.appR | apply Ent.skip)))))))) | exact Cel.agg)))))) (by rfl)) ?_
 | refine SLl.pu rfl rfl rfl (Pu.build rfl rfl) ?_)
 | refine SLl.skip rfl rfl ?_))
 | (first
 | refine SLc.seq ?_
 | refine SLc.region rfl ?_
 | refine SLc.condT rfl ?_
 | refine SLc.condF rfl ?_
 | refine SLc.block ?_
 | refine SLc.skip ?_
 | refine SLc.exit ?_
 | refine SLc.ret ?_)))
    refine And.intro rfl (Exists.intro _ (Exists.intro _ (And.intro rfl (And.intro .drop rfl))))
  | true =>
    have hsm := hbb rfl
    rw [show ([(sl, G)] : List Gph).length = 1 from rfl, gsum_one] at hsm
    (repeat' (first
 | (first
 | refine SLl.nil ?_
 | ((show SLl _ _ _ _ _ (⟨⟨_, _, _, _, _, _⟩, _, _⟩ :: _) _ _ _); first
 | refine SLl.ev rfl rfl rfl rfl ?_
 | ((show SLl _ _ _ _ _ (⟨⟨_, .load _ _, _, _, _, _⟩, _, _⟩ :: _) _ _ _); (first | refine SLl.rdSeq rfl rfl (Rd.load rfl rfl (by (first | (apply Reads.blk; (· (repeat (first | apply Sel.here | apply Sel.there | apply Upd.here | apply Upd.there))); (· rfl)) | (apply Reads.row; (· (repeat (first | apply Sel.here | apply Sel.there | apply Upd.here | apply Upd.there))); (· (first | rfl | assumption)); (· rfl)) | (apply Reads.rs; (· exact Rs.mono (by assumption) (by (repeat' (first | exact Ent.refl | exact Ent.appR | apply Ent.skip)))); (· (first | rfl | assumption)); (· rfl))))) ?_ | refine SLl.rdSeq rfl rfl (Rd.loadN rfl rfl (by (first | exact ReadsN.mono (by assumption) (by (repeat' (first | exact Ent.refl | exact Ent.appR | apply Ent.skip))) | (apply ReadsN.blk0; (· (repeat (first | apply Sel.here | apply Sel.there | apply Upd.here | apply Upd.there)))) | (apply ReadsN.row0; (· (repeat (first | apply Sel.here | apply Sel.there | apply Upd.here | apply Upd.there))); (· (first | rfl | assumption))) | (apply ReadsN.rs0; (· exact Rs.mono (by assumption) (by (repeat' (first | exact Ent.refl | exact Ent.appR | apply Ent.skip)))); (· (first | rfl | assumption))))) (by rfl)) ?_))
 | ((show SLl _ _ _ _ _ (⟨⟨_, .fieldAddr _ _ _, _, _, _, _⟩, _, _⟩ :: _) _ _ _); (first | refine SLl.pu rfl rfl rfl (Pu.fieldAddr rfl) ?_ | refine SLl.rdSeq rfl rfl (Rd.fieldAddrEl rfl (by (first | exact Len.nil | (apply Len.row; (· (repeat (first | apply Sel.here | apply Sel.there | apply Upd.here | apply Upd.there)))) | (apply Len.rs; exact Rs.mono (by assumption) (by (repeat' (first | exact Ent.refl | exact Ent.appR | apply Ent.skip)))))) (by omega)) ?_))
 | ((show SLl _ _ _ _ _ (⟨⟨_, .indexAddr _ _ _, _, _, _, _⟩, _, _⟩ :: _) _ _ _); (refine SLl.rdSeq rfl rfl (Rd.indexAddr rfl rfl (by (first | exact Len.nil | (apply Len.row; (· (repeat (first | apply Sel.here | apply Sel.there | apply Upd.here | apply Upd.there)))) | (apply Len.rs; exact Rs.mono (by assumption) (by (repeat' (first | exact Ent.refl | exact Ent.appR | apply Ent.skip)))))) (by (first | exact ij0 | exact ij1 | exact ij2 | exact ij3 | exact ij4 | exact ij5 | rfl | exact (Int.toNat_of_nonneg (by omega)).symm)) (by omega)) ?_))
 | ((show SLl _ _ _ _ _ (⟨⟨_, .call ⟨.builtin .len, _, _⟩, _, _, _, _⟩, _, _⟩ :: _) _ _ _); refine SLl.rdSeq rfl rfl (Rd.len rfl (by (first | exact Len.nil | (apply Len.row; (· (repeat (first | apply Sel.here | apply Sel.there | apply Upd.here | apply Upd.there)))) | (apply Len.rs; exact Rs.mono (by assumption) (by (repeat' (first | exact Ent.refl | exact Ent.appR | apply Ent.skip))))))) ?_)
 | ((show SLl _ _ _ _ _ (⟨⟨_, .binOp _ _ _ _ _, _, _, _, _⟩, _, _⟩ :: _) _ _ _); (first
 | refine SLl.pu rfl rfl rfl (Pu.add rfl rfl (IntWalk.i64_in _ (by omega))) ?_
 | refine SLl.pu rfl rfl rfl (Pu.sub rfl rfl (IntWalk.i64_in _ (by omega))) ?_
 | (refine SLl.cmp rfl rfl rfl rfl rfl rfl ?_ ?_ <;> intro hq <;> simp only [cmpP] at hq <;> try (first
 | exact (hq trivial).elim
 | (exfalso; omega)))
 | refine SLl.pu rfl rfl rfl (Pu.eqNilT rfl rfl) ?_
 | refine SLl.pu rfl rfl rfl (Pu.neNilF rfl rfl) ?_
 | refine SLl.rdSeq rfl rfl (Rd.eqNilF rfl rfl (by (first | exact Len.nil | (apply Len.row; (· (repeat (first | apply Sel.here | apply Sel.there | apply Upd.here | apply Upd.there)))) | (apply Len.rs; exact Rs.mono (by assumption) (by (repeat' (first | exact Ent.refl | exact Ent.appR | apply Ent.skip)))))) (by assumption)) ?_
 | refine SLl.rdSeq rfl rfl (Rd.neNilT rfl rfl (by (first | exact Len.nil | (apply Len.row; (· (repeat (first | apply Sel.here | apply Sel.there | apply Upd.here | apply Upd.there)))) | (apply Len.rs; exact Rs.mono (by assumption) (by (repeat' (first | exact Ent.refl | exact Ent.appR | apply Ent.skip)))))) (by assumption)) ?_
 | refine SLl.pu rfl rfl rfl (Pu.eqPtrNil rfl rfl) ?_
 | refine SLl.pu rfl rfl rfl (Pu.eqBool rfl rfl) ?_
 | refine SLl.pu rfl rfl rfl (Pu.neBool rfl rfl) ?_))
 | ((show SLl _ _ _ _ _ (⟨⟨_, .store _ _ _, _, _, _, _⟩, _, _⟩ :: _) _ _ _); (first | (refine SLl.seq0 rfl (SLo.store rfl rfl rfl (by (first | exact One.lit rfl | exact One.lit (by assumption) | exact One.mono (by assumption) (by (repeat' (first | exact Ent.refl | exact Ent.appR | apply Ent.skip))) | exact One.len (by (first | exact Len.nil | (apply Len.row; (· (repeat (first | apply Sel.here | apply Sel.there | apply Upd.here | apply Upd.there)))) | (apply Len.rs; exact Rs.mono (by assumption) (by (repeat' (first | exact Ent.refl | exact Ent.appR | apply Ent.skip)))))))) (by (first | (apply Wr.blk; (· (repeat (first | apply Sel.here | apply Sel.there | apply Upd.here | apply Upd.there))); (· exact Nat.le_of_ble_eq_true rfl)) | (apply Wr.row; (· (first | rfl | assumption)); (· exact Nat.le_of_ble_eq_true rfl); (· (repeat (first | apply Sel.here | apply Sel.there | apply Upd.here | apply Upd.there)))))) ?_)) | (refine SLl.seq0 rfl (SLo.storeN rfl rfl rfl (by (repeat' (first | exact trivial | (apply And.intro; (· (first | exact One.lit rfl | exact One.lit (by assumption) | exact One.mono (by assumption) (by (repeat' (first | exact Ent.refl | exact Ent.appR | apply Ent.skip))) | exact One.len (by (first | exact Len.nil | (apply Len.row; (· (repeat (first | apply Sel.here | apply Sel.there | apply Upd.here | apply Upd.there)))) | (apply Len.rs; exact Rs.mono (by assumption) (by (repeat' (first | exact Ent.refl | exact Ent.appR | apply Ent.skip)))))))))))) (Nat.le_of_ble_eq_true rfl) (by (repeat (first | apply Sel.here | apply Sel.there | apply Upd.here | apply Upd.there))) ?_))))
 | ((show SLl _ _ _ _ _ (⟨⟨_, .box _ _, _, _, _, _⟩, _, _⟩ :: _) _ _ _); refine SLl.seq rfl rfl (SLo.boxC rfl (by (first | exact Cel.one (by (first | exact One.lit rfl | exact One.lit (by assumption) | exact One.mono (by assumption) (by (repeat' (first | exact Ent.refl | exact Ent.appR | apply Ent.skip))) | exact One.len (by (first | exact Len.nil | (apply Len.row; (· (repeat (first | apply Sel.here | apply Sel.there | apply Upd.here | apply Upd.there)))) | (apply Len.rs; exact Rs.mono (by assumption) (by (repeat' (first | exact Ent.refl | exact Ent.appR | apply Ent.skip)))))))) | exact Cel.agg)) ?_); intro b)
 | ((show SLl _ _ _ _ _ (⟨⟨_, .alloc _, _, _, _, _⟩, _, _⟩ :: _) _ _ _); refine SLl.seq rfl rfl (SLo.alloc ?_); intro b)
 | ((show SLl _ _ _ _ _ (⟨⟨_, .build _ _, _, _, _, _⟩, _, _⟩ :: _) _ _ _); first
 | refine SLl.rdSeq rfl rfl (Rd.build rfl (by (repeat (first | exact CellsW.nil | (apply CellsW.cons; (· (first | exact Cel.one (by (first | exact One.lit rfl | exact One.lit (by assumption) | exact One.mono (by assumption) (by (repeat' (first | exact Ent.refl | exact Ent.appR | apply Ent.skip))) | exact One.len (by (first | exact Len.nil | (apply Len.row; (· (repeat (first | apply Sel.here | apply Sel.there | apply Upd.here | apply Upd.there)))) | (apply Len.rs; exact Rs.mono (by assumption) (by (repeat' (first | exact Ent.refl | exact Ent.appR | apply Ent.skip)))))))) | exact Cel.agg)))))) (by rfl)) ?_
 | refine SLl.pu rfl rfl rfl (Pu.build rfl rfl) ?_)
 | refine SLl.skip rfl rfl ?_))
 | (first
 | refine SLc.seq ?_
 | refine SLc.region rfl ?_
 | refine SLc.condT rfl ?_
 | refine SLc.condF rfl ?_
 | refine SLc.block ?_
 | refine SLc.skip ?_
 | refine SLc.exit ?_
 | refine SLc.ret ?_)))
    refine SLc.draws [.row lv 24 1 [[sl]], .blk b 24 [sl]] [(0, .take), (1, .take), (3, .take), (4, .take), (6, .take), (7, .take), (2, .eff true), (5, .eff true), (8, .eff true), (9, .take), (10, .take), (11, .take)] mixed (by kernel_rfl) .refl ?_
    (repeat' (first
 | (first
 | refine SLl.nil ?_
 | ((show SLl _ _ _ _ _ (⟨⟨_, _, _, _, _, _⟩, _, _⟩ :: _) _ _ _); first
 | refine SLl.ev rfl rfl rfl rfl ?_
 | ((show SLl _ _ _ _ _ (⟨⟨_, .load _ _, _, _, _, _⟩, _, _⟩ :: _) _ _ _); (first | refine SLl.rdTake rfl rfl (Rd.load rfl rfl (by (first | (apply Reads.blk; (· (repeat (first | apply Sel.here | apply Sel.there | apply Upd.here | apply Upd.there))); (· rfl)) | (apply Reads.row; (· (repeat (first | apply Sel.here | apply Sel.there | apply Upd.here | apply Upd.there))); (· (first | rfl | assumption)); (· rfl)) | (apply Reads.rs; (· exact Rs.mono (by assumption) (by (repeat' (first | exact Ent.refl | exact Ent.appR | apply Ent.skip)))); (· (first | rfl | assumption)); (· rfl))))) ?_ | refine SLl.rdTake rfl rfl (Rd.loadN rfl rfl (by (first | exact ReadsN.mono (by assumption) (by (repeat' (first | exact Ent.refl | exact Ent.appR | apply Ent.skip))) | (apply ReadsN.blk0; (· (repeat (first | apply Sel.here | apply Sel.there | apply Upd.here | apply Upd.there)))) | (apply ReadsN.row0; (· (repeat (first | apply Sel.here | apply Sel.there | apply Upd.here | apply Upd.there))); (· (first | rfl | assumption))) | (apply ReadsN.rs0; (· exact Rs.mono (by assumption) (by (repeat' (first | exact Ent.refl | exact Ent.appR | apply Ent.skip)))); (· (first | rfl | assumption))))) (by rfl)) ?_))
 | ((show SLl _ _ _ _ _ (⟨⟨_, .fieldAddr _ _ _, _, _, _, _⟩, _, _⟩ :: _) _ _ _); (first | refine SLl.pu rfl rfl rfl (Pu.fieldAddr rfl) ?_ | refine SLl.rdTake rfl rfl (Rd.fieldAddrEl rfl (by (first | exact Len.nil | (apply Len.row; (· (repeat (first | apply Sel.here | apply Sel.there | apply Upd.here | apply Upd.there)))) | (apply Len.rs; exact Rs.mono (by assumption) (by (repeat' (first | exact Ent.refl | exact Ent.appR | apply Ent.skip)))))) (by omega)) ?_))
 | ((show SLl _ _ _ _ _ (⟨⟨_, .indexAddr _ _ _, _, _, _, _⟩, _, _⟩ :: _) _ _ _); (refine SLl.rdTake rfl rfl (Rd.indexAddr rfl rfl (by (first | exact Len.nil | (apply Len.row; (· (repeat (first | apply Sel.here | apply Sel.there | apply Upd.here | apply Upd.there)))) | (apply Len.rs; exact Rs.mono (by assumption) (by (repeat' (first | exact Ent.refl | exact Ent.appR | apply Ent.skip)))))) (by (first | exact ij0 | exact ij1 | exact ij2 | exact ij3 | exact ij4 | exact ij5 | rfl | exact (Int.toNat_of_nonneg (by omega)).symm)) (by omega)) ?_))
 | ((show SLl _ _ _ _ _ (⟨⟨_, .call ⟨.builtin .len, _, _⟩, _, _, _, _⟩, _, _⟩ :: _) _ _ _); refine SLl.rdTake rfl rfl (Rd.len rfl (by (first | exact Len.nil | (apply Len.row; (· (repeat (first | apply Sel.here | apply Sel.there | apply Upd.here | apply Upd.there)))) | (apply Len.rs; exact Rs.mono (by assumption) (by (repeat' (first | exact Ent.refl | exact Ent.appR | apply Ent.skip))))))) ?_)
 | ((show SLl _ _ _ _ _ (⟨⟨_, .binOp _ _ _ _ _, _, _, _, _⟩, _, _⟩ :: _) _ _ _); (first
 | refine SLl.pu rfl rfl rfl (Pu.add rfl rfl (IntWalk.i64_in _ (by omega))) ?_
 | refine SLl.pu rfl rfl rfl (Pu.sub rfl rfl (IntWalk.i64_in _ (by omega))) ?_
 | (refine SLl.cmp rfl rfl rfl rfl rfl rfl ?_ ?_ <;> intro hq <;> simp only [cmpP] at hq <;> try (first
 | exact (hq trivial).elim
 | (exfalso; omega)))
 | refine SLl.pu rfl rfl rfl (Pu.eqNilT rfl rfl) ?_
 | refine SLl.pu rfl rfl rfl (Pu.neNilF rfl rfl) ?_
 | refine SLl.rdTake rfl rfl (Rd.eqNilF rfl rfl (by (first | exact Len.nil | (apply Len.row; (· (repeat (first | apply Sel.here | apply Sel.there | apply Upd.here | apply Upd.there)))) | (apply Len.rs; exact Rs.mono (by assumption) (by (repeat' (first | exact Ent.refl | exact Ent.appR | apply Ent.skip)))))) (by assumption)) ?_
 | refine SLl.rdTake rfl rfl (Rd.neNilT rfl rfl (by (first | exact Len.nil | (apply Len.row; (· (repeat (first | apply Sel.here | apply Sel.there | apply Upd.here | apply Upd.there)))) | (apply Len.rs; exact Rs.mono (by assumption) (by (repeat' (first | exact Ent.refl | exact Ent.appR | apply Ent.skip)))))) (by assumption)) ?_
 | refine SLl.pu rfl rfl rfl (Pu.eqPtrNil rfl rfl) ?_
 | refine SLl.pu rfl rfl rfl (Pu.eqBool rfl rfl) ?_
 | refine SLl.pu rfl rfl rfl (Pu.neBool rfl rfl) ?_))
 | ((show SLl _ _ _ _ _ (⟨⟨_, .store _ _ _, _, _, _, _⟩, _, _⟩ :: _) _ _ _); (first | (refine SLl.seq0 rfl (SLo.store rfl rfl rfl (by (first | exact One.lit rfl | exact One.lit (by assumption) | exact One.mono (by assumption) (by (repeat' (first | exact Ent.refl | exact Ent.appR | apply Ent.skip))) | exact One.len (by (first | exact Len.nil | (apply Len.row; (· (repeat (first | apply Sel.here | apply Sel.there | apply Upd.here | apply Upd.there)))) | (apply Len.rs; exact Rs.mono (by assumption) (by (repeat' (first | exact Ent.refl | exact Ent.appR | apply Ent.skip)))))))) (by (first | (apply Wr.blk; (· (repeat (first | apply Sel.here | apply Sel.there | apply Upd.here | apply Upd.there))); (· exact Nat.le_of_ble_eq_true rfl)) | (apply Wr.row; (· (first | rfl | assumption)); (· exact Nat.le_of_ble_eq_true rfl); (· (repeat (first | apply Sel.here | apply Sel.there | apply Upd.here | apply Upd.there)))))) ?_)) | (refine SLl.seq0 rfl (SLo.storeN rfl rfl rfl (by (repeat' (first | exact trivial | (apply And.intro; (· (first | exact One.lit rfl | exact One.lit (by assumption) | exact One.mono (by assumption) (by (repeat' (first | exact Ent.refl | exact Ent.appR | apply Ent.skip))) | exact One.len (by (first | exact Len.nil | (apply Len.row; (· (repeat (first | apply Sel.here | apply Sel.there | apply Upd.here | apply Upd.there)))) | (apply Len.rs; exact Rs.mono (by assumption) (by (repeat' (first | exact Ent.refl | exact Ent.appR | apply Ent.skip)))))))))))) (Nat.le_of_ble_eq_true rfl) (by (repeat (first | apply Sel.here | apply Sel.there | apply Upd.here | apply Upd.there))) ?_))))
 | ((show SLl _ _ _ _ _ (⟨⟨_, .box _ _, _, _, _, _⟩, _, _⟩ :: _) _ _ _); refine SLl.seq rfl rfl (SLo.boxC rfl (by (first | exact Cel.one (by (first | exact One.lit rfl | exact One.lit (by assumption) | exact One.mono (by assumption) (by (repeat' (first | exact Ent.refl | exact Ent.appR | apply Ent.skip))) | exact One.len (by (first | exact Len.nil | (apply Len.row; (· (repeat (first | apply Sel.here | apply Sel.there | apply Upd.here | apply Upd.there)))) | (apply Len.rs; exact Rs.mono (by assumption) (by (repeat' (first | exact Ent.refl | exact Ent.appR | apply Ent.skip)))))))) | exact Cel.agg)) ?_); intro b)
 | ((show SLl _ _ _ _ _ (⟨⟨_, .alloc _, _, _, _, _⟩, _, _⟩ :: _) _ _ _); refine SLl.seq rfl rfl (SLo.alloc ?_); intro b)
 | ((show SLl _ _ _ _ _ (⟨⟨_, .build _ _, _, _, _, _⟩, _, _⟩ :: _) _ _ _); first
 | refine SLl.rdTake rfl rfl (Rd.build rfl (by (repeat (first | exact CellsW.nil | (apply CellsW.cons; (· (first | exact Cel.one (by (first | exact One.lit rfl | exact One.lit (by assumption) | exact One.mono (by assumption) (by (repeat' (first | exact Ent.refl | exact Ent.appR | apply Ent.skip))) | exact One.len (by (first | exact Len.nil | (apply Len.row; (· (repeat (first | apply Sel.here | apply Sel.there | apply Upd.here | apply Upd.there)))) | (apply Len.rs; exact Rs.mono (by assumption) (by (repeat' (first | exact Ent.refl | exact Ent.appR | apply Ent.skip)))))))) | exact Cel.agg)))))) (by rfl)) ?_
 | refine SLl.pu rfl rfl rfl (Pu.build rfl rfl) ?_)
 | refine SLl.skip rfl rfl ?_))
 | (first
 | refine SLc.seq ?_
 | refine SLc.region rfl ?_
 | refine SLc.condT rfl ?_
 | refine SLc.condF rfl ?_
 | refine SLc.block ?_
 | refine SLc.skip ?_
 | refine SLc.exit ?_
 | refine SLc.ret ?_)))
    cases hm : mayF G root with
    | false =>
      refine SLl.eff rfl rfl (SLo.call plain29 rfl (SLf.mono (From_no W _ sl G root (hx.graphR _) hm) ?_))
      rintro v σ ⟨rfl, rfl⟩
      refine And.intro (fun _ => by (repeat' (first | exact Ent.refl | exact Ent.appR | apply Ent.skip))) ?_
      refine SLl.eff rfl rfl (SLo.call plain30 rfl (SLf.mono (Users_no W _ sl G root (hx.graphR _) hm) ?_))
      rintro v σ ⟨rfl, rfl⟩
      refine And.intro (fun _ => by (repeat' (first | exact Ent.refl | exact Ent.appR | apply Ent.skip))) ?_
      refine SLl.eff rfl rfl (SLo.call plain31 rfl (SLf.mono (Counts_no W _ sl G root (hx.graphR _) hm) ?_))
      rintro v σ ⟨rfl, rfl⟩
      refine And.intro (fun _ => by (repeat' (first | exact Ent.refl | exact Ent.appR | apply Ent.skip))) ?_
      (repeat' (first
 | (first
 | refine SLl.nil ?_
 | ((show SLl _ _ _ _ _ (⟨⟨_, _, _, _, _, _⟩, _, _⟩ :: _) _ _ _); first
 | refine SLl.ev rfl rfl rfl rfl ?_
 | ((show SLl _ _ _ _ _ (⟨⟨_, .load _ _, _, _, _, _⟩, _, _⟩ :: _) _ _ _); (first | refine SLl.rdSeq rfl rfl (Rd.load rfl rfl (by (first | (apply Reads.blk; (· (repeat (first | apply Sel.here | apply Sel.there | apply Upd.here | apply Upd.there))); (· rfl)) | (apply Reads.row; (· (repeat (first | apply Sel.here | apply Sel.there | apply Upd.here | apply Upd.there))); (· (first | rfl | assumption)); (· rfl)) | (apply Reads.rs; (· exact Rs.mono (by assumption) (by (repeat' (first | exact Ent.refl | exact Ent.appR | apply Ent.skip)))); (· (first | rfl | assumption)); (· rfl))))) ?_ | refine SLl.rdSeq rfl rfl (Rd.loadN rfl rfl (by (first | exact ReadsN.mono (by assumption) (by (repeat' (first | exact Ent.refl | exact Ent.appR | apply Ent.skip))) | (apply ReadsN.blk0; (· (repeat (first | apply Sel.here | apply Sel.there | apply Upd.here | apply Upd.there)))) | (apply ReadsN.row0; (· (repeat (first | apply Sel.here | apply Sel.there | apply Upd.here | apply Upd.there))); (· (first | rfl | assumption))) | (apply ReadsN.rs0; (· exact Rs.mono (by assumption) (by (repeat' (first | exact Ent.refl | exact Ent.appR | apply Ent.skip)))); (· (first | rfl | assumption))))) (by rfl)) ?_))
 | ((show SLl _ _ _ _ _ (⟨⟨_, .fieldAddr _ _ _, _, _, _, _⟩, _, _⟩ :: _) _ _ _); (first | refine SLl.pu rfl rfl rfl (Pu.fieldAddr rfl) ?_ | refine SLl.rdSeq rfl rfl (Rd.fieldAddrEl rfl (by (first | exact Len.nil | (apply Len.row; (· (repeat (first | apply Sel.here | apply Sel.there | apply Upd.here | apply Upd.there)))) | (apply Len.rs; exact Rs.mono (by assumption) (by (repeat' (first | exact Ent.refl | exact Ent.appR | apply Ent.skip)))))) (by omega)) ?_))
 | ((show SLl _ _ _ _ _ (⟨⟨_, .indexAddr _ _ _, _, _, _, _⟩, _, _⟩ :: _) _ _ _); (refine SLl.rdSeq rfl rfl (Rd.indexAddr rfl rfl (by (first | exact Len.nil | (apply Len.row; (· (repeat (first | apply Sel.here | apply Sel.there | apply Upd.here | apply Upd.there)))) | (apply Len.rs; exact Rs.mono (by assumption) (by (repeat' (first | exact Ent.refl | exact Ent.appR | apply Ent.skip)))))) (by (first | exact ij0 | exact ij1 | exact ij2 | exact ij3 | exact ij4 | exact ij5 | rfl | exact (Int.toNat_of_nonneg (by omega)).symm)) (by omega)) ?_))
 | ((show SLl _ _ _ _ _ (⟨⟨_, .call ⟨.builtin .len, _, _⟩, _, _, _, _⟩, _, _⟩ :: _) _ _ _); refine SLl.rdSeq rfl rfl (Rd.len rfl (by (first | exact Len.nil | (apply Len.row; (· (repeat (first | apply Sel.here | apply Sel.there | apply Upd.here | apply Upd.there)))) | (apply Len.rs; exact Rs.mono (by assumption) (by (repeat' (first | exact Ent.refl | exact Ent.appR | apply Ent.skip))))))) ?_)
 | ((show SLl _ _ _ _ _ (⟨⟨_, .binOp _ _ _ _ _, _, _, _, _⟩, _, _⟩ :: _) _ _ _); (first
 | refine SLl.pu rfl rfl rfl (Pu.add rfl rfl (IntWalk.i64_in _ (by omega))) ?_
 | refine SLl.pu rfl rfl rfl (Pu.sub rfl rfl (IntWalk.i64_in _ (by omega))) ?_
 | (refine SLl.cmp rfl rfl rfl rfl rfl rfl ?_ ?_ <;> intro hq <;> simp only [cmpP] at hq <;> try (first
 | exact (hq trivial).elim
 | (exfalso; omega)))
 | refine SLl.pu rfl rfl rfl (Pu.eqNilT rfl rfl) ?_
 | refine SLl.pu rfl rfl rfl (Pu.neNilF rfl rfl) ?_
 | refine SLl.rdSeq rfl rfl (Rd.eqNilF rfl rfl (by (first | exact Len.nil | (apply Len.row; (· (repeat (first | apply Sel.here | apply Sel.there | apply Upd.here | apply Upd.there)))) | (apply Len.rs; exact Rs.mono (by assumption) (by (repeat' (first | exact Ent.refl | exact Ent.appR | apply Ent.skip)))))) (by assumption)) ?_
 | refine SLl.rdSeq rfl rfl (Rd.neNilT rfl rfl (by (first | exact Len.nil | (apply Len.row; (· (repeat (first | apply Sel.here | apply Sel.there | apply Upd.here | apply Upd.there)))) | (apply Len.rs; exact Rs.mono (by assumption) (by (repeat' (first | exact Ent.refl | exact Ent.appR | apply Ent.skip)))))) (by assumption)) ?_
 | refine SLl.pu rfl rfl rfl (Pu.eqPtrNil rfl rfl) ?_
 | refine SLl.pu rfl rfl rfl (Pu.eqBool rfl rfl) ?_
 | refine SLl.pu rfl rfl rfl (Pu.neBool rfl rfl) ?_))
 | ((show SLl _ _ _ _ _ (⟨⟨_, .store _ _ _, _, _, _, _⟩, _, _⟩ :: _) _ _ _); (first | (refine SLl.seq0 rfl (SLo.store rfl rfl rfl (by (first | exact One.lit rfl | exact One.lit (by assumption) | exact One.mono (by assumption) (by (repeat' (first | exact Ent.refl | exact Ent.appR | apply Ent.skip))) | exact One.len (by (first | exact Len.nil | (apply Len.row; (· (repeat (first | apply Sel.here | apply Sel.there | apply Upd.here | apply Upd.there)))) | (apply Len.rs; exact Rs.mono (by assumption) (by (repeat' (first | exact Ent.refl | exact Ent.appR | apply Ent.skip)))))))) (by (first | (apply Wr.blk; (· (repeat (first | apply Sel.here | apply Sel.there | apply Upd.here | apply Upd.there))); (· exact Nat.le_of_ble_eq_true rfl)) | (apply Wr.row; (· (first | rfl | assumption)); (· exact Nat.le_of_ble_eq_true rfl); (· (repeat (first | apply Sel.here | apply Sel.there | apply Upd.here | apply Upd.there)))))) ?_)) | (refine SLl.seq0 rfl (SLo.storeN rfl rfl rfl (by (repeat' (first | exact trivial | (apply And.intro; (· (first | exact One.lit rfl | exact One.lit (by assumption) | exact One.mono (by assumption) (by (repeat' (first | exact Ent.refl | exact Ent.appR | apply Ent.skip))) | exact One.len (by (first | exact Len.nil | (apply Len.row; (· (repeat (first | apply Sel.here | apply Sel.there | apply Upd.here | apply Upd.there)))) | (apply Len.rs; exact Rs.mono (by assumption) (by (repeat' (first | exact Ent.refl | exact Ent.appR | apply Ent.skip)))))))))))) (Nat.le_of_ble_eq_true rfl) (by (repeat (first | apply Sel.here | apply Sel.there | apply Upd.here | apply Upd.there))) ?_))))
 | ((show SLl _ _ _ _ _ (⟨⟨_, .box _ _, _, _, _, _⟩, _, _⟩ :: _) _ _ _); refine SLl.seq rfl rfl (SLo.boxC rfl (by (first | exact Cel.one (by (first | exact One.lit rfl | exact One.lit (by assumption) | exact One.mono (by assumption) (by (repeat' (first | exact Ent.refl | exact Ent.appR | apply Ent.skip))) | exact One.len (by (first | exact Len.nil | (apply Len.row; (· (repeat (first | apply Sel.here | apply Sel.there | apply Upd.here | apply Upd.there)))) | (apply Len.rs; exact Rs.mono (by assumption) (by (repeat' (first | exact Ent.refl | exact Ent.appR | apply Ent.skip)))))))) | exact Cel.agg)) ?_); intro b)
 | ((show SLl _ _ _ _ _ (⟨⟨_, .alloc _, _, _, _, _⟩, _, _⟩ :: _) _ _ _); refine SLl.seq rfl rfl (SLo.alloc ?_); intro b)
 | ((show SLl _ _ _ _ _ (⟨⟨_, .build _ _, _, _, _, _⟩, _, _⟩ :: _) _ _ _); first
 | refine SLl.rdSeq rfl rfl (Rd.build rfl (by (repeat (first | exact CellsW.nil | (apply CellsW.cons; (· (first | exact Cel.one (by (first | exact One.lit rfl | exact One.lit (by assumption) | exact One.mono (by assumption) (by (repeat' (first | exact Ent.refl | exact Ent.appR | apply Ent.skip))) | exact One.len (by (first | exact Len.nil | (apply Len.row; (· (repeat (first | apply Sel.here | apply Sel.there | apply Upd.here | apply Upd.there)))) | (apply Len.rs; exact Rs.mono (by assumption) (by (repeat' (first | exact Ent.refl | exact Ent.appR | apply Ent.skip)))))))) | exact Cel.agg)))))) (by rfl)) ?_
 | refine SLl.pu rfl rfl rfl (Pu.build rfl rfl) ?_)
 | refine SLl.skip rfl rfl ?_))
 | (first
 | refine SLc.seq ?_
 | refine SLc.region rfl ?_
 | refine SLc.condT rfl ?_
 | refine SLc.condF rfl ?_
 | refine SLc.block ?_
 | refine SLc.skip ?_
 | refine SLc.exit ?_
 | refine SLc.ret ?_)))
      refine SLc.draws [.row lv 24 1 [[sl]], .blk b 24 [sl]] [(0, .take), (1, .take), (3, .take), (4, .take), (2, .eff true), (5, .eff true), (6, .take), (7, .take)] mixed (by kernel_rfl) .refl ?_
      (repeat' (first
 | (first
 | refine SLl.nil ?_
 | ((show SLl _ _ _ _ _ (⟨⟨_, _, _, _, _, _⟩, _, _⟩ :: _) _ _ _); first
 | refine SLl.ev rfl rfl rfl rfl ?_
 | ((show SLl _ _ _ _ _ (⟨⟨_, .load _ _, _, _, _, _⟩, _, _⟩ :: _) _ _ _); (first | refine SLl.rdTake rfl rfl (Rd.load rfl rfl (by (first | (apply Reads.blk; (· (repeat (first | apply Sel.here | apply Sel.there | apply Upd.here | apply Upd.there))); (· rfl)) | (apply Reads.row; (· (repeat (first | apply Sel.here | apply Sel.there | apply Upd.here | apply Upd.there))); (· (first | rfl | assumption)); (· rfl)) | (apply Reads.rs; (· exact Rs.mono (by assumption) (by (repeat' (first | exact Ent.refl | exact Ent.appR | apply Ent.skip)))); (· (first | rfl | assumption)); (· rfl))))) ?_ | refine SLl.rdTake rfl rfl (Rd.loadN rfl rfl (by (first | exact ReadsN.mono (by assumption) (by (repeat' (first | exact Ent.refl | exact Ent.appR | apply Ent.skip))) | (apply ReadsN.blk0; (· (repeat (first | apply Sel.here | apply Sel.there | apply Upd.here | apply Upd.there)))) | (apply ReadsN.row0; (· (repeat (first | apply Sel.here | apply Sel.there | apply Upd.here | apply Upd.there))); (· (first | rfl | assumption))) | (apply ReadsN.rs0; (· exact Rs.mono (by assumption) (by (repeat' (first | exact Ent.refl | exact Ent.appR | apply Ent.skip)))); (· (first | rfl | assumption))))) (by rfl)) ?_))
 | ((show SLl _ _ _ _ _ (⟨⟨_, .fieldAddr _ _ _, _, _, _, _⟩, _, _⟩ :: _) _ _ _); (first | refine SLl.pu rfl rfl rfl (Pu.fieldAddr rfl) ?_ | refine SLl.rdTake rfl rfl (Rd.fieldAddrEl rfl (by (first | exact Len.nil | (apply Len.row; (· (repeat (first | apply Sel.here | apply Sel.there | apply Upd.here | apply Upd.there)))) | (apply Len.rs; exact Rs.mono (by assumption) (by (repeat' (first | exact Ent.refl | exact Ent.appR | apply Ent.skip)))))) (by omega)) ?_))
 | ((show SLl _ _ _ _ _ (⟨⟨_, .indexAddr _ _ _, _, _, _, _⟩, _, _⟩ :: _) _ _ _); (refine SLl.rdTake rfl rfl (Rd.indexAddr rfl rfl (by (first | exact Len.nil | (apply Len.row; (· (repeat (first | apply Sel.here | apply Sel.there | apply Upd.here | apply Upd.there)))) | (apply Len.rs; exact Rs.mono (by assumption) (by (repeat' (first | exact Ent.refl | exact Ent.appR | apply Ent.skip)))))) (by (first | exact ij0 | exact ij1 | exact ij2 | exact ij3 | exact ij4 | exact ij5 | rfl | exact (Int.toNat_of_nonneg (by omega)).symm)) (by omega)) ?_))
 | ((show SLl _ _ _ _ _ (⟨⟨_, .call ⟨.builtin .len, _, _⟩, _, _, _, _⟩, _, _⟩ :: _) _ _ _); refine SLl.rdTake rfl rfl (Rd.len rfl (by (first | exact Len.nil | (apply Len.row; (· (repeat (first | apply Sel.here | apply Sel.there | apply Upd.here | apply Upd.there)))) | (apply Len.rs; exact Rs.mono (by assumption) (by (repeat' (first | exact Ent.refl | exact Ent.appR | apply Ent.skip))))))) ?_)
 | ((show SLl _ _ _ _ _ (⟨⟨_, .binOp _ _ _ _ _, _, _, _, _⟩, _, _⟩ :: _) _ _ _); (first
 | refine SLl.pu rfl rfl rfl (Pu.add rfl rfl (IntWalk.i64_in _ (by omega))) ?_
 | refine SLl.pu rfl rfl rfl (Pu.sub rfl rfl (IntWalk.i64_in _ (by omega))) ?_
 | (refine SLl.cmp rfl rfl rfl rfl rfl rfl ?_ ?_ <;> intro hq <;> simp only [cmpP] at hq <;> try (first
 | exact (hq trivial).elim
 | (exfalso; omega)))
 | refine SLl.pu rfl rfl rfl (Pu.eqNilT rfl rfl) ?_
 | refine SLl.pu rfl rfl rfl (Pu.neNilF rfl rfl) ?_
 | refine SLl.rdTake rfl rfl (Rd.eqNilF rfl rfl (by (first | exact Len.nil | (apply Len.row; (· (repeat (first | apply Sel.here | apply Sel.there | apply Upd.here | apply Upd.there)))) | (apply Len.rs; exact Rs.mono (by assumption) (by (repeat' (first | exact Ent.refl | exact Ent.appR | apply Ent.skip)))))) (by assumption)) ?_
 | refine SLl.rdTake rfl rfl (Rd.neNilT rfl rfl (by (first | exact Len.nil | (apply Len.row; (· (repeat (first | apply Sel.here | apply Sel.there | apply Upd.here | apply Upd.there)))) | (apply Len.rs; exact Rs.mono (by assumption) (by (repeat' (first | exact Ent.refl | exact Ent.appR | apply Ent.skip)))))) (by assumption)) ?_
 | refine SLl.pu rfl rfl rfl (Pu.eqPtrNil rfl rfl) ?_
 | refine SLl.pu rfl rfl rfl (Pu.eqBool rfl rfl) ?_
 | refine SLl.pu rfl rfl rfl (Pu.neBool rfl rfl) ?_))
 | ((show SLl _ _ _ _ _ (⟨⟨_, .store _ _ _, _, _, _, _⟩, _, _⟩ :: _) _ _ _); (first | (refine SLl.seq0 rfl (SLo.store rfl rfl rfl (by (first | exact One.lit rfl | exact One.lit (by assumption) | exact One.mono (by assumption) (by (repeat' (first | exact Ent.refl | exact Ent.appR | apply Ent.skip))) | exact One.len (by (first | exact Len.nil | (apply Len.row; (· (repeat (first | apply Sel.here | apply Sel.there | apply Upd.here | apply Upd.there)))) | (apply Len.rs; exact Rs.mono (by assumption) (by (repeat' (first | exact Ent.refl | exact Ent.appR | apply Ent.skip)))))))) (by (first | (apply Wr.blk; (· (repeat (first | apply Sel.here | apply Sel.there | apply Upd.here | apply Upd.there))); (· exact Nat.le_of_ble_eq_true rfl)) | (apply Wr.row; (· (first | rfl | assumption)); (· exact Nat.le_of_ble_eq_true rfl); (· (repeat (first | apply Sel.here | apply Sel.there | apply Upd.here | apply Upd.there)))))) ?_)) | (refine SLl.seq0 rfl (SLo.storeN rfl rfl rfl (by (repeat' (first | exact trivial | (apply And.intro; (· (first | exact One.lit rfl | exact One.lit (by assumption) | exact One.mono (by assumption) (by (repeat' (first | exact Ent.refl | exact Ent.appR | apply Ent.skip))) | exact One.len (by (first | exact Len.nil | (apply Len.row; (· (repeat (first | apply Sel.here | apply Sel.there | apply Upd.here | apply Upd.there)))) | (apply Len.rs; exact Rs.mono (by assumption) (by (repeat' (first | exact Ent.refl | exact Ent.appR | apply Ent.skip)))))))))))) (Nat.le_of_ble_eq_true rfl) (by (repeat (first | apply Sel.here | apply Sel.there | apply Upd.here | apply Upd.there))) ?_))))
 | ((show SLl _ _ _ _ _ (⟨⟨_, .box _ _, _, _, _, _⟩, _, _⟩ :: _) _ _ _); refine SLl.seq rfl rfl (SLo.boxC rfl (by (first | exact Cel.one (by (first | exact One.lit rfl | exact One.lit (by assumption) | exact One.mono (by assumption) (by (repeat' (first | exact Ent.refl | exact Ent.appR | apply Ent.skip))) | exact One.len (by (first | exact Len.nil | (apply Len.row; (· (repeat (first | apply Sel.here | apply Sel.there | apply Upd.here | apply Upd.there)))) | (apply Len.rs; exact Rs.mono (by assumption) (by (repeat' (first | exact Ent.refl | exact Ent.appR | apply Ent.skip)))))))) | exact Cel.agg)) ?_); intro b)
 | ((show SLl _ _ _ _ _ (⟨⟨_, .alloc _, _, _, _, _⟩, _, _⟩ :: _) _ _ _); refine SLl.seq rfl rfl (SLo.alloc ?_); intro b)
 | ((show SLl _ _ _ _ _ (⟨⟨_, .build _ _, _, _, _, _⟩, _, _⟩ :: _) _ _ _); first
 | refine SLl.rdTake rfl rfl (Rd.build rfl (by (repeat (first | exact CellsW.nil | (apply CellsW.cons; (· (first | exact Cel.one (by (first | exact One.lit rfl | exact One.lit (by assumption) | exact One.mono (by assumption) (by (repeat' (first | exact Ent.refl | exact Ent.appR | apply Ent.skip))) | exact One.len (by (first | exact Len.nil | (apply Len.row; (· (repeat (first | apply Sel.here | apply Sel.there | apply Upd.here | apply Upd.there)))) | (apply Len.rs; exact Rs.mono (by assumption) (by (repeat' (first | exact Ent.refl | exact Ent.appR | apply Ent.skip)))))))) | exact Cel.agg)))))) (by rfl)) ?_
 | refine SLl.pu rfl rfl rfl (Pu.build rfl rfl) ?_)
 | refine SLl.skip rfl rfl ?_))
 | (first
 | refine SLc.seq ?_
 | refine SLc.region rfl ?_
 | refine SLc.condT rfl ?_
 | refine SLc.condF rfl ?_
 | refine SLc.block ?_
 | refine SLc.skip ?_
 | refine SLc.exit ?_
 | refine SLc.ret ?_)))
      refine SLl.eff rfl rfl (SLo.call plain32 rfl (SLf.mono (RFrom_no W _ sl G root (hx.graphR _) hm) ?_))
      rintro v σ ⟨rfl, rfl⟩
      refine And.intro (fun _ => by (repeat' (first | exact Ent.refl | exact Ent.appR | apply Ent.skip))) ?_
      refine SLl.eff rfl rfl (SLo.call plain33 rfl (SLf.mono (RUsers_no W _ sl G root (hx.graphR _) hm) ?_))
      rintro v σ ⟨rfl, rfl⟩
      refine And.intro (fun _ => by (repeat' (first | exact Ent.refl | exact Ent.appR | apply Ent.skip))) ?_
      (repeat' (first
 | (first
 | refine SLl.nil ?_
 | ((show SLl _ _ _ _ _ (⟨⟨_, _, _, _, _, _⟩, _, _⟩ :: _) _ _ _); first
 | refine SLl.ev rfl rfl rfl rfl ?_
 | ((show SLl _ _ _ _ _ (⟨⟨_, .load _ _, _, _, _, _⟩, _, _⟩ :: _) _ _ _); (first | refine SLl.rdSeq rfl rfl (Rd.load rfl rfl (by (first | (apply Reads.blk; (· (repeat (first | apply Sel.here | apply Sel.there | apply Upd.here | apply Upd.there))); (· rfl)) | (apply Reads.row; (· (repeat (first | apply Sel.here | apply Sel.there | apply Upd.here | apply Upd.there))); (· (first | rfl | assumption)); (· rfl)) | (apply Reads.rs; (· exact Rs.mono (by assumption) (by (repeat' (first | exact Ent.refl | exact Ent.appR | apply Ent.skip)))); (· (first | rfl | assumption)); (· rfl))))) ?_ | refine SLl.rdSeq rfl rfl (Rd.loadN rfl rfl (by (first | exact ReadsN.mono (by assumption) (by (repeat' (first | exact Ent.refl | exact Ent.appR | apply Ent.skip))) | (apply ReadsN.blk0; (· (repeat (first | apply Sel.here | apply Sel.there | apply Upd.here | apply Upd.there)))) | (apply ReadsN.row0; (· (repeat (first | apply Sel.here | apply Sel.there | apply Upd.here | apply Upd.there))); (· (first | rfl | assumption))) | (apply ReadsN.rs0; (· exact Rs.mono (by assumption) (by (repeat' (first | exact Ent.refl | exact Ent.appR | apply Ent.skip)))); (· (first | rfl | assumption))))) (by rfl)) ?_))
 | ((show SLl _ _ _ _ _ (⟨⟨_, .fieldAddr _ _ _, _, _, _, _⟩, _, _⟩ :: _) _ _ _); (first | refine SLl.pu rfl rfl rfl (Pu.fieldAddr rfl) ?_ | refine SLl.rdSeq rfl rfl (Rd.fieldAddrEl rfl (by (first | exact Len.nil | (apply Len.row; (· (repeat (first | apply Sel.here | apply Sel.there | apply Upd.here | apply Upd.there)))) | (apply Len.rs; exact Rs.mono (by assumption) (by (repeat' (first | exact Ent.refl | exact Ent.appR | apply Ent.skip)))))) (by omega)) ?_))
 | ((show SLl _ _ _ _ _ (⟨⟨_, .indexAddr _ _ _, _, _, _, _⟩, _, _⟩ :: _) _ _ _); (refine SLl.rdSeq rfl rfl (Rd.indexAddr rfl rfl (by (first | exact Len.nil | (apply Len.row; (· (repeat (first | apply Sel.here | apply Sel.there | apply Upd.here | apply Upd.there)))) | (apply Len.rs; exact Rs.mono (by assumption) (by (repeat' (first | exact Ent.refl | exact Ent.appR | apply Ent.skip)))))) (by (first | exact ij0 | exact ij1 | exact ij2 | exact ij3 | exact ij4 | exact ij5 | rfl | exact (Int.toNat_of_nonneg (by omega)).symm)) (by omega)) ?_))
 | ((show SLl _ _ _ _ _ (⟨⟨_, .call ⟨.builtin .len, _, _⟩, _, _, _, _⟩, _, _⟩ :: _) _ _ _); refine SLl.rdSeq rfl rfl (Rd.len rfl (by (first | exact Len.nil | (apply Len.row; (· (repeat (first | apply Sel.here | apply Sel.there | apply Upd.here | apply Upd.there)))) | (apply Len.rs; exact Rs.mono (by assumption) (by (repeat' (first | exact Ent.refl | exact Ent.appR | apply Ent.skip))))))) ?_)
 | ((show SLl _ _ _ _ _ (⟨⟨_, .binOp _ _ _ _ _, _, _, _, _⟩, _, _⟩ :: _) _ _ _); (first
 | refine SLl.pu rfl rfl rfl (Pu.add rfl rfl (IntWalk.i64_in _ (by omega))) ?_
 | refine SLl.pu rfl rfl rfl (Pu.sub rfl rfl (IntWalk.i64_in _ (by omega))) ?_
 | (refine SLl.cmp rfl rfl rfl rfl rfl rfl ?_ ?_ <;> intro hq <;> simp only [cmpP] at hq <;> try (first
 | exact (hq trivial).elim
 | (exfalso; omega)))
 | refine SLl.pu rfl rfl rfl (Pu.eqNilT rfl rfl) ?_
 | refine SLl.pu rfl rfl rfl (Pu.neNilF rfl rfl) ?_
 | refine SLl.rdSeq rfl rfl (Rd.eqNilF rfl rfl (by (first | exact Len.nil | (apply Len.row; (· (repeat (first | apply Sel.here | apply Sel.there | apply Upd.here | apply Upd.there)))) | (apply Len.rs; exact Rs.mono (by assumption) (by (repeat' (first | exact Ent.refl | exact Ent.appR | apply Ent.skip)))))) (by assumption)) ?_
 | refine SLl.rdSeq rfl rfl (Rd.neNilT rfl rfl (by (first | exact Len.nil | (apply Len.row; (· (repeat (first | apply Sel.here | apply Sel.there | apply Upd.here | apply Upd.there)))) | (apply Len.rs; exact Rs.mono (by assumption) (by (repeat' (first | exact Ent.refl | exact Ent.appR | apply Ent.skip)))))) (by assumption)) ?_
 | refine SLl.pu rfl rfl rfl (Pu.eqPtrNil rfl rfl) ?_
 | refine SLl.pu rfl rfl rfl (Pu.eqBool rfl rfl) ?_
 | refine SLl.pu rfl rfl rfl (Pu.neBool rfl rfl) ?_))
 | ((show SLl _ _ _ _ _ (⟨⟨_, .store _ _ _, _, _, _, _⟩, _, _⟩ :: _) _ _ _); (first | (refine SLl.seq0 rfl (SLo.store rfl rfl rfl (by (first | exact One.lit rfl | exact One.lit (by assumption) | exact One.mono (by assumption) (by (repeat' (first | exact Ent.refl | exact Ent.appR | apply Ent.skip))) | exact One.len (by (first | exact Len.nil | (apply Len.row; (· (repeat (first | apply Sel.here | apply Sel.there | apply Upd.here | apply Upd.there)))) | (apply Len.rs; exact Rs.mono (by assumption) (by (repeat' (first | exact Ent.refl | exact Ent.appR | apply Ent.skip)))))))) (by (first | (apply Wr.blk; (· (repeat (first | apply Sel.here | apply Sel.there | apply Upd.here | apply Upd.there))); (· exact Nat.le_of_ble_eq_true rfl)) | (apply Wr.row; (· (first | rfl | assumption)); (· exact Nat.le_of_ble_eq_true rfl); (· (repeat (first | apply Sel.here | apply Sel.there | apply Upd.here | apply Upd.there)))))) ?_)) | (refine SLl.seq0 rfl (SLo.storeN rfl rfl rfl (by (repeat' (first | exact trivial | (apply And.intro; (· (first | exact One.lit rfl | exact One.lit (by assumption) | exact One.mono (by assumption) (by (repeat' (first | exact Ent.refl | exact Ent.appR | apply Ent.skip))) | exact One.len (by (first | exact Len.nil | (apply Len.row; (· (repeat (first | apply Sel.here | apply Sel.there | apply Upd.here | apply Upd.there)))) | (apply Len.rs; exact Rs.mono (by assumption) (by (repeat' (first | exact Ent.refl | exact Ent.appR | apply Ent.skip)))))))))))) (Nat.le_of_ble_eq_true rfl) (by (repeat (first | apply Sel.here | apply Sel.there | apply Upd.here | apply Upd.there))) ?_))))
 | ((show SLl _ _ _ _ _ (⟨⟨_, .box _ _, _, _, _, _⟩, _, _⟩ :: _) _ _ _); refine SLl.seq rfl rfl (SLo.boxC rfl (by (first | exact Cel.one (by (first | exact One.lit rfl | exact One.lit (by assumption) | exact One.mono (by assumption) (by (repeat' (first | exact Ent.refl | exact Ent.appR | apply Ent.skip))) | exact One.len (by (first | exact Len.nil | (apply Len.row; (· (repeat (first | apply Sel.here | apply Sel.there | apply Upd.here | apply Upd.there)))) | (apply Len.rs; exact Rs.mono (by assumption) (by (repeat' (first | exact Ent.refl | exact Ent.appR | apply Ent.skip)))))))) | exact Cel.agg)) ?_); intro b)
 | ((show SLl _ _ _ _ _ (⟨⟨_, .alloc _, _, _, _, _⟩, _, _⟩ :: _) _ _ _); refine SLl.seq rfl rfl (SLo.alloc ?_); intro b)
 | ((show SLl _ _ _ _ _ (⟨⟨_, .build _ _, _, _, _, _⟩, _, _⟩ :: _) _ _ _); first
 | refine SLl.rdSeq rfl rfl (Rd.build rfl (by (repeat (first | exact CellsW.nil | (apply CellsW.cons; (· (first | exact Cel.one (by (first | exact One.lit rfl | exact One.lit (by assumption) | exact One.mono (by assumption) (by (repeat' (first | exact Ent.refl | exact Ent.appR | apply Ent.skip))) | exact One.len (by (first | exact Len.nil | (apply Len.row; (· (repeat (first | apply Sel.here | apply Sel.there | apply Upd.here | apply Upd.there)))) | (apply Len.rs; exact Rs.mono (by assumption) (by (repeat' (first | exact Ent.refl | exact Ent.appR | apply Ent.skip)))))))) | exact Cel.agg)))))) (by rfl)) ?_
 | refine SLl.pu rfl rfl rfl (Pu.build rfl rfl) ?_)
 | refine SLl.skip rfl rfl ?_))
 | (first
 | refine SLc.seq ?_
 | refine SLc.region rfl ?_
 | refine SLc.condT rfl ?_
 | refine SLc.condF rfl ?_
 | refine SLc.block ?_
 | refine SLc.skip ?_
 | refine SLc.exit ?_
 | refine SLc.ret ?_)))
      refine SLc.loop (ι := Unit) (fun _ => [(10, .int .i64 0), (5, .slice none 0 0)]) (fun _ => []) (fun _ => True) (fun _ => 0) () trivial (by (repeat' (first | exact trivial | apply And.intro | rfl))) .drop ?_
      rintro _ _
      (repeat' (first
 | (first
 | refine SLl.nil ?_
 | ((show SLl _ _ _ _ _ (⟨⟨_, _, _, _, _, _⟩, _, _⟩ :: _) _ _ _); first
 | refine SLl.ev rfl rfl rfl rfl ?_
 | ((show SLl _ _ _ _ _ (⟨⟨_, .load _ _, _, _, _, _⟩, _, _⟩ :: _) _ _ _); (first | refine SLl.rdSeq rfl rfl (Rd.load rfl rfl (by (first | (apply Reads.blk; (· (repeat (first | apply Sel.here | apply Sel.there | apply Upd.here | apply Upd.there))); (· rfl)) | (apply Reads.row; (· (repeat (first | apply Sel.here | apply Sel.there | apply Upd.here | apply Upd.there))); (· (first | rfl | assumption)); (· rfl)) | (apply Reads.rs; (· exact Rs.mono (by assumption) (by (repeat' (first | exact Ent.refl | exact Ent.appR | apply Ent.skip)))); (· (first | rfl | assumption)); (· rfl))))) ?_ | refine SLl.rdSeq rfl rfl (Rd.loadN rfl rfl (by (first | exact ReadsN.mono (by assumption) (by (repeat' (first | exact Ent.refl | exact Ent.appR | apply Ent.skip))) | (apply ReadsN.blk0; (· (repeat (first | apply Sel.here | apply Sel.there | apply Upd.here | apply Upd.there)))) | (apply ReadsN.row0; (· (repeat (first | apply Sel.here | apply Sel.there | apply Upd.here | apply Upd.there))); (· (first | rfl | assumption))) | (apply ReadsN.rs0; (· exact Rs.mono (by assumption) (by (repeat' (first | exact Ent.refl | exact Ent.appR | apply Ent.skip)))); (· (first | rfl | assumption))))) (by rfl)) ?_))
 | ((show SLl _ _ _ _ _ (⟨⟨_, .fieldAddr _ _ _, _, _, _, _⟩, _, _⟩ :: _) _ _ _); (first | refine SLl.pu rfl rfl rfl (Pu.fieldAddr rfl) ?_ | refine SLl.rdSeq rfl rfl (Rd.fieldAddrEl rfl (by (first | exact Len.nil | (apply Len.row; (· (repeat (first | apply Sel.here | apply Sel.there | apply Upd.here | apply Upd.there)))) | (apply Len.rs; exact Rs.mono (by assumption) (by (repeat' (first | exact Ent.refl | exact Ent.appR | apply Ent.skip)))))) (by omega)) ?_))
 | ((show SLl _ _ _ _ _ (⟨⟨_, .indexAddr _ _ _, _, _, _, _⟩, _, _⟩ :: _) _ _ _); (refine SLl.rdSeq rfl rfl (Rd.indexAddr rfl rfl (by (first | exact Len.nil | (apply Len.row; (· (repeat (first | apply Sel.here | apply Sel.there | apply Upd.here | apply Upd.there)))) | (apply Len.rs; exact Rs.mono (by assumption) (by (repeat' (first | exact Ent.refl | exact Ent.appR | apply Ent.skip)))))) (by (first | exact ij0 | exact ij1 | exact ij2 | exact ij3 | exact ij4 | exact ij5 | rfl | exact (Int.toNat_of_nonneg (by omega)).symm)) (by omega)) ?_))
 | ((show SLl _ _ _ _ _ (⟨⟨_, .call ⟨.builtin .len, _, _⟩, _, _, _, _⟩, _, _⟩ :: _) _ _ _); refine SLl.rdSeq rfl rfl (Rd.len rfl (by (first | exact Len.nil | (apply Len.row; (· (repeat (first | apply Sel.here | apply Sel.there | apply Upd.here | apply Upd.there)))) | (apply Len.rs; exact Rs.mono (by assumption) (by (repeat' (first | exact Ent.refl | exact Ent.appR | apply Ent.skip))))))) ?_)
 | ((show SLl _ _ _ _ _ (⟨⟨_, .binOp _ _ _ _ _, _, _, _, _⟩, _, _⟩ :: _) _ _ _); (first
 | refine SLl.pu rfl rfl rfl (Pu.add rfl rfl (IntWalk.i64_in _ (by omega))) ?_
 | refine SLl.pu rfl rfl rfl (Pu.sub rfl rfl (IntWalk.i64_in _ (by omega))) ?_
 | (refine SLl.cmp rfl rfl rfl rfl rfl rfl ?_ ?_ <;> intro hq <;> simp only [cmpP] at hq <;> try (first
 | exact (hq trivial).elim
 | (exfalso; omega)))
 | refine SLl.pu rfl rfl rfl (Pu.eqNilT rfl rfl) ?_
 | refine SLl.pu rfl rfl rfl (Pu.neNilF rfl rfl) ?_
 | refine SLl.rdSeq rfl rfl (Rd.eqNilF rfl rfl (by (first | exact Len.nil | (apply Len.row; (· (repeat (first | apply Sel.here | apply Sel.there | apply Upd.here | apply Upd.there)))) | (apply Len.rs; exact Rs.mono (by assumption) (by (repeat' (first | exact Ent.refl | exact Ent.appR | apply Ent.skip)))))) (by assumption)) ?_
 | refine SLl.rdSeq rfl rfl (Rd.neNilT rfl rfl (by (first | exact Len.nil | (apply Len.row; (· (repeat (first | apply Sel.here | apply Sel.there | apply Upd.here | apply Upd.there)))) | (apply Len.rs; exact Rs.mono (by assumption) (by (repeat' (first | exact Ent.refl | exact Ent.appR | apply Ent.skip)))))) (by assumption)) ?_
 | refine SLl.pu rfl rfl rfl (Pu.eqPtrNil rfl rfl) ?_
 | refine SLl.pu rfl rfl rfl (Pu.eqBool rfl rfl) ?_
 | refine SLl.pu rfl rfl rfl (Pu.neBool rfl rfl) ?_))
 | ((show SLl _ _ _ _ _ (⟨⟨_, .store _ _ _, _, _, _, _⟩, _, _⟩ :: _) _ _ _); (first | (refine SLl.seq0 rfl (SLo.store rfl rfl rfl (by (first | exact One.lit rfl | exact One.lit (by assumption) | exact One.mono (by assumption) (by (repeat' (first | exact Ent.refl | exact Ent.appR | apply Ent.skip))) | exact One.len (by (first | exact Len.nil | (apply Len.row; (· (repeat (first | apply Sel.here | apply Sel.there | apply Upd.here | apply Upd.there)))) | (apply Len.rs; exact Rs.mono (by assumption) (by (repeat' (first | exact Ent.refl | exact Ent.appR | apply Ent.skip)))))))) (by (first | (apply Wr.blk; (· (repeat (first | apply Sel.here | apply Sel.there | apply Upd.here | apply Upd.there))); (· exact Nat.le_of_ble_eq_true rfl)) | (apply Wr.row; (· (first | rfl | assumption)); (· exact Nat.le_of_ble_eq_true rfl); (· (repeat (first | apply Sel.here | apply Sel.there | apply Upd.here | apply Upd.there)))))) ?_)) | (refine SLl.seq0 rfl (SLo.storeN rfl rfl rfl (by (repeat' (first | exact trivial | (apply And.intro; (· (first | exact One.lit rfl | exact One.lit (by assumption) | exact One.mono (by assumption) (by (repeat' (first | exact Ent.refl | exact Ent.appR | apply Ent.skip))) | exact One.len (by (first | exact Len.nil | (apply Len.row; (· (repeat (first | apply Sel.here | apply Sel.there | apply Upd.here | apply Upd.there)))) | (apply Len.rs; exact Rs.mono (by assumption) (by (repeat' (first | exact Ent.refl | exact Ent.appR | apply Ent.skip)))))))))))) (Nat.le_of_ble_eq_true rfl) (by (repeat (first | apply Sel.here | apply Sel.there | apply Upd.here | apply Upd.there))) ?_))))
 | ((show SLl _ _ _ _ _ (⟨⟨_, .box _ _, _, _, _, _⟩, _, _⟩ :: _) _ _ _); refine SLl.seq rfl rfl (SLo.boxC rfl (by (first | exact Cel.one (by (first | exact One.lit rfl | exact One.lit (by assumption) | exact One.mono (by assumption) (by (repeat' (first | exact Ent.refl | exact Ent.appR | apply Ent.skip))) | exact One.len (by (first | exact Len.nil | (apply Len.row; (· (repeat (first | apply Sel.here | apply Sel.there | apply Upd.here | apply Upd.there)))) | (apply Len.rs; exact Rs.mono (by assumption) (by (repeat' (first | exact Ent.refl | exact Ent.appR | apply Ent.skip)))))))) | exact Cel.agg)) ?_); intro b)
 | ((show SLl _ _ _ _ _ (⟨⟨_, .alloc _, _, _, _, _⟩, _, _⟩ :: _) _ _ _); refine SLl.seq rfl rfl (SLo.alloc ?_); intro b)
 | ((show SLl _ _ _ _ _ (⟨⟨_, .build _ _, _, _, _, _⟩, _, _⟩ :: _) _ _ _); first
 | refine SLl.rdSeq rfl rfl (Rd.build rfl (by (repeat (first | exact CellsW.nil | (apply CellsW.cons; (· (first | exact Cel.one (by (first | exact One.lit rfl | exact One.lit (by assumption) | exact One.mono (by assumption) (by (repeat' (first | exact Ent.refl | exact Ent.appR | apply Ent.skip))) | exact One.len (by (first | exact Len.nil | (apply Len.row; (· (repeat (first | apply Sel.here | apply Sel.there | apply Upd.here | apply Upd.there)))) | (apply Len.rs; exact Rs.mono (by assumption) (by (repeat' (first | exact Ent.refl | exact Ent.appR | apply Ent.skip)))))))) | exact Cel.agg)))))) (by rfl)) ?_
 | refine SLl.pu rfl rfl rfl (Pu.build rfl rfl) ?_)
 | refine SLl.skip rfl rfl ?_))
 | (first
 | refine SLc.seq ?_
 | refine SLc.region rfl ?_
 | refine SLc.condT rfl ?_
 | refine SLc.condF rfl ?_
 | refine SLc.block ?_
 | refine SLc.skip ?_
 | refine SLc.exit ?_
 | refine SLc.ret ?_)))
      refine And.intro rfl (Exists.intro _ (Exists.intro _ (And.intro rfl (And.intro .drop rfl))))
    | true =>
      obtain ⟨h0, h1, hin⟩ := mayF_spec hm
      obtain ⟨rt, rfl⟩ := Int.eq_ofNat_of_zero_le h0
      refine SLl.eff rfl rfl (SLo.call plain29 rfl (SLf.mono (From_yes W _ sl G rt (hx.graphR _) hm (by omega)) ?_))
      rintro rv σ ⟨hrv, rfl⟩
      refine And.intro (fun _ => by (repeat' (first | exact Ent.refl | exact Ent.appR | apply Ent.skip))) ?_
      refine SLl.eff rfl rfl (SLo.call plain30 rfl (SLf.mono (Users_yes W _ sl G rt (hx.graphR _) hm (by omega) (by omega)) ?_))
      rintro uv σ ⟨huv, ps, hps, rfl⟩
      refine And.intro (fun _ => .skip (.trans .appR (by (repeat' (first | exact Ent.refl | exact Ent.appR | apply Ent.skip))))) ?_
      refine SLl.eff rfl rfl (SLo.call plain31 rfl (SLf.mono (Counts_yes W _ sl G rt (hx.graphR _) hm (by omega) (by omega)) ?_))
      rintro cv σ rfl
      refine And.intro (fun _ => .skip (.skip (.trans .appR (by (repeat' (first | exact Ent.refl | exact Ent.appR | apply Ent.skip)))))) ?_
      (repeat' (first
 | (first
 | refine SLl.nil ?_
 | ((show SLl _ _ _ _ _ (⟨⟨_, _, _, _, _, _⟩, _, _⟩ :: _) _ _ _); first
 | refine SLl.ev rfl rfl rfl rfl ?_
 | ((show SLl _ _ _ _ _ (⟨⟨_, .load _ _, _, _, _, _⟩, _, _⟩ :: _) _ _ _); (first | refine SLl.rdSeq rfl rfl (Rd.load rfl rfl (by (first | (apply Reads.blk; (· (repeat (first | apply Sel.here | apply Sel.there | apply Upd.here | apply Upd.there))); (· rfl)) | (apply Reads.row; (· (repeat (first | apply Sel.here | apply Sel.there | apply Upd.here | apply Upd.there))); (· (first | rfl | assumption)); (· rfl)) | (apply Reads.rs; (· exact Rs.mono (by assumption) (by (repeat' (first | exact Ent.refl | exact Ent.appR | apply Ent.skip)))); (· (first | rfl | assumption)); (· rfl))))) ?_ | refine SLl.rdSeq rfl rfl (Rd.loadN rfl rfl (by (first | exact ReadsN.mono (by assumption) (by (repeat' (first | exact Ent.refl | exact Ent.appR | apply Ent.skip))) | (apply ReadsN.blk0; (· (repeat (first | apply Sel.here | apply Sel.there | apply Upd.here | apply Upd.there)))) | (apply ReadsN.row0; (· (repeat (first | apply Sel.here | apply Sel.there | apply Upd.here | apply Upd.there))); (· (first | rfl | assumption))) | (apply ReadsN.rs0; (· exact Rs.mono (by assumption) (by (repeat' (first | exact Ent.refl | exact Ent.appR | apply Ent.skip)))); (· (first | rfl | assumption))))) (by rfl)) ?_))
 | ((show SLl _ _ _ _ _ (⟨⟨_, .fieldAddr _ _ _, _, _, _, _⟩, _, _⟩ :: _) _ _ _); (first | refine SLl.pu rfl rfl rfl (Pu.fieldAddr rfl) ?_ | refine SLl.rdSeq rfl rfl (Rd.fieldAddrEl rfl (by (first | exact Len.nil | (apply Len.row; (· (repeat (first | apply Sel.here | apply Sel.there | apply Upd.here | apply Upd.there)))) | (apply Len.rs; exact Rs.mono (by assumption) (by (repeat' (first | exact Ent.refl | exact Ent.appR | apply Ent.skip)))))) (by omega)) ?_))
 | ((show SLl _ _ _ _ _ (⟨⟨_, .indexAddr _ _ _, _, _, _, _⟩, _, _⟩ :: _) _ _ _); (refine SLl.rdSeq rfl rfl (Rd.indexAddr rfl rfl (by (first | exact Len.nil | (apply Len.row; (· (repeat (first | apply Sel.here | apply Sel.there | apply Upd.here | apply Upd.there)))) | (apply Len.rs; exact Rs.mono (by assumption) (by (repeat' (first | exact Ent.refl | exact Ent.appR | apply Ent.skip)))))) (by (first | exact ij0 | exact ij1 | exact ij2 | exact ij3 | exact ij4 | exact ij5 | rfl | exact (Int.toNat_of_nonneg (by omega)).symm)) (by omega)) ?_))
 | ((show SLl _ _ _ _ _ (⟨⟨_, .call ⟨.builtin .len, _, _⟩, _, _, _, _⟩, _, _⟩ :: _) _ _ _); refine SLl.rdSeq rfl rfl (Rd.len rfl (by (first | exact Len.nil | (apply Len.row; (· (repeat (first | apply Sel.here | apply Sel.there | apply Upd.here | apply Upd.there)))) | (apply Len.rs; exact Rs.mono (by assumption) (by (repeat' (first | exact Ent.refl | exact Ent.appR | apply Ent.skip))))))) ?_)
 | ((show SLl _ _ _ _ _ (⟨⟨_, .binOp _ _ _ _ _, _, _, _, _⟩, _, _⟩ :: _) _ _ _); (first
 | refine SLl.pu rfl rfl rfl (Pu.add rfl rfl (IntWalk.i64_in _ (by omega))) ?_
 | refine SLl.pu rfl rfl rfl (Pu.sub rfl rfl (IntWalk.i64_in _ (by omega))) ?_
 | (refine SLl.cmp rfl rfl rfl rfl rfl rfl ?_ ?_ <;> intro hq <;> simp only [cmpP] at hq <;> try (first
 | exact (hq trivial).elim
 | (exfalso; omega)))
 | refine SLl.pu rfl rfl rfl (Pu.eqNilT rfl rfl) ?_
 | refine SLl.pu rfl rfl rfl (Pu.neNilF rfl rfl) ?_
 | refine SLl.rdSeq rfl rfl (Rd.eqNilF rfl rfl (by (first | exact Len.nil | (apply Len.row; (· (repeat (first | apply Sel.here | apply Sel.there | apply Upd.here | apply Upd.there)))) | (apply Len.rs; exact Rs.mono (by assumption) (by (repeat' (first | exact Ent.refl | exact Ent.appR | apply Ent.skip)))))) (by assumption)) ?_
 | refine SLl.rdSeq rfl rfl (Rd.neNilT rfl rfl (by (first | exact Len.nil | (apply Len.row; (· (repeat (first | apply Sel.here | apply Sel.there | apply Upd.here | apply Upd.there)))) | (apply Len.rs; exact Rs.mono (by assumption) (by (repeat' (first | exact Ent.refl | exact Ent.appR | apply Ent.skip)))))) (by assumption)) ?_
 | refine SLl.pu rfl rfl rfl (Pu.eqPtrNil rfl rfl) ?_
 | refine SLl.pu rfl rfl rfl (Pu.eqBool rfl rfl) ?_
 | refine SLl.pu rfl rfl rfl (Pu.neBool rfl rfl) ?_))
 | ((show SLl _ _ _ _ _ (⟨⟨_, .store _ _ _, _, _, _, _⟩, _, _⟩ :: _) _ _ _); (first | (refine SLl.seq0 rfl (SLo.store rfl rfl rfl (by (first | exact One.lit rfl | exact One.lit (by assumption) | exact One.mono (by assumption) (by (repeat' (first | exact Ent.refl | exact Ent.appR | apply Ent.skip))) | exact One.len (by (first | exact Len.nil | (apply Len.row; (· (repeat (first | apply Sel.here | apply Sel.there | apply Upd.here | apply Upd.there)))) | (apply Len.rs; exact Rs.mono (by assumption) (by (repeat' (first | exact Ent.refl | exact Ent.appR | apply Ent.skip)))))))) (by (first | (apply Wr.blk; (· (repeat (first | apply Sel.here | apply Sel.there | apply Upd.here | apply Upd.there))); (· exact Nat.le_of_ble_eq_true rfl)) | (apply Wr.row; (· (first | rfl | assumption)); (· exact Nat.le_of_ble_eq_true rfl); (· (repeat (first | apply Sel.here | apply Sel.there | apply Upd.here | apply Upd.there)))))) ?_)) | (refine SLl.seq0 rfl (SLo.storeN rfl rfl rfl (by (repeat' (first | exact trivial | (apply And.intro; (· (first | exact One.lit rfl | exact One.lit (by assumption) | exact One.mono (by assumption) (by (repeat' (first | exact Ent.refl | exact Ent.appR | apply Ent.skip))) | exact One.len (by (first | exact Len.nil | (apply Len.row; (· (repeat (first | apply Sel.here | apply Sel.there | apply Upd.here | apply Upd.there)))) | (apply Len.rs; exact Rs.mono (by assumption) (by (repeat' (first | exact Ent.refl | exact Ent.appR | apply Ent.skip)))))))))))) (Nat.le_of_ble_eq_true rfl) (by (repeat (first | apply Sel.here | apply Sel.there | apply Upd.here | apply Upd.there))) ?_))))
 | ((show SLl _ _ _ _ _ (⟨⟨_, .box _ _, _, _, _, _⟩, _, _⟩ :: _) _ _ _); refine SLl.seq rfl rfl (SLo.boxC rfl (by (first | exact Cel.one (by (first | exact One.lit rfl | exact One.lit (by assumption) | exact One.mono (by assumption) (by (repeat' (first | exact Ent.refl | exact Ent.appR | apply Ent.skip))) | exact One.len (by (first | exact Len.nil | (apply Len.row; (· (repeat (first | apply Sel.here | apply Sel.there | apply Upd.here | apply Upd.there)))) | (apply Len.rs; exact Rs.mono (by assumption) (by (repeat' (first | exact Ent.refl | exact Ent.appR | apply Ent.skip)))))))) | exact Cel.agg)) ?_); intro b)
 | ((show SLl _ _ _ _ _ (⟨⟨_, .alloc _, _, _, _, _⟩, _, _⟩ :: _) _ _ _); refine SLl.seq rfl rfl (SLo.alloc ?_); intro b)
 | ((show SLl _ _ _ _ _ (⟨⟨_, .build _ _, _, _, _, _⟩, _, _⟩ :: _) _ _ _); first
 | refine SLl.rdSeq rfl rfl (Rd.build rfl (by (repeat (first | exact CellsW.nil | (apply CellsW.cons; (· (first | exact Cel.one (by (first | exact One.lit rfl | exact One.lit (by assumption) | exact One.mono (by assumption) (by (repeat' (first | exact Ent.refl | exact Ent.appR | apply Ent.skip))) | exact One.len (by (first | exact Len.nil | (apply Len.row; (· (repeat (first | apply Sel.here | apply Sel.there | apply Upd.here | apply Upd.there)))) | (apply Len.rs; exact Rs.mono (by assumption) (by (repeat' (first | exact Ent.refl | exact Ent.appR | apply Ent.skip)))))))) | exact Cel.agg)))))) (by rfl)) ?_
 | refine SLl.pu rfl rfl rfl (Pu.build rfl rfl) ?_)
 | refine SLl.skip rfl rfl ?_))
 | (first
 | refine SLc.seq ?_
 | refine SLc.region rfl ?_
 | refine SLc.condT rfl ?_
 | refine SLc.condF rfl ?_
 | refine SLc.block ?_
 | refine SLc.skip ?_
 | refine SLc.exit ?_
 | refine SLc.ret ?_)))
      refine SLc.draws [.row lv 24 1 [[sl]], .blk b 24 [sl]] [(0, .take), (1, .take), (3, .take), (4, .take), (2, .eff true), (5, .eff true), (6, .take), (7, .take)] mixed (by kernel_rfl) (.skip (.skip (.trans .appR (by (repeat' (first | exact Ent.refl | exact Ent.appR | apply Ent.skip)))))) ?_
      (repeat' (first
 | (first
 | refine SLl.nil ?_
 | ((show SLl _ _ _ _ _ (⟨⟨_, _, _, _, _, _⟩, _, _⟩ :: _) _ _ _); first
 | refine SLl.ev rfl rfl rfl rfl ?_
 | ((show SLl _ _ _ _ _ (⟨⟨_, .load _ _, _, _, _, _⟩, _, _⟩ :: _) _ _ _); (first | refine SLl.rdTake rfl rfl (Rd.load rfl rfl (by (first | (apply Reads.blk; (· (repeat (first | apply Sel.here | apply Sel.there | apply Upd.here | apply Upd.there))); (· rfl)) | (apply Reads.row; (· (repeat (first | apply Sel.here | apply Sel.there | apply Upd.here | apply Upd.there))); (· (first | rfl | assumption)); (· rfl)) | (apply Reads.rs; (· exact Rs.mono (by assumption) (by (repeat' (first | exact Ent.refl | exact Ent.appR | apply Ent.skip)))); (· (first | rfl | assumption)); (· rfl))))) ?_ | refine SLl.rdTake rfl rfl (Rd.loadN rfl rfl (by (first | exact ReadsN.mono (by assumption) (by (repeat' (first | exact Ent.refl | exact Ent.appR | apply Ent.skip))) | (apply ReadsN.blk0; (· (repeat (first | apply Sel.here | apply Sel.there | apply Upd.here | apply Upd.there)))) | (apply ReadsN.row0; (· (repeat (first | apply Sel.here | apply Sel.there | apply Upd.here | apply Upd.there))); (· (first | rfl | assumption))) | (apply ReadsN.rs0; (· exact Rs.mono (by assumption) (by (repeat' (first | exact Ent.refl | exact Ent.appR | apply Ent.skip)))); (· (first | rfl | assumption))))) (by rfl)) ?_))
 | ((show SLl _ _ _ _ _ (⟨⟨_, .fieldAddr _ _ _, _, _, _, _⟩, _, _⟩ :: _) _ _ _); (first | refine SLl.pu rfl rfl rfl (Pu.fieldAddr rfl) ?_ | refine SLl.rdTake rfl rfl (Rd.fieldAddrEl rfl (by (first | exact Len.nil | (apply Len.row; (· (repeat (first | apply Sel.here | apply Sel.there | apply Upd.here | apply Upd.there)))) | (apply Len.rs; exact Rs.mono (by assumption) (by (repeat' (first | exact Ent.refl | exact Ent.appR | apply Ent.skip)))))) (by omega)) ?_))
 | ((show SLl _ _ _ _ _ (⟨⟨_, .indexAddr _ _ _, _, _, _, _⟩, _, _⟩ :: _) _ _ _); (refine SLl.rdTake rfl rfl (Rd.indexAddr rfl rfl (by (first | exact Len.nil | (apply Len.row; (· (repeat (first | apply Sel.here | apply Sel.there | apply Upd.here | apply Upd.there)))) | (apply Len.rs; exact Rs.mono (by assumption) (by (repeat' (first | exact Ent.refl | exact Ent.appR | apply Ent.skip)))))) (by (first | exact ij0 | exact ij1 | exact ij2 | exact ij3 | exact ij4 | exact ij5 | rfl | exact (Int.toNat_of_nonneg (by omega)).symm)) (by omega)) ?_))
 | ((show SLl _ _ _ _ _ (⟨⟨_, .call ⟨.builtin .len, _, _⟩, _, _, _, _⟩, _, _⟩ :: _) _ _ _); refine SLl.rdTake rfl rfl (Rd.len rfl (by (first | exact Len.nil | (apply Len.row; (· (repeat (first | apply Sel.here | apply Sel.there | apply Upd.here | apply Upd.there)))) | (apply Len.rs; exact Rs.mono (by assumption) (by (repeat' (first | exact Ent.refl | exact Ent.appR | apply Ent.skip))))))) ?_)
 | ((show SLl _ _ _ _ _ (⟨⟨_, .binOp _ _ _ _ _, _, _, _, _⟩, _, _⟩ :: _) _ _ _); (first
 | refine SLl.pu rfl rfl rfl (Pu.add rfl rfl (IntWalk.i64_in _ (by omega))) ?_
 | refine SLl.pu rfl rfl rfl (Pu.sub rfl rfl (IntWalk.i64_in _ (by omega))) ?_
 | (refine SLl.cmp rfl rfl rfl rfl rfl rfl ?_ ?_ <;> intro hq <;> simp only [cmpP] at hq <;> try (first
 | exact (hq trivial).elim
 | (exfalso; omega)))
 | refine SLl.pu rfl rfl rfl (Pu.eqNilT rfl rfl) ?_
 | refine SLl.pu rfl rfl rfl (Pu.neNilF rfl rfl) ?_
 | refine SLl.rdTake rfl rfl (Rd.eqNilF rfl rfl (by (first | exact Len.nil | (apply Len.row; (· (repeat (first | apply Sel.here | apply Sel.there | apply Upd.here | apply Upd.there)))) | (apply Len.rs; exact Rs.mono (by assumption) (by (repeat' (first | exact Ent.refl | exact Ent.appR | apply Ent.skip)))))) (by assumption)) ?_
 | refine SLl.rdTake rfl rfl (Rd.neNilT rfl rfl (by (first | exact Len.nil | (apply Len.row; (· (repeat (first | apply Sel.here | apply Sel.there | apply Upd.here | apply Upd.there)))) | (apply Len.rs; exact Rs.mono (by assumption) (by (repeat' (first | exact Ent.refl | exact Ent.appR | apply Ent.skip)))))) (by assumption)) ?_
 | refine SLl.pu rfl rfl rfl (Pu.eqPtrNil rfl rfl) ?_
 | refine SLl.pu rfl rfl rfl (Pu.eqBool rfl rfl) ?_
 | refine SLl.pu rfl rfl rfl (Pu.neBool rfl rfl) ?_))
 | ((show SLl _ _ _ _ _ (⟨⟨_, .store _ _ _, _, _, _, _⟩, _, _⟩ :: _) _ _ _); (first | (refine SLl.seq0 rfl (SLo.store rfl rfl rfl (by (first | exact One.lit rfl | exact One.lit (by assumption) | exact One.mono (by assumption) (by (repeat' (first | exact Ent.refl | exact Ent.appR | apply Ent.skip))) | exact One.len (by (first | exact Len.nil | (apply Len.row; (· (repeat (first | apply Sel.here | apply Sel.there | apply Upd.here | apply Upd.there)))) | (apply Len.rs; exact Rs.mono (by assumption) (by (repeat' (first | exact Ent.refl | exact Ent.appR | apply Ent.skip)))))))) (by (first | (apply Wr.blk; (· (repeat (first | apply Sel.here | apply Sel.there | apply Upd.here | apply Upd.there))); (· exact Nat.le_of_ble_eq_true rfl)) | (apply Wr.row; (· (first | rfl | assumption)); (· exact Nat.le_of_ble_eq_true rfl); (· (repeat (first | apply Sel.here | apply Sel.there | apply Upd.here | apply Upd.there)))))) ?_)) | (refine SLl.seq0 rfl (SLo.storeN rfl rfl rfl (by (repeat' (first | exact trivial | (apply And.intro; (· (first | exact One.lit rfl | exact One.lit (by assumption) | exact One.mono (by assumption) (by (repeat' (first | exact Ent.refl | exact Ent.appR | apply Ent.skip))) | exact One.len (by (first | exact Len.nil | (apply Len.row; (· (repeat (first | apply Sel.here | apply Sel.there | apply Upd.here | apply Upd.there)))) | (apply Len.rs; exact Rs.mono (by assumption) (by (repeat' (first | exact Ent.refl | exact Ent.appR | apply Ent.skip)))))))))))) (Nat.le_of_ble_eq_true rfl) (by (repeat (first | apply Sel.here | apply Sel.there | apply Upd.here | apply Upd.there))) ?_))))
 | ((show SLl _ _ _ _ _ (⟨⟨_, .box _ _, _, _, _, _⟩, _, _⟩ :: _) _ _ _); refine SLl.seq rfl rfl (SLo.boxC rfl (by (first | exact Cel.one (by (first | exact One.lit rfl | exact One.lit (by assumption) | exact One.mono (by assumption) (by (repeat' (first | exact Ent.refl | exact Ent.appR | apply Ent.skip))) | exact One.len (by (first | exact Len.nil | (apply Len.row; (· (repeat (first | apply Sel.here | apply Sel.there | apply Upd.here | apply Upd.there)))) | (apply Len.rs; exact Rs.mono (by assumption) (by (repeat' (first | exact Ent.refl | exact Ent.appR | apply Ent.skip)))))))) | exact Cel.agg)) ?_); intro b)
 | ((show SLl _ _ _ _ _ (⟨⟨_, .alloc _, _, _, _, _⟩, _, _⟩ :: _) _ _ _); refine SLl.seq rfl rfl (SLo.alloc ?_); intro b)
 | ((show SLl _ _ _ _ _ (⟨⟨_, .build _ _, _, _, _, _⟩, _, _⟩ :: _) _ _ _); first
 | refine SLl.rdTake rfl rfl (Rd.build rfl (by (repeat (first | exact CellsW.nil | (apply CellsW.cons; (· (first | exact Cel.one (by (first | exact One.lit rfl | exact One.lit (by assumption) | exact One.mono (by assumption) (by (repeat' (first | exact Ent.refl | exact Ent.appR | apply Ent.skip))) | exact One.len (by (first | exact Len.nil | (apply Len.row; (· (repeat (first | apply Sel.here | apply Sel.there | apply Upd.here | apply Upd.there)))) | (apply Len.rs; exact Rs.mono (by assumption) (by (repeat' (first | exact Ent.refl | exact Ent.appR | apply Ent.skip)))))))) | exact Cel.agg)))))) (by rfl)) ?_
 | refine SLl.pu rfl rfl rfl (Pu.build rfl rfl) ?_)
 | refine SLl.skip rfl rfl ?_))
 | (first
 | refine SLc.seq ?_
 | refine SLc.region rfl ?_
 | refine SLc.condT rfl ?_
 | refine SLc.condF rfl ?_
 | refine SLc.block ?_
 | refine SLc.skip ?_
 | refine SLc.exit ?_
 | refine SLc.ret ?_)))
      refine SLl.eff rfl rfl (SLo.call plain32 rfl (SLf.mono (RFrom_yes W _ sl G rt (hx.graphR _) hm (by omega)) ?_))
      rintro pv σ ⟨hpv, rfl⟩
      refine And.intro (fun _ => .skip (.skip (.skip (.trans .appR (by (repeat' (first | exact Ent.refl | exact Ent.appR | apply Ent.skip))))))) ?_
      refine SLl.eff rfl rfl (SLo.call plain33 rfl (SLf.mono (RUsers_yes W _ sl G rt (hx.graphR _) hm (by omega) (by omega)) ?_))
      rintro qv σ ⟨hqv, qs, hqs, rfl⟩
      refine And.intro (fun _ => .skip (.trans .appR (.skip (.skip (.skip (.trans .appR (by (repeat' (first | exact Ent.refl | exact Ent.appR | apply Ent.skip))))))))) ?_
      have hfl := @fromL_len G rt
      have hul := @usersL_len G rt
      have hule : ∀ (i : Nat) u, (usersL G rt)[i]? = some u → u.length ≤ 4000 := fun i u h => by have := users_le hm h; omega
      generalize fromL G rt = R at hfl
      generalize usersL G rt = U at hul hps hqs hule
      have hRl := @bools_len R
      have hpl := len_of_map hps
      have hql := len_of_map hqs
      have hpl2 := @uvals_len ps
      have hql2 := @uvals_len qs
      have hCl : (ints (U.map fun u => (u.length : Int))).length = U.length := by simp [ints]
      have hRe : (bools R).length = (uvals qs).length := by omega
      refine SLl.abst fun σ1 hσ1 => ?_
      have hr : Rs W σ1 rv 1 (bools R) := (Rs.row (.there (Sel.right _ (.there (.there (.there (Sel.right _ .here)))))) bools_one).mono hσ1
      have hu : Rs W σ1 uv 1 (uvals ps) := (Rs.row (.there (Sel.right _ (.there (.there .here)))) uvals_one).mono hσ1
      have hc : Rs W σ1 cv 1 (ints (U.map fun u => (u.length : Int))) := (Rs.row (.there (Sel.right _ (.there .here))) ints_one).mono hσ1
      have hp : Rs W σ1 pv 1 (bools R) := (Rs.row (.there (Sel.right _ .here)) bools_one).mono hσ1
      have hq : Rs W σ1 qv 1 (uvals qs) := (Rs.row .here uvals_one).mono hσ1
      have hus : ∀ (i : Nat) p, ps[i]? = some p → Rs W σ1 p.1 2 (usesV p.2) := fun i p h => (Rs.row (.there (Sel.right _ (.there (.there (.there (Sel.app (Sel.many (f := urow) h))))))) usesV_two).mono hσ1
      have hvs : ∀ (i : Nat) p, qs[i]? = some p → Rs W σ1 p.1 2 (usesV p.2) := fun i p h => (Rs.row (.there (Sel.app (Sel.many (f := rrow) h))) usesV_two).mono hσ1
      clear hσ1
      (repeat' (first
 | (first
 | refine SLl.nil ?_
 | ((show SLl _ _ _ _ _ (⟨⟨_, _, _, _, _, _⟩, _, _⟩ :: _) _ _ _); first
 | refine SLl.ev rfl rfl rfl rfl ?_
 | ((show SLl _ _ _ _ _ (⟨⟨_, .load _ _, _, _, _, _⟩, _, _⟩ :: _) _ _ _); (first | refine SLl.rdSeq rfl rfl (Rd.load rfl rfl (by (first | (apply Reads.blk; (· (repeat (first | apply Sel.here | apply Sel.there | apply Upd.here | apply Upd.there))); (· rfl)) | (apply Reads.row; (· (repeat (first | apply Sel.here | apply Sel.there | apply Upd.here | apply Upd.there))); (· (first | rfl | assumption)); (· rfl)) | (apply Reads.rs; (· exact Rs.mono (by assumption) (by (repeat' (first | exact Ent.refl | exact Ent.appR | apply Ent.skip)))); (· (first | rfl | assumption)); (· rfl))))) ?_ | refine SLl.rdSeq rfl rfl (Rd.loadN rfl rfl (by (first | exact ReadsN.mono (by assumption) (by (repeat' (first | exact Ent.refl | exact Ent.appR | apply Ent.skip))) | (apply ReadsN.blk0; (· (repeat (first | apply Sel.here | apply Sel.there | apply Upd.here | apply Upd.there)))) | (apply ReadsN.row0; (· (repeat (first | apply Sel.here | apply Sel.there | apply Upd.here | apply Upd.there))); (· (first | rfl | assumption))) | (apply ReadsN.rs0; (· exact Rs.mono (by assumption) (by (repeat' (first | exact Ent.refl | exact Ent.appR | apply Ent.skip)))); (· (first | rfl | assumption))))) (by rfl)) ?_))
 | ((show SLl _ _ _ _ _ (⟨⟨_, .fieldAddr _ _ _, _, _, _, _⟩, _, _⟩ :: _) _ _ _); (first | refine SLl.pu rfl rfl rfl (Pu.fieldAddr rfl) ?_ | refine SLl.rdSeq rfl rfl (Rd.fieldAddrEl rfl (by (first | exact Len.nil | (apply Len.row; (· (repeat (first | apply Sel.here | apply Sel.there | apply Upd.here | apply Upd.there)))) | (apply Len.rs; exact Rs.mono (by assumption) (by (repeat' (first | exact Ent.refl | exact Ent.appR | apply Ent.skip)))))) (by omega)) ?_))
 | ((show SLl _ _ _ _ _ (⟨⟨_, .indexAddr _ _ _, _, _, _, _⟩, _, _⟩ :: _) _ _ _); (refine SLl.rdSeq rfl rfl (Rd.indexAddr rfl rfl (by (first | exact Len.nil | (apply Len.row; (· (repeat (first | apply Sel.here | apply Sel.there | apply Upd.here | apply Upd.there)))) | (apply Len.rs; exact Rs.mono (by assumption) (by (repeat' (first | exact Ent.refl | exact Ent.appR | apply Ent.skip)))))) (by (first | exact ij0 | exact ij1 | exact ij2 | exact ij3 | exact ij4 | exact ij5 | rfl | exact (Int.toNat_of_nonneg (by omega)).symm)) (by omega)) ?_))
 | ((show SLl _ _ _ _ _ (⟨⟨_, .call ⟨.builtin .len, _, _⟩, _, _, _, _⟩, _, _⟩ :: _) _ _ _); refine SLl.rdSeq rfl rfl (Rd.len rfl (by (first | exact Len.nil | (apply Len.row; (· (repeat (first | apply Sel.here | apply Sel.there | apply Upd.here | apply Upd.there)))) | (apply Len.rs; exact Rs.mono (by assumption) (by (repeat' (first | exact Ent.refl | exact Ent.appR | apply Ent.skip))))))) ?_)
 | ((show SLl _ _ _ _ _ (⟨⟨_, .binOp _ _ _ _ _, _, _, _, _⟩, _, _⟩ :: _) _ _ _); (first
 | refine SLl.pu rfl rfl rfl (Pu.add rfl rfl (IntWalk.i64_in _ (by omega))) ?_
 | refine SLl.pu rfl rfl rfl (Pu.sub rfl rfl (IntWalk.i64_in _ (by omega))) ?_
 | (refine SLl.cmp rfl rfl rfl rfl rfl rfl ?_ ?_ <;> intro hq <;> simp only [cmpP] at hq <;> try (first
 | exact (hq trivial).elim
 | (exfalso; omega)))
 | refine SLl.pu rfl rfl rfl (Pu.eqNilT rfl rfl) ?_
 | refine SLl.pu rfl rfl rfl (Pu.neNilF rfl rfl) ?_
 | refine SLl.rdSeq rfl rfl (Rd.eqNilF rfl rfl (by (first | exact Len.nil | (apply Len.row; (· (repeat (first | apply Sel.here | apply Sel.there | apply Upd.here | apply Upd.there)))) | (apply Len.rs; exact Rs.mono (by assumption) (by (repeat' (first | exact Ent.refl | exact Ent.appR | apply Ent.skip)))))) (by assumption)) ?_
 | refine SLl.rdSeq rfl rfl (Rd.neNilT rfl rfl (by (first | exact Len.nil | (apply Len.row; (· (repeat (first | apply Sel.here | apply Sel.there | apply Upd.here | apply Upd.there)))) | (apply Len.rs; exact Rs.mono (by assumption) (by (repeat' (first | exact Ent.refl | exact Ent.appR | apply Ent.skip)))))) (by assumption)) ?_
 | refine SLl.pu rfl rfl rfl (Pu.eqPtrNil rfl rfl) ?_
 | refine SLl.pu rfl rfl rfl (Pu.eqBool rfl rfl) ?_
 | refine SLl.pu rfl rfl rfl (Pu.neBool rfl rfl) ?_))
 | ((show SLl _ _ _ _ _ (⟨⟨_, .store _ _ _, _, _, _, _⟩, _, _⟩ :: _) _ _ _); (first | (refine SLl.seq0 rfl (SLo.store rfl rfl rfl (by (first | exact One.lit rfl | exact One.lit (by assumption) | exact One.mono (by assumption) (by (repeat' (first | exact Ent.refl | exact Ent.appR | apply Ent.skip))) | exact One.len (by (first | exact Len.nil | (apply Len.row; (· (repeat (first | apply Sel.here | apply Sel.there | apply Upd.here | apply Upd.there)))) | (apply Len.rs; exact Rs.mono (by assumption) (by (repeat' (first | exact Ent.refl | exact Ent.appR | apply Ent.skip)))))))) (by (first | (apply Wr.blk; (· (repeat (first | apply Sel.here | apply Sel.there | apply Upd.here | apply Upd.there))); (· exact Nat.le_of_ble_eq_true rfl)) | (apply Wr.row; (· (first | rfl | assumption)); (· exact Nat.le_of_ble_eq_true rfl); (· (repeat (first | apply Sel.here | apply Sel.there | apply Upd.here | apply Upd.there)))))) ?_)) | (refine SLl.seq0 rfl (SLo.storeN rfl rfl rfl (by (repeat' (first | exact trivial | (apply And.intro; (· (first | exact One.lit rfl | exact One.lit (by assumption) | exact One.mono (by assumption) (by (repeat' (first | exact Ent.refl | exact Ent.appR | apply Ent.skip))) | exact One.len (by (first | exact Len.nil | (apply Len.row; (· (repeat (first | apply Sel.here | apply Sel.there | apply Upd.here | apply Upd.there)))) | (apply Len.rs; exact Rs.mono (by assumption) (by (repeat' (first | exact Ent.refl | exact Ent.appR | apply Ent.skip)))))))))))) (Nat.le_of_ble_eq_true rfl) (by (repeat (first | apply Sel.here | apply Sel.there | apply Upd.here | apply Upd.there))) ?_))))
 | ((show SLl _ _ _ _ _ (⟨⟨_, .box _ _, _, _, _, _⟩, _, _⟩ :: _) _ _ _); refine SLl.seq rfl rfl (SLo.boxC rfl (by (first | exact Cel.one (by (first | exact One.lit rfl | exact One.lit (by assumption) | exact One.mono (by assumption) (by (repeat' (first | exact Ent.refl | exact Ent.appR | apply Ent.skip))) | exact One.len (by (first | exact Len.nil | (apply Len.row; (· (repeat (first | apply Sel.here | apply Sel.there | apply Upd.here | apply Upd.there)))) | (apply Len.rs; exact Rs.mono (by assumption) (by (repeat' (first | exact Ent.refl | exact Ent.appR | apply Ent.skip)))))))) | exact Cel.agg)) ?_); intro b)
 | ((show SLl _ _ _ _ _ (⟨⟨_, .alloc _, _, _, _, _⟩, _, _⟩ :: _) _ _ _); refine SLl.seq rfl rfl (SLo.alloc ?_); intro b)
 | ((show SLl _ _ _ _ _ (⟨⟨_, .build _ _, _, _, _, _⟩, _, _⟩ :: _) _ _ _); first
 | refine SLl.rdSeq rfl rfl (Rd.build rfl (by (repeat (first | exact CellsW.nil | (apply CellsW.cons; (· (first | exact Cel.one (by (first | exact One.lit rfl | exact One.lit (by assumption) | exact One.mono (by assumption) (by (repeat' (first | exact Ent.refl | exact Ent.appR | apply Ent.skip))) | exact One.len (by (first | exact Len.nil | (apply Len.row; (· (repeat (first | apply Sel.here | apply Sel.there | apply Upd.here | apply Upd.there)))) | (apply Len.rs; exact Rs.mono (by assumption) (by (repeat' (first | exact Ent.refl | exact Ent.appR | apply Ent.skip)))))))) | exact Cel.agg)))))) (by rfl)) ?_
 | refine SLl.pu rfl rfl rfl (Pu.build rfl rfl) ?_)
 | refine SLl.skip rfl rfl ?_))
 | (first
 | refine SLc.seq ?_
 | refine SLc.region rfl ?_
 | refine SLc.condT rfl ?_
 | refine SLc.condF rfl ?_
 | refine SLc.block ?_
 | refine SLc.skip ?_
 | refine SLc.exit ?_
 | refine SLc.ret ?_)))
      refine SLc.loop (ι := Nat) (fun i => [(10, .int .i64 i), (9, qv), (8, pv), (7, cv), (6, uv), (5, rv)]) (fun _ => σ1) (fun i => i ≤ R.length) (fun i => R.length - i) 0 (Nat.zero_le _) (by (repeat' (first | exact trivial | apply And.intro | rfl))) .refl ?_
      intro i hi
      by_cases hlt : i < R.length
      · have hRi : R[i]? = some R[i] := List.getElem?_eq_getElem hlt
        have hUi : U[i]? = some (U[i]'(by omega)) := List.getElem?_eq_getElem (by omega)
        generalize U[i]'(by omega) = u at hUi
        have hub := hule i u hUi
        obtain ⟨vi, hpi⟩ := at_of_map hps hUi
        obtain ⟨wi, hqi⟩ := at_of_map hqs hUi
        have hui := uvals_at hpi
        have hvi := uvals_at hqi
        have hri := hus i _ hpi
        have hsi := hvs i _ hqi
        dsimp only at hui hvi hri hsi
        have hci : (ints (U.map fun u => (u.length : Int)))[i]? = some [.int .i64 (u.length : Int)] := ints_at (by simp [hUi])
        have hul2 := @usesV_len u
        cases hb0 : R[i] <;> rw [hb0] at hRi <;> have hbi := bools_at hRi
        all_goals
          (repeat' (first
 | (first
 | refine SLl.nil ?_
 | ((show SLl _ _ _ _ _ (⟨⟨_, _, _, _, _, _⟩, _, _⟩ :: _) _ _ _); first
 | refine SLl.ev rfl rfl rfl rfl ?_
 | ((show SLl _ _ _ _ _ (⟨⟨_, .load _ _, _, _, _, _⟩, _, _⟩ :: _) _ _ _); (first | refine SLl.rdSeq rfl rfl (Rd.load rfl rfl (by (first | (apply Reads.blk; (· (repeat (first | apply Sel.here | apply Sel.there | apply Upd.here | apply Upd.there))); (· rfl)) | (apply Reads.row; (· (repeat (first | apply Sel.here | apply Sel.there | apply Upd.here | apply Upd.there))); (· (first | rfl | assumption)); (· rfl)) | (apply Reads.rs; (· exact Rs.mono (by assumption) (by (repeat' (first | exact Ent.refl | exact Ent.appR | apply Ent.skip)))); (· (first | rfl | assumption)); (· rfl))))) ?_ | refine SLl.rdSeq rfl rfl (Rd.loadN rfl rfl (by (first | exact ReadsN.mono (by assumption) (by (repeat' (first | exact Ent.refl | exact Ent.appR | apply Ent.skip))) | (apply ReadsN.blk0; (· (repeat (first | apply Sel.here | apply Sel.there | apply Upd.here | apply Upd.there)))) | (apply ReadsN.row0; (· (repeat (first | apply Sel.here | apply Sel.there | apply Upd.here | apply Upd.there))); (· (first | rfl | assumption))) | (apply ReadsN.rs0; (· exact Rs.mono (by assumption) (by (repeat' (first | exact Ent.refl | exact Ent.appR | apply Ent.skip)))); (· (first | rfl | assumption))))) (by rfl)) ?_))
 | ((show SLl _ _ _ _ _ (⟨⟨_, .fieldAddr _ _ _, _, _, _, _⟩, _, _⟩ :: _) _ _ _); (first | refine SLl.pu rfl rfl rfl (Pu.fieldAddr rfl) ?_ | refine SLl.rdSeq rfl rfl (Rd.fieldAddrEl rfl (by (first | exact Len.nil | (apply Len.row; (· (repeat (first | apply Sel.here | apply Sel.there | apply Upd.here | apply Upd.there)))) | (apply Len.rs; exact Rs.mono (by assumption) (by (repeat' (first | exact Ent.refl | exact Ent.appR | apply Ent.skip)))))) (by omega)) ?_))
 | ((show SLl _ _ _ _ _ (⟨⟨_, .indexAddr _ _ _, _, _, _, _⟩, _, _⟩ :: _) _ _ _); (refine SLl.rdSeq rfl rfl (Rd.indexAddr rfl rfl (by (first | exact Len.nil | (apply Len.row; (· (repeat (first | apply Sel.here | apply Sel.there | apply Upd.here | apply Upd.there)))) | (apply Len.rs; exact Rs.mono (by assumption) (by (repeat' (first | exact Ent.refl | exact Ent.appR | apply Ent.skip)))))) (by (first | exact ij0 | exact ij1 | exact ij2 | exact ij3 | exact ij4 | exact ij5 | rfl | exact (Int.toNat_of_nonneg (by omega)).symm)) (by omega)) ?_))
 | ((show SLl _ _ _ _ _ (⟨⟨_, .call ⟨.builtin .len, _, _⟩, _, _, _, _⟩, _, _⟩ :: _) _ _ _); refine SLl.rdSeq rfl rfl (Rd.len rfl (by (first | exact Len.nil | (apply Len.row; (· (repeat (first | apply Sel.here | apply Sel.there | apply Upd.here | apply Upd.there)))) | (apply Len.rs; exact Rs.mono (by assumption) (by (repeat' (first | exact Ent.refl | exact Ent.appR | apply Ent.skip))))))) ?_)
 | ((show SLl _ _ _ _ _ (⟨⟨_, .binOp _ _ _ _ _, _, _, _, _⟩, _, _⟩ :: _) _ _ _); (first
 | refine SLl.pu rfl rfl rfl (Pu.add rfl rfl (IntWalk.i64_in _ (by omega))) ?_
 | refine SLl.pu rfl rfl rfl (Pu.sub rfl rfl (IntWalk.i64_in _ (by omega))) ?_
 | (refine SLl.cmp rfl rfl rfl rfl rfl rfl ?_ ?_ <;> intro hq <;> simp only [cmpP] at hq <;> try (first
 | exact (hq trivial).elim
 | (exfalso; omega)))
 | refine SLl.pu rfl rfl rfl (Pu.eqNilT rfl rfl) ?_
 | refine SLl.pu rfl rfl rfl (Pu.neNilF rfl rfl) ?_
 | refine SLl.rdSeq rfl rfl (Rd.eqNilF rfl rfl (by (first | exact Len.nil | (apply Len.row; (· (repeat (first | apply Sel.here | apply Sel.there | apply Upd.here | apply Upd.there)))) | (apply Len.rs; exact Rs.mono (by assumption) (by (repeat' (first | exact Ent.refl | exact Ent.appR | apply Ent.skip)))))) (by assumption)) ?_
 | refine SLl.rdSeq rfl rfl (Rd.neNilT rfl rfl (by (first | exact Len.nil | (apply Len.row; (· (repeat (first | apply Sel.here | apply Sel.there | apply Upd.here | apply Upd.there)))) | (apply Len.rs; exact Rs.mono (by assumption) (by (repeat' (first | exact Ent.refl | exact Ent.appR | apply Ent.skip)))))) (by assumption)) ?_
 | refine SLl.pu rfl rfl rfl (Pu.eqPtrNil rfl rfl) ?_
 | refine SLl.pu rfl rfl rfl (Pu.eqBool rfl rfl) ?_
 | refine SLl.pu rfl rfl rfl (Pu.neBool rfl rfl) ?_))
 | ((show SLl _ _ _ _ _ (⟨⟨_, .store _ _ _, _, _, _, _⟩, _, _⟩ :: _) _ _ _); (first | (refine SLl.seq0 rfl (SLo.store rfl rfl rfl (by (first | exact One.lit rfl | exact One.lit (by assumption) | exact One.mono (by assumption) (by (repeat' (first | exact Ent.refl | exact Ent.appR | apply Ent.skip))) | exact One.len (by (first | exact Len.nil | (apply Len.row; (· (repeat (first | apply Sel.here | apply Sel.there | apply Upd.here | apply Upd.there)))) | (apply Len.rs; exact Rs.mono (by assumption) (by (repeat' (first | exact Ent.refl | exact Ent.appR | apply Ent.skip)))))))) (by (first | (apply Wr.blk; (· (repeat (first | apply Sel.here | apply Sel.there | apply Upd.here | apply Upd.there))); (· exact Nat.le_of_ble_eq_true rfl)) | (apply Wr.row; (· (first | rfl | assumption)); (· exact Nat.le_of_ble_eq_true rfl); (· (repeat (first | apply Sel.here | apply Sel.there | apply Upd.here | apply Upd.there)))))) ?_)) | (refine SLl.seq0 rfl (SLo.storeN rfl rfl rfl (by (repeat' (first | exact trivial | (apply And.intro; (· (first | exact One.lit rfl | exact One.lit (by assumption) | exact One.mono (by assumption) (by (repeat' (first | exact Ent.refl | exact Ent.appR | apply Ent.skip))) | exact One.len (by (first | exact Len.nil | (apply Len.row; (· (repeat (first | apply Sel.here | apply Sel.there | apply Upd.here | apply Upd.there)))) | (apply Len.rs; exact Rs.mono (by assumption) (by (repeat' (first | exact Ent.refl | exact Ent.appR | apply Ent.skip)))))))))))) (Nat.le_of_ble_eq_true rfl) (by (repeat (first | apply Sel.here | apply Sel.there | apply Upd.here | apply Upd.there))) ?_))))
 | ((show SLl _ _ _ _ _ (⟨⟨_, .box _ _, _, _, _, _⟩, _, _⟩ :: _) _ _ _); refine SLl.seq rfl rfl (SLo.boxC rfl (by (first | exact Cel.one (by (first | exact One.lit rfl | exact One.lit (by assumption) | exact One.mono (by assumption) (by (repeat' (first | exact Ent.refl | exact Ent.appR | apply Ent.skip))) | exact One.len (by (first | exact Len.nil | (apply Len.row; (· (repeat (first | apply Sel.here | apply Sel.there | apply Upd.here | apply Upd.there)))) | (apply Len.rs; exact Rs.mono (by assumption) (by (repeat' (first | exact Ent.refl | exact Ent.appR | apply Ent.skip)))))))) | exact Cel.agg)) ?_); intro b)
 | ((show SLl _ _ _ _ _ (⟨⟨_, .alloc _, _, _, _, _⟩, _, _⟩ :: _) _ _ _); refine SLl.seq rfl rfl (SLo.alloc ?_); intro b)
 | ((show SLl _ _ _ _ _ (⟨⟨_, .build _ _, _, _, _, _⟩, _, _⟩ :: _) _ _ _); first
 | refine SLl.rdSeq rfl rfl (Rd.build rfl (by (repeat (first | exact CellsW.nil | (apply CellsW.cons; (· (first | exact Cel.one (by (first | exact One.lit rfl | exact One.lit (by assumption) | exact One.mono (by assumption) (by (repeat' (first | exact Ent.refl | exact Ent.appR | apply Ent.skip))) | exact One.len (by (first | exact Len.nil | (apply Len.row; (· (repeat (first | apply Sel.here | apply Sel.there | apply Upd.here | apply Upd.there)))) | (apply Len.rs; exact Rs.mono (by assumption) (by (repeat' (first | exact Ent.refl | exact Ent.appR | apply Ent.skip)))))))) | exact Cel.agg)))))) (by rfl)) ?_
 | refine SLl.pu rfl rfl rfl (Pu.build rfl rfl) ?_)
 | refine SLl.skip rfl rfl ?_))
 | (first
 | refine SLc.seq ?_
 | refine SLc.region rfl ?_
 | refine SLc.condT rfl ?_
 | refine SLc.condF rfl ?_
 | refine SLc.block ?_
 | refine SLc.skip ?_
 | refine SLc.exit ?_
 | refine SLc.ret ?_)))
          refine SLc.drawsI _ (List.replicate 34 .take) mixed (by kernel_rfl) .refl ?_
          (repeat' (first
 | (first
 | refine SLl.nil ?_
 | ((show SLl _ _ _ _ _ (⟨⟨_, _, _, _, _, _⟩, _, _⟩ :: _) _ _ _); first
 | refine SLl.ev rfl rfl rfl rfl ?_
 | ((show SLl _ _ _ _ _ (⟨⟨_, .load _ _, _, _, _, _⟩, _, _⟩ :: _) _ _ _); (first | refine SLl.rdTake rfl rfl (Rd.load rfl rfl (by (first | (apply Reads.blk; (· (repeat (first | apply Sel.here | apply Sel.there | apply Upd.here | apply Upd.there))); (· rfl)) | (apply Reads.row; (· (repeat (first | apply Sel.here | apply Sel.there | apply Upd.here | apply Upd.there))); (· (first | rfl | assumption)); (· rfl)) | (apply Reads.rs; (· exact Rs.mono (by assumption) (by (repeat' (first | exact Ent.refl | exact Ent.appR | apply Ent.skip)))); (· (first | rfl | assumption)); (· rfl))))) ?_ | refine SLl.rdTake rfl rfl (Rd.loadN rfl rfl (by (first | exact ReadsN.mono (by assumption) (by (repeat' (first | exact Ent.refl | exact Ent.appR | apply Ent.skip))) | (apply ReadsN.blk0; (· (repeat (first | apply Sel.here | apply Sel.there | apply Upd.here | apply Upd.there)))) | (apply ReadsN.row0; (· (repeat (first | apply Sel.here | apply Sel.there | apply Upd.here | apply Upd.there))); (· (first | rfl | assumption))) | (apply ReadsN.rs0; (· exact Rs.mono (by assumption) (by (repeat' (first | exact Ent.refl | exact Ent.appR | apply Ent.skip)))); (· (first | rfl | assumption))))) (by rfl)) ?_))
 | ((show SLl _ _ _ _ _ (⟨⟨_, .fieldAddr _ _ _, _, _, _, _⟩, _, _⟩ :: _) _ _ _); (first | refine SLl.pu rfl rfl rfl (Pu.fieldAddr rfl) ?_ | refine SLl.rdTake rfl rfl (Rd.fieldAddrEl rfl (by (first | exact Len.nil | (apply Len.row; (· (repeat (first | apply Sel.here | apply Sel.there | apply Upd.here | apply Upd.there)))) | (apply Len.rs; exact Rs.mono (by assumption) (by (repeat' (first | exact Ent.refl | exact Ent.appR | apply Ent.skip)))))) (by omega)) ?_))
 | ((show SLl _ _ _ _ _ (⟨⟨_, .indexAddr _ _ _, _, _, _, _⟩, _, _⟩ :: _) _ _ _); (refine SLl.rdTake rfl rfl (Rd.indexAddr rfl rfl (by (first | exact Len.nil | (apply Len.row; (· (repeat (first | apply Sel.here | apply Sel.there | apply Upd.here | apply Upd.there)))) | (apply Len.rs; exact Rs.mono (by assumption) (by (repeat' (first | exact Ent.refl | exact Ent.appR | apply Ent.skip)))))) (by (first | exact ij0 | exact ij1 | exact ij2 | exact ij3 | exact ij4 | exact ij5 | rfl | exact (Int.toNat_of_nonneg (by omega)).symm)) (by omega)) ?_))
 | ((show SLl _ _ _ _ _ (⟨⟨_, .call ⟨.builtin .len, _, _⟩, _, _, _, _⟩, _, _⟩ :: _) _ _ _); refine SLl.rdTake rfl rfl (Rd.len rfl (by (first | exact Len.nil | (apply Len.row; (· (repeat (first | apply Sel.here | apply Sel.there | apply Upd.here | apply Upd.there)))) | (apply Len.rs; exact Rs.mono (by assumption) (by (repeat' (first | exact Ent.refl | exact Ent.appR | apply Ent.skip))))))) ?_)
 | ((show SLl _ _ _ _ _ (⟨⟨_, .binOp _ _ _ _ _, _, _, _, _⟩, _, _⟩ :: _) _ _ _); (first
 | refine SLl.pu rfl rfl rfl (Pu.add rfl rfl (IntWalk.i64_in _ (by omega))) ?_
 | refine SLl.pu rfl rfl rfl (Pu.sub rfl rfl (IntWalk.i64_in _ (by omega))) ?_
 | (refine SLl.cmp rfl rfl rfl rfl rfl rfl ?_ ?_ <;> intro hq <;> simp only [cmpP] at hq <;> try (first
 | exact (hq trivial).elim
 | (exfalso; omega)))
 | refine SLl.pu rfl rfl rfl (Pu.eqNilT rfl rfl) ?_
 | refine SLl.pu rfl rfl rfl (Pu.neNilF rfl rfl) ?_
 | refine SLl.rdTake rfl rfl (Rd.eqNilF rfl rfl (by (first | exact Len.nil | (apply Len.row; (· (repeat (first | apply Sel.here | apply Sel.there | apply Upd.here | apply Upd.there)))) | (apply Len.rs; exact Rs.mono (by assumption) (by (repeat' (first | exact Ent.refl | exact Ent.appR | apply Ent.skip)))))) (by assumption)) ?_
 | refine SLl.rdTake rfl rfl (Rd.neNilT rfl rfl (by (first | exact Len.nil | (apply Len.row; (· (repeat (first | apply Sel.here | apply Sel.there | apply Upd.here | apply Upd.there)))) | (apply Len.rs; exact Rs.mono (by assumption) (by (repeat' (first | exact Ent.refl | exact Ent.appR | apply Ent.skip)))))) (by assumption)) ?_
 | refine SLl.pu rfl rfl rfl (Pu.eqPtrNil rfl rfl) ?_
 | refine SLl.pu rfl rfl rfl (Pu.eqBool rfl rfl) ?_
 | refine SLl.pu rfl rfl rfl (Pu.neBool rfl rfl) ?_))
 | ((show SLl _ _ _ _ _ (⟨⟨_, .store _ _ _, _, _, _, _⟩, _, _⟩ :: _) _ _ _); (first | (refine SLl.seq0 rfl (SLo.store rfl rfl rfl (by (first | exact One.lit rfl | exact One.lit (by assumption) | exact One.mono (by assumption) (by (repeat' (first | exact Ent.refl | exact Ent.appR | apply Ent.skip))) | exact One.len (by (first | exact Len.nil | (apply Len.row; (· (repeat (first | apply Sel.here | apply Sel.there | apply Upd.here | apply Upd.there)))) | (apply Len.rs; exact Rs.mono (by assumption) (by (repeat' (first | exact Ent.refl | exact Ent.appR | apply Ent.skip)))))))) (by (first | (apply Wr.blk; (· (repeat (first | apply Sel.here | apply Sel.there | apply Upd.here | apply Upd.there))); (· exact Nat.le_of_ble_eq_true rfl)) | (apply Wr.row; (· (first | rfl | assumption)); (· exact Nat.le_of_ble_eq_true rfl); (· (repeat (first | apply Sel.here | apply Sel.there | apply Upd.here | apply Upd.there)))))) ?_)) | (refine SLl.seq0 rfl (SLo.storeN rfl rfl rfl (by (repeat' (first | exact trivial | (apply And.intro; (· (first | exact One.lit rfl | exact One.lit (by assumption) | exact One.mono (by assumption) (by (repeat' (first | exact Ent.refl | exact Ent.appR | apply Ent.skip))) | exact One.len (by (first | exact Len.nil | (apply Len.row; (· (repeat (first | apply Sel.here | apply Sel.there | apply Upd.here | apply Upd.there)))) | (apply Len.rs; exact Rs.mono (by assumption) (by (repeat' (first | exact Ent.refl | exact Ent.appR | apply Ent.skip)))))))))))) (Nat.le_of_ble_eq_true rfl) (by (repeat (first | apply Sel.here | apply Sel.there | apply Upd.here | apply Upd.there))) ?_))))
 | ((show SLl _ _ _ _ _ (⟨⟨_, .box _ _, _, _, _, _⟩, _, _⟩ :: _) _ _ _); refine SLl.seq rfl rfl (SLo.boxC rfl (by (first | exact Cel.one (by (first | exact One.lit rfl | exact One.lit (by assumption) | exact One.mono (by assumption) (by (repeat' (first | exact Ent.refl | exact Ent.appR | apply Ent.skip))) | exact One.len (by (first | exact Len.nil | (apply Len.row; (· (repeat (first | apply Sel.here | apply Sel.there | apply Upd.here | apply Upd.there)))) | (apply Len.rs; exact Rs.mono (by assumption) (by (repeat' (first | exact Ent.refl | exact Ent.appR | apply Ent.skip)))))))) | exact Cel.agg)) ?_); intro b)
 | ((show SLl _ _ _ _ _ (⟨⟨_, .alloc _, _, _, _, _⟩, _, _⟩ :: _) _ _ _); refine SLl.seq rfl rfl (SLo.alloc ?_); intro b)
 | ((show SLl _ _ _ _ _ (⟨⟨_, .build _ _, _, _, _, _⟩, _, _⟩ :: _) _ _ _); first
 | refine SLl.rdTake rfl rfl (Rd.build rfl (by (repeat (first | exact CellsW.nil | (apply CellsW.cons; (· (first | exact Cel.one (by (first | exact One.lit rfl | exact One.lit (by assumption) | exact One.mono (by assumption) (by (repeat' (first | exact Ent.refl | exact Ent.appR | apply Ent.skip))) | exact One.len (by (first | exact Len.nil | (apply Len.row; (· (repeat (first | apply Sel.here | apply Sel.there | apply Upd.here | apply Upd.there)))) | (apply Len.rs; exact Rs.mono (by assumption) (by (repeat' (first | exact Ent.refl | exact Ent.appR | apply Ent.skip)))))))) | exact Cel.agg)))))) (by rfl)) ?_
 | refine SLl.pu rfl rfl rfl (Pu.build rfl rfl) ?_)
 | refine SLl.skip rfl rfl ?_))
 | (first
 | refine SLc.seq ?_
 | refine SLc.region rfl ?_
 | refine SLc.condT rfl ?_
 | refine SLc.condF rfl ?_
 | refine SLc.block ?_
 | refine SLc.skip ?_
 | refine SLc.exit ?_
 | refine SLc.ret ?_)))
          (repeat' (first
 | (first
 | refine SLl.nil ?_
 | ((show SLl _ _ _ _ _ (⟨⟨_, _, _, _, _, _⟩, _, _⟩ :: _) _ _ _); first
 | refine SLl.ev rfl rfl rfl rfl ?_
 | ((show SLl _ _ _ _ _ (⟨⟨_, .load _ _, _, _, _, _⟩, _, _⟩ :: _) _ _ _); (first | refine SLl.rdSeq rfl rfl (Rd.load rfl rfl (by (first | (apply Reads.blk; (· (repeat (first | apply Sel.here | apply Sel.there | apply Upd.here | apply Upd.there))); (· rfl)) | (apply Reads.row; (· (repeat (first | apply Sel.here | apply Sel.there | apply Upd.here | apply Upd.there))); (· (first | rfl | assumption)); (· rfl)) | (apply Reads.rs; (· exact Rs.mono (by assumption) (by (repeat' (first | exact Ent.refl | exact Ent.appR | apply Ent.skip)))); (· (first | rfl | assumption)); (· rfl))))) ?_ | refine SLl.rdSeq rfl rfl (Rd.loadN rfl rfl (by (first | exact ReadsN.mono (by assumption) (by (repeat' (first | exact Ent.refl | exact Ent.appR | apply Ent.skip))) | (apply ReadsN.blk0; (· (repeat (first | apply Sel.here | apply Sel.there | apply Upd.here | apply Upd.there)))) | (apply ReadsN.row0; (· (repeat (first | apply Sel.here | apply Sel.there | apply Upd.here | apply Upd.there))); (· (first | rfl | assumption))) | (apply ReadsN.rs0; (· exact Rs.mono (by assumption) (by (repeat' (first | exact Ent.refl | exact Ent.appR | apply Ent.skip)))); (· (first | rfl | assumption))))) (by rfl)) ?_))
 | ((show SLl _ _ _ _ _ (⟨⟨_, .fieldAddr _ _ _, _, _, _, _⟩, _, _⟩ :: _) _ _ _); (first | refine SLl.pu rfl rfl rfl (Pu.fieldAddr rfl) ?_ | refine SLl.rdSeq rfl rfl (Rd.fieldAddrEl rfl (by (first | exact Len.nil | (apply Len.row; (· (repeat (first | apply Sel.here | apply Sel.there | apply Upd.here | apply Upd.there)))) | (apply Len.rs; exact Rs.mono (by assumption) (by (repeat' (first | exact Ent.refl | exact Ent.appR | apply Ent.skip)))))) (by omega)) ?_))
 | ((show SLl _ _ _ _ _ (⟨⟨_, .indexAddr _ _ _, _, _, _, _⟩, _, _⟩ :: _) _ _ _); (refine SLl.rdSeq rfl rfl (Rd.indexAddr rfl rfl (by (first | exact Len.nil | (apply Len.row; (· (repeat (first | apply Sel.here | apply Sel.there | apply Upd.here | apply Upd.there)))) | (apply Len.rs; exact Rs.mono (by assumption) (by (repeat' (first | exact Ent.refl | exact Ent.appR | apply Ent.skip)))))) (by (first | exact ij0 | exact ij1 | exact ij2 | exact ij3 | exact ij4 | exact ij5 | rfl | exact (Int.toNat_of_nonneg (by omega)).symm)) (by omega)) ?_))
 | ((show SLl _ _ _ _ _ (⟨⟨_, .call ⟨.builtin .len, _, _⟩, _, _, _, _⟩, _, _⟩ :: _) _ _ _); refine SLl.rdSeq rfl rfl (Rd.len rfl (by (first | exact Len.nil | (apply Len.row; (· (repeat (first | apply Sel.here | apply Sel.there | apply Upd.here | apply Upd.there)))) | (apply Len.rs; exact Rs.mono (by assumption) (by (repeat' (first | exact Ent.refl | exact Ent.appR | apply Ent.skip))))))) ?_)
 | ((show SLl _ _ _ _ _ (⟨⟨_, .binOp _ _ _ _ _, _, _, _, _⟩, _, _⟩ :: _) _ _ _); (first
 | refine SLl.pu rfl rfl rfl (Pu.add rfl rfl (IntWalk.i64_in _ (by omega))) ?_
 | refine SLl.pu rfl rfl rfl (Pu.sub rfl rfl (IntWalk.i64_in _ (by omega))) ?_
 | (refine SLl.cmp rfl rfl rfl rfl rfl rfl ?_ ?_ <;> intro hq <;> simp only [cmpP] at hq <;> try (first
 | exact (hq trivial).elim
 | (exfalso; omega)))
 | refine SLl.pu rfl rfl rfl (Pu.eqNilT rfl rfl) ?_
 | refine SLl.pu rfl rfl rfl (Pu.neNilF rfl rfl) ?_
 | refine SLl.rdSeq rfl rfl (Rd.eqNilF rfl rfl (by (first | exact Len.nil | (apply Len.row; (· (repeat (first | apply Sel.here | apply Sel.there | apply Upd.here | apply Upd.there)))) | (apply Len.rs; exact Rs.mono (by assumption) (by (repeat' (first | exact Ent.refl | exact Ent.appR | apply Ent.skip)))))) (by assumption)) ?_
 | refine SLl.rdSeq rfl rfl (Rd.neNilT rfl rfl (by (first | exact Len.nil | (apply Len.row; (· (repeat (first | apply Sel.here | apply Sel.there | apply Upd.here | apply Upd.there)))) | (apply Len.rs; exact Rs.mono (by assumption) (by (repeat' (first | exact Ent.refl | exact Ent.appR | apply Ent.skip)))))) (by assumption)) ?_
 | refine SLl.pu rfl rfl rfl (Pu.eqPtrNil rfl rfl) ?_
 | refine SLl.pu rfl rfl rfl (Pu.eqBool rfl rfl) ?_
 | refine SLl.pu rfl rfl rfl (Pu.neBool rfl rfl) ?_))
 | ((show SLl _ _ _ _ _ (⟨⟨_, .store _ _ _, _, _, _, _⟩, _, _⟩ :: _) _ _ _); (first | (refine SLl.seq0 rfl (SLo.store rfl rfl rfl (by (first | exact One.lit rfl | exact One.lit (by assumption) | exact One.mono (by assumption) (by (repeat' (first | exact Ent.refl | exact Ent.appR | apply Ent.skip))) | exact One.len (by (first | exact Len.nil | (apply Len.row; (· (repeat (first | apply Sel.here | apply Sel.there | apply Upd.here | apply Upd.there)))) | (apply Len.rs; exact Rs.mono (by assumption) (by (repeat' (first | exact Ent.refl | exact Ent.appR | apply Ent.skip)))))))) (by (first | (apply Wr.blk; (· (repeat (first | apply Sel.here | apply Sel.there | apply Upd.here | apply Upd.there))); (· exact Nat.le_of_ble_eq_true rfl)) | (apply Wr.row; (· (first | rfl | assumption)); (· exact Nat.le_of_ble_eq_true rfl); (· (repeat (first | apply Sel.here | apply Sel.there | apply Upd.here | apply Upd.there)))))) ?_)) | (refine SLl.seq0 rfl (SLo.storeN rfl rfl rfl (by (repeat' (first | exact trivial | (apply And.intro; (· (first | exact One.lit rfl | exact One.lit (by assumption) | exact One.mono (by assumption) (by (repeat' (first | exact Ent.refl | exact Ent.appR | apply Ent.skip))) | exact One.len (by (first | exact Len.nil | (apply Len.row; (· (repeat (first | apply Sel.here | apply Sel.there | apply Upd.here | apply Upd.there)))) | (apply Len.rs; exact Rs.mono (by assumption) (by (repeat' (first | exact Ent.refl | exact Ent.appR | apply Ent.skip)))))))))))) (Nat.le_of_ble_eq_true rfl) (by (repeat (first | apply Sel.here | apply Sel.there | apply Upd.here | apply Upd.there))) ?_))))
 | ((show SLl _ _ _ _ _ (⟨⟨_, .box _ _, _, _, _, _⟩, _, _⟩ :: _) _ _ _); refine SLl.seq rfl rfl (SLo.boxC rfl (by (first | exact Cel.one (by (first | exact One.lit rfl | exact One.lit (by assumption) | exact One.mono (by assumption) (by (repeat' (first | exact Ent.refl | exact Ent.appR | apply Ent.skip))) | exact One.len (by (first | exact Len.nil | (apply Len.row; (· (repeat (first | apply Sel.here | apply Sel.there | apply Upd.here | apply Upd.there)))) | (apply Len.rs; exact Rs.mono (by assumption) (by (repeat' (first | exact Ent.refl | exact Ent.appR | apply Ent.skip)))))))) | exact Cel.agg)) ?_); intro b)
 | ((show SLl _ _ _ _ _ (⟨⟨_, .alloc _, _, _, _, _⟩, _, _⟩ :: _) _ _ _); refine SLl.seq rfl rfl (SLo.alloc ?_); intro b)
 | ((show SLl _ _ _ _ _ (⟨⟨_, .build _ _, _, _, _, _⟩, _, _⟩ :: _) _ _ _); first
 | refine SLl.rdSeq rfl rfl (Rd.build rfl (by (repeat (first | exact CellsW.nil | (apply CellsW.cons; (· (first | exact Cel.one (by (first | exact One.lit rfl | exact One.lit (by assumption) | exact One.mono (by assumption) (by (repeat' (first | exact Ent.refl | exact Ent.appR | apply Ent.skip))) | exact One.len (by (first | exact Len.nil | (apply Len.row; (· (repeat (first | apply Sel.here | apply Sel.there | apply Upd.here | apply Upd.there)))) | (apply Len.rs; exact Rs.mono (by assumption) (by (repeat' (first | exact Ent.refl | exact Ent.appR | apply Ent.skip)))))))) | exact Cel.agg)))))) (by rfl)) ?_
 | refine SLl.pu rfl rfl rfl (Pu.build rfl rfl) ?_)
 | refine SLl.skip rfl rfl ?_))
 | (first
 | refine SLc.seq ?_
 | refine SLc.region rfl ?_
 | refine SLc.condT rfl ?_
 | refine SLc.condF rfl ?_
 | refine SLc.block ?_
 | refine SLc.skip ?_
 | refine SLc.exit ?_
 | refine SLc.ret ?_)))
          refine SLc.loop (ι := Nat) (fun k => [(11, .int .i64 k), (10, .int .i64 i), (9, qv), (8, pv), (7, cv), (6, uv), (5, rv)]) (fun _ => σ1) (fun k => k ≤ u.length) (fun k => u.length - k) 0 (Nat.zero_le _) (by (repeat' (first | exact trivial | apply And.intro | rfl))) .refl ?_
          intro k hk
          by_cases hlk : k < u.length
          · have huk : u[k]? = some u[k] := List.getElem?_eq_getElem hlk
            generalize u[k] = x at huk
            have hxk := usesV_at huk
            (repeat' (first
 | (first
 | refine SLl.nil ?_
 | ((show SLl _ _ _ _ _ (⟨⟨_, _, _, _, _, _⟩, _, _⟩ :: _) _ _ _); first
 | refine SLl.ev rfl rfl rfl rfl ?_
 | ((show SLl _ _ _ _ _ (⟨⟨_, .load _ _, _, _, _, _⟩, _, _⟩ :: _) _ _ _); (first | refine SLl.rdSeq rfl rfl (Rd.load rfl rfl (by (first | (apply Reads.blk; (· (repeat (first | apply Sel.here | apply Sel.there | apply Upd.here | apply Upd.there))); (· rfl)) | (apply Reads.row; (· (repeat (first | apply Sel.here | apply Sel.there | apply Upd.here | apply Upd.there))); (· (first | rfl | assumption)); (· rfl)) | (apply Reads.rs; (· exact Rs.mono (by assumption) (by (repeat' (first | exact Ent.refl | exact Ent.appR | apply Ent.skip)))); (· (first | rfl | assumption)); (· rfl))))) ?_ | refine SLl.rdSeq rfl rfl (Rd.loadN rfl rfl (by (first | exact ReadsN.mono (by assumption) (by (repeat' (first | exact Ent.refl | exact Ent.appR | apply Ent.skip))) | (apply ReadsN.blk0; (· (repeat (first | apply Sel.here | apply Sel.there | apply Upd.here | apply Upd.there)))) | (apply ReadsN.row0; (· (repeat (first | apply Sel.here | apply Sel.there | apply Upd.here | apply Upd.there))); (· (first | rfl | assumption))) | (apply ReadsN.rs0; (· exact Rs.mono (by assumption) (by (repeat' (first | exact Ent.refl | exact Ent.appR | apply Ent.skip)))); (· (first | rfl | assumption))))) (by rfl)) ?_))
 | ((show SLl _ _ _ _ _ (⟨⟨_, .fieldAddr _ _ _, _, _, _, _⟩, _, _⟩ :: _) _ _ _); (first | refine SLl.pu rfl rfl rfl (Pu.fieldAddr rfl) ?_ | refine SLl.rdSeq rfl rfl (Rd.fieldAddrEl rfl (by (first | exact Len.nil | (apply Len.row; (· (repeat (first | apply Sel.here | apply Sel.there | apply Upd.here | apply Upd.there)))) | (apply Len.rs; exact Rs.mono (by assumption) (by (repeat' (first | exact Ent.refl | exact Ent.appR | apply Ent.skip)))))) (by omega)) ?_))
 | ((show SLl _ _ _ _ _ (⟨⟨_, .indexAddr _ _ _, _, _, _, _⟩, _, _⟩ :: _) _ _ _); (refine SLl.rdSeq rfl rfl (Rd.indexAddr rfl rfl (by (first | exact Len.nil | (apply Len.row; (· (repeat (first | apply Sel.here | apply Sel.there | apply Upd.here | apply Upd.there)))) | (apply Len.rs; exact Rs.mono (by assumption) (by (repeat' (first | exact Ent.refl | exact Ent.appR | apply Ent.skip)))))) (by (first | exact ij0 | exact ij1 | exact ij2 | exact ij3 | exact ij4 | exact ij5 | rfl | exact (Int.toNat_of_nonneg (by omega)).symm)) (by omega)) ?_))
 | ((show SLl _ _ _ _ _ (⟨⟨_, .call ⟨.builtin .len, _, _⟩, _, _, _, _⟩, _, _⟩ :: _) _ _ _); refine SLl.rdSeq rfl rfl (Rd.len rfl (by (first | exact Len.nil | (apply Len.row; (· (repeat (first | apply Sel.here | apply Sel.there | apply Upd.here | apply Upd.there)))) | (apply Len.rs; exact Rs.mono (by assumption) (by (repeat' (first | exact Ent.refl | exact Ent.appR | apply Ent.skip))))))) ?_)
 | ((show SLl _ _ _ _ _ (⟨⟨_, .binOp _ _ _ _ _, _, _, _, _⟩, _, _⟩ :: _) _ _ _); (first
 | refine SLl.pu rfl rfl rfl (Pu.add rfl rfl (IntWalk.i64_in _ (by omega))) ?_
 | refine SLl.pu rfl rfl rfl (Pu.sub rfl rfl (IntWalk.i64_in _ (by omega))) ?_
 | (refine SLl.cmp rfl rfl rfl rfl rfl rfl ?_ ?_ <;> intro hq <;> simp only [cmpP] at hq <;> try (first
 | exact (hq trivial).elim
 | (exfalso; omega)))
 | refine SLl.pu rfl rfl rfl (Pu.eqNilT rfl rfl) ?_
 | refine SLl.pu rfl rfl rfl (Pu.neNilF rfl rfl) ?_
 | refine SLl.rdSeq rfl rfl (Rd.eqNilF rfl rfl (by (first | exact Len.nil | (apply Len.row; (· (repeat (first | apply Sel.here | apply Sel.there | apply Upd.here | apply Upd.there)))) | (apply Len.rs; exact Rs.mono (by assumption) (by (repeat' (first | exact Ent.refl | exact Ent.appR | apply Ent.skip)))))) (by assumption)) ?_
 | refine SLl.rdSeq rfl rfl (Rd.neNilT rfl rfl (by (first | exact Len.nil | (apply Len.row; (· (repeat (first | apply Sel.here | apply Sel.there | apply Upd.here | apply Upd.there)))) | (apply Len.rs; exact Rs.mono (by assumption) (by (repeat' (first | exact Ent.refl | exact Ent.appR | apply Ent.skip)))))) (by assumption)) ?_
 | refine SLl.pu rfl rfl rfl (Pu.eqPtrNil rfl rfl) ?_
 | refine SLl.pu rfl rfl rfl (Pu.eqBool rfl rfl) ?_
 | refine SLl.pu rfl rfl rfl (Pu.neBool rfl rfl) ?_))
 | ((show SLl _ _ _ _ _ (⟨⟨_, .store _ _ _, _, _, _, _⟩, _, _⟩ :: _) _ _ _); (first | (refine SLl.seq0 rfl (SLo.store rfl rfl rfl (by (first | exact One.lit rfl | exact One.lit (by assumption) | exact One.mono (by assumption) (by (repeat' (first | exact Ent.refl | exact Ent.appR | apply Ent.skip))) | exact One.len (by (first | exact Len.nil | (apply Len.row; (· (repeat (first | apply Sel.here | apply Sel.there | apply Upd.here | apply Upd.there)))) | (apply Len.rs; exact Rs.mono (by assumption) (by (repeat' (first | exact Ent.refl | exact Ent.appR | apply Ent.skip)))))))) (by (first | (apply Wr.blk; (· (repeat (first | apply Sel.here | apply Sel.there | apply Upd.here | apply Upd.there))); (· exact Nat.le_of_ble_eq_true rfl)) | (apply Wr.row; (· (first | rfl | assumption)); (· exact Nat.le_of_ble_eq_true rfl); (· (repeat (first | apply Sel.here | apply Sel.there | apply Upd.here | apply Upd.there)))))) ?_)) | (refine SLl.seq0 rfl (SLo.storeN rfl rfl rfl (by (repeat' (first | exact trivial | (apply And.intro; (· (first | exact One.lit rfl | exact One.lit (by assumption) | exact One.mono (by assumption) (by (repeat' (first | exact Ent.refl | exact Ent.appR | apply Ent.skip))) | exact One.len (by (first | exact Len.nil | (apply Len.row; (· (repeat (first | apply Sel.here | apply Sel.there | apply Upd.here | apply Upd.there)))) | (apply Len.rs; exact Rs.mono (by assumption) (by (repeat' (first | exact Ent.refl | exact Ent.appR | apply Ent.skip)))))))))))) (Nat.le_of_ble_eq_true rfl) (by (repeat (first | apply Sel.here | apply Sel.there | apply Upd.here | apply Upd.there))) ?_))))
 | ((show SLl _ _ _ _ _ (⟨⟨_, .box _ _, _, _, _, _⟩, _, _⟩ :: _) _ _ _); refine SLl.seq rfl rfl (SLo.boxC rfl (by (first | exact Cel.one (by (first | exact One.lit rfl | exact One.lit (by assumption) | exact One.mono (by assumption) (by (repeat' (first | exact Ent.refl | exact Ent.appR | apply Ent.skip))) | exact One.len (by (first | exact Len.nil | (apply Len.row; (· (repeat (first | apply Sel.here | apply Sel.there | apply Upd.here | apply Upd.there)))) | (apply Len.rs; exact Rs.mono (by assumption) (by (repeat' (first | exact Ent.refl | exact Ent.appR | apply Ent.skip)))))))) | exact Cel.agg)) ?_); intro b)
 | ((show SLl _ _ _ _ _ (⟨⟨_, .alloc _, _, _, _, _⟩, _, _⟩ :: _) _ _ _); refine SLl.seq rfl rfl (SLo.alloc ?_); intro b)
 | ((show SLl _ _ _ _ _ (⟨⟨_, .build _ _, _, _, _, _⟩, _, _⟩ :: _) _ _ _); first
 | refine SLl.rdSeq rfl rfl (Rd.build rfl (by (repeat (first | exact CellsW.nil | (apply CellsW.cons; (· (first | exact Cel.one (by (first | exact One.lit rfl | exact One.lit (by assumption) | exact One.mono (by assumption) (by (repeat' (first | exact Ent.refl | exact Ent.appR | apply Ent.skip))) | exact One.len (by (first | exact Len.nil | (apply Len.row; (· (repeat (first | apply Sel.here | apply Sel.there | apply Upd.here | apply Upd.there)))) | (apply Len.rs; exact Rs.mono (by assumption) (by (repeat' (first | exact Ent.refl | exact Ent.appR | apply Ent.skip)))))))) | exact Cel.agg)))))) (by rfl)) ?_
 | refine SLl.pu rfl rfl rfl (Pu.build rfl rfl) ?_)
 | refine SLl.skip rfl rfl ?_))
 | (first
 | refine SLc.seq ?_
 | refine SLc.region rfl ?_
 | refine SLc.condT rfl ?_
 | refine SLc.condF rfl ?_
 | refine SLc.block ?_
 | refine SLc.skip ?_
 | refine SLc.exit ?_
 | refine SLc.ret ?_)))
            refine SLc.drawsI _ (List.replicate 36 .take) mixed (by kernel_rfl) .refl ?_
            (repeat' (first
 | (first
 | refine SLl.nil ?_
 | ((show SLl _ _ _ _ _ (⟨⟨_, _, _, _, _, _⟩, _, _⟩ :: _) _ _ _); first
 | refine SLl.ev rfl rfl rfl rfl ?_
 | ((show SLl _ _ _ _ _ (⟨⟨_, .load _ _, _, _, _, _⟩, _, _⟩ :: _) _ _ _); (first | refine SLl.rdTake rfl rfl (Rd.load rfl rfl (by (first | (apply Reads.blk; (· (repeat (first | apply Sel.here | apply Sel.there | apply Upd.here | apply Upd.there))); (· rfl)) | (apply Reads.row; (· (repeat (first | apply Sel.here | apply Sel.there | apply Upd.here | apply Upd.there))); (· (first | rfl | assumption)); (· rfl)) | (apply Reads.rs; (· exact Rs.mono (by assumption) (by (repeat' (first | exact Ent.refl | exact Ent.appR | apply Ent.skip)))); (· (first | rfl | assumption)); (· rfl))))) ?_ | refine SLl.rdTake rfl rfl (Rd.loadN rfl rfl (by (first | exact ReadsN.mono (by assumption) (by (repeat' (first | exact Ent.refl | exact Ent.appR | apply Ent.skip))) | (apply ReadsN.blk0; (· (repeat (first | apply Sel.here | apply Sel.there | apply Upd.here | apply Upd.there)))) | (apply ReadsN.row0; (· (repeat (first | apply Sel.here | apply Sel.there | apply Upd.here | apply Upd.there))); (· (first | rfl | assumption))) | (apply ReadsN.rs0; (· exact Rs.mono (by assumption) (by (repeat' (first | exact Ent.refl | exact Ent.appR | apply Ent.skip)))); (· (first | rfl | assumption))))) (by rfl)) ?_))
 | ((show SLl _ _ _ _ _ (⟨⟨_, .fieldAddr _ _ _, _, _, _, _⟩, _, _⟩ :: _) _ _ _); (first | refine SLl.pu rfl rfl rfl (Pu.fieldAddr rfl) ?_ | refine SLl.rdTake rfl rfl (Rd.fieldAddrEl rfl (by (first | exact Len.nil | (apply Len.row; (· (repeat (first | apply Sel.here | apply Sel.there | apply Upd.here | apply Upd.there)))) | (apply Len.rs; exact Rs.mono (by assumption) (by (repeat' (first | exact Ent.refl | exact Ent.appR | apply Ent.skip)))))) (by omega)) ?_))
 | ((show SLl _ _ _ _ _ (⟨⟨_, .indexAddr _ _ _, _, _, _, _⟩, _, _⟩ :: _) _ _ _); (refine SLl.rdTake rfl rfl (Rd.indexAddr rfl rfl (by (first | exact Len.nil | (apply Len.row; (· (repeat (first | apply Sel.here | apply Sel.there | apply Upd.here | apply Upd.there)))) | (apply Len.rs; exact Rs.mono (by assumption) (by (repeat' (first | exact Ent.refl | exact Ent.appR | apply Ent.skip)))))) (by (first | exact ij0 | exact ij1 | exact ij2 | exact ij3 | exact ij4 | exact ij5 | rfl | exact (Int.toNat_of_nonneg (by omega)).symm)) (by omega)) ?_))
 | ((show SLl _ _ _ _ _ (⟨⟨_, .call ⟨.builtin .len, _, _⟩, _, _, _, _⟩, _, _⟩ :: _) _ _ _); refine SLl.rdTake rfl rfl (Rd.len rfl (by (first | exact Len.nil | (apply Len.row; (· (repeat (first | apply Sel.here | apply Sel.there | apply Upd.here | apply Upd.there)))) | (apply Len.rs; exact Rs.mono (by assumption) (by (repeat' (first | exact Ent.refl | exact Ent.appR | apply Ent.skip))))))) ?_)
 | ((show SLl _ _ _ _ _ (⟨⟨_, .binOp _ _ _ _ _, _, _, _, _⟩, _, _⟩ :: _) _ _ _); (first
 | refine SLl.pu rfl rfl rfl (Pu.add rfl rfl (IntWalk.i64_in _ (by omega))) ?_
 | refine SLl.pu rfl rfl rfl (Pu.sub rfl rfl (IntWalk.i64_in _ (by omega))) ?_
 | (refine SLl.cmp rfl rfl rfl rfl rfl rfl ?_ ?_ <;> intro hq <;> simp only [cmpP] at hq <;> try (first
 | exact (hq trivial).elim
 | (exfalso; omega)))
 | refine SLl.pu rfl rfl rfl (Pu.eqNilT rfl rfl) ?_
 | refine SLl.pu rfl rfl rfl (Pu.neNilF rfl rfl) ?_
 | refine SLl.rdTake rfl rfl (Rd.eqNilF rfl rfl (by (first | exact Len.nil | (apply Len.row; (· (repeat (first | apply Sel.here | apply Sel.there | apply Upd.here | apply Upd.there)))) | (apply Len.rs; exact Rs.mono (by assumption) (by (repeat' (first | exact Ent.refl | exact Ent.appR | apply Ent.skip)))))) (by assumption)) ?_
 | refine SLl.rdTake rfl rfl (Rd.neNilT rfl rfl (by (first | exact Len.nil | (apply Len.row; (· (repeat (first | apply Sel.here | apply Sel.there | apply Upd.here | apply Upd.there)))) | (apply Len.rs; exact Rs.mono (by assumption) (by (repeat' (first | exact Ent.refl | exact Ent.appR | apply Ent.skip)))))) (by assumption)) ?_
 | refine SLl.pu rfl rfl rfl (Pu.eqPtrNil rfl rfl) ?_
 | refine SLl.pu rfl rfl rfl (Pu.eqBool rfl rfl) ?_
 | refine SLl.pu rfl rfl rfl (Pu.neBool rfl rfl) ?_))
 | ((show SLl _ _ _ _ _ (⟨⟨_, .store _ _ _, _, _, _, _⟩, _, _⟩ :: _) _ _ _); (first | (refine SLl.seq0 rfl (SLo.store rfl rfl rfl (by (first | exact One.lit rfl | exact One.lit (by assumption) | exact One.mono (by assumption) (by (repeat' (first | exact Ent.refl | exact Ent.appR | apply Ent.skip))) | exact One.len (by (first | exact Len.nil | (apply Len.row; (· (repeat (first | apply Sel.here | apply Sel.there | apply Upd.here | apply Upd.there)))) | (apply Len.rs; exact Rs.mono (by assumption) (by (repeat' (first | exact Ent.refl | exact Ent.appR | apply Ent.skip)))))))) (by (first | (apply Wr.blk; (· (repeat (first | apply Sel.here | apply Sel.there | apply Upd.here | apply Upd.there))); (· exact Nat.le_of_ble_eq_true rfl)) | (apply Wr.row; (· (first | rfl | assumption)); (· exact Nat.le_of_ble_eq_true rfl); (· (repeat (first | apply Sel.here | apply Sel.there | apply Upd.here | apply Upd.there)))))) ?_)) | (refine SLl.seq0 rfl (SLo.storeN rfl rfl rfl (by (repeat' (first | exact trivial | (apply And.intro; (· (first | exact One.lit rfl | exact One.lit (by assumption) | exact One.mono (by assumption) (by (repeat' (first | exact Ent.refl | exact Ent.appR | apply Ent.skip))) | exact One.len (by (first | exact Len.nil | (apply Len.row; (· (repeat (first | apply Sel.here | apply Sel.there | apply Upd.here | apply Upd.there)))) | (apply Len.rs; exact Rs.mono (by assumption) (by (repeat' (first | exact Ent.refl | exact Ent.appR | apply Ent.skip)))))))))))) (Nat.le_of_ble_eq_true rfl) (by (repeat (first | apply Sel.here | apply Sel.there | apply Upd.here | apply Upd.there))) ?_))))
 | ((show SLl _ _ _ _ _ (⟨⟨_, .box _ _, _, _, _, _⟩, _, _⟩ :: _) _ _ _); refine SLl.seq rfl rfl (SLo.boxC rfl (by (first | exact Cel.one (by (first | exact One.lit rfl | exact One.lit (by assumption) | exact One.mono (by assumption) (by (repeat' (first | exact Ent.refl | exact Ent.appR | apply Ent.skip))) | exact One.len (by (first | exact Len.nil | (apply Len.row; (· (repeat (first | apply Sel.here | apply Sel.there | apply Upd.here | apply Upd.there)))) | (apply Len.rs; exact Rs.mono (by assumption) (by (repeat' (first | exact Ent.refl | exact Ent.appR | apply Ent.skip)))))))) | exact Cel.agg)) ?_); intro b)
 | ((show SLl _ _ _ _ _ (⟨⟨_, .alloc _, _, _, _, _⟩, _, _⟩ :: _) _ _ _); refine SLl.seq rfl rfl (SLo.alloc ?_); intro b)
 | ((show SLl _ _ _ _ _ (⟨⟨_, .build _ _, _, _, _, _⟩, _, _⟩ :: _) _ _ _); first
 | refine SLl.rdTake rfl rfl (Rd.build rfl (by (repeat (first | exact CellsW.nil | (apply CellsW.cons; (· (first | exact Cel.one (by (first | exact One.lit rfl | exact One.lit (by assumption) | exact One.mono (by assumption) (by (repeat' (first | exact Ent.refl | exact Ent.appR | apply Ent.skip))) | exact One.len (by (first | exact Len.nil | (apply Len.row; (· (repeat (first | apply Sel.here | apply Sel.there | apply Upd.here | apply Upd.there)))) | (apply Len.rs; exact Rs.mono (by assumption) (by (repeat' (first | exact Ent.refl | exact Ent.appR | apply Ent.skip)))))))) | exact Cel.agg)))))) (by rfl)) ?_
 | refine SLl.pu rfl rfl rfl (Pu.build rfl rfl) ?_)
 | refine SLl.skip rfl rfl ?_))
 | (first
 | refine SLc.seq ?_
 | refine SLc.region rfl ?_
 | refine SLc.condT rfl ?_
 | refine SLc.condF rfl ?_
 | refine SLc.block ?_
 | refine SLc.skip ?_
 | refine SLc.exit ?_
 | refine SLc.ret ?_)))
            (repeat' (first
 | (first
 | refine SLl.nil ?_
 | ((show SLl _ _ _ _ _ (⟨⟨_, _, _, _, _, _⟩, _, _⟩ :: _) _ _ _); first
 | refine SLl.ev rfl rfl rfl rfl ?_
 | ((show SLl _ _ _ _ _ (⟨⟨_, .load _ _, _, _, _, _⟩, _, _⟩ :: _) _ _ _); (first | refine SLl.rdSeq rfl rfl (Rd.load rfl rfl (by (first | (apply Reads.blk; (· (repeat (first | apply Sel.here | apply Sel.there | apply Upd.here | apply Upd.there))); (· rfl)) | (apply Reads.row; (· (repeat (first | apply Sel.here | apply Sel.there | apply Upd.here | apply Upd.there))); (· (first | rfl | assumption)); (· rfl)) | (apply Reads.rs; (· exact Rs.mono (by assumption) (by (repeat' (first | exact Ent.refl | exact Ent.appR | apply Ent.skip)))); (· (first | rfl | assumption)); (· rfl))))) ?_ | refine SLl.rdSeq rfl rfl (Rd.loadN rfl rfl (by (first | exact ReadsN.mono (by assumption) (by (repeat' (first | exact Ent.refl | exact Ent.appR | apply Ent.skip))) | (apply ReadsN.blk0; (· (repeat (first | apply Sel.here | apply Sel.there | apply Upd.here | apply Upd.there)))) | (apply ReadsN.row0; (· (repeat (first | apply Sel.here | apply Sel.there | apply Upd.here | apply Upd.there))); (· (first | rfl | assumption))) | (apply ReadsN.rs0; (· exact Rs.mono (by assumption) (by (repeat' (first | exact Ent.refl | exact Ent.appR | apply Ent.skip)))); (· (first | rfl | assumption))))) (by rfl)) ?_))
 | ((show SLl _ _ _ _ _ (⟨⟨_, .fieldAddr _ _ _, _, _, _, _⟩, _, _⟩ :: _) _ _ _); (first | refine SLl.pu rfl rfl rfl (Pu.fieldAddr rfl) ?_ | refine SLl.rdSeq rfl rfl (Rd.fieldAddrEl rfl (by (first | exact Len.nil | (apply Len.row; (· (repeat (first | apply Sel.here | apply Sel.there | apply Upd.here | apply Upd.there)))) | (apply Len.rs; exact Rs.mono (by assumption) (by (repeat' (first | exact Ent.refl | exact Ent.appR | apply Ent.skip)))))) (by omega)) ?_))
 | ((show SLl _ _ _ _ _ (⟨⟨_, .indexAddr _ _ _, _, _, _, _⟩, _, _⟩ :: _) _ _ _); (refine SLl.rdSeq rfl rfl (Rd.indexAddr rfl rfl (by (first | exact Len.nil | (apply Len.row; (· (repeat (first | apply Sel.here | apply Sel.there | apply Upd.here | apply Upd.there)))) | (apply Len.rs; exact Rs.mono (by assumption) (by (repeat' (first | exact Ent.refl | exact Ent.appR | apply Ent.skip)))))) (by (first | exact ij0 | exact ij1 | exact ij2 | exact ij3 | exact ij4 | exact ij5 | rfl | exact (Int.toNat_of_nonneg (by omega)).symm)) (by omega)) ?_))
 | ((show SLl _ _ _ _ _ (⟨⟨_, .call ⟨.builtin .len, _, _⟩, _, _, _, _⟩, _, _⟩ :: _) _ _ _); refine SLl.rdSeq rfl rfl (Rd.len rfl (by (first | exact Len.nil | (apply Len.row; (· (repeat (first | apply Sel.here | apply Sel.there | apply Upd.here | apply Upd.there)))) | (apply Len.rs; exact Rs.mono (by assumption) (by (repeat' (first | exact Ent.refl | exact Ent.appR | apply Ent.skip))))))) ?_)
 | ((show SLl _ _ _ _ _ (⟨⟨_, .binOp _ _ _ _ _, _, _, _, _⟩, _, _⟩ :: _) _ _ _); (first
 | refine SLl.pu rfl rfl rfl (Pu.add rfl rfl (IntWalk.i64_in _ (by omega))) ?_
 | refine SLl.pu rfl rfl rfl (Pu.sub rfl rfl (IntWalk.i64_in _ (by omega))) ?_
 | (refine SLl.cmp rfl rfl rfl rfl rfl rfl ?_ ?_ <;> intro hq <;> simp only [cmpP] at hq <;> try (first
 | exact (hq trivial).elim
 | (exfalso; omega)))
 | refine SLl.pu rfl rfl rfl (Pu.eqNilT rfl rfl) ?_
 | refine SLl.pu rfl rfl rfl (Pu.neNilF rfl rfl) ?_
 | refine SLl.rdSeq rfl rfl (Rd.eqNilF rfl rfl (by (first | exact Len.nil | (apply Len.row; (· (repeat (first | apply Sel.here | apply Sel.there | apply Upd.here | apply Upd.there)))) | (apply Len.rs; exact Rs.mono (by assumption) (by (repeat' (first | exact Ent.refl | exact Ent.appR | apply Ent.skip)))))) (by assumption)) ?_
 | refine SLl.rdSeq rfl rfl (Rd.neNilT rfl rfl (by (first | exact Len.nil | (apply Len.row; (· (repeat (first | apply Sel.here | apply Sel.there | apply Upd.here | apply Upd.there)))) | (apply Len.rs; exact Rs.mono (by assumption) (by (repeat' (first | exact Ent.refl | exact Ent.appR | apply Ent.skip)))))) (by assumption)) ?_
 | refine SLl.pu rfl rfl rfl (Pu.eqPtrNil rfl rfl) ?_
 | refine SLl.pu rfl rfl rfl (Pu.eqBool rfl rfl) ?_
 | refine SLl.pu rfl rfl rfl (Pu.neBool rfl rfl) ?_))
 | ((show SLl _ _ _ _ _ (⟨⟨_, .store _ _ _, _, _, _, _⟩, _, _⟩ :: _) _ _ _); (first | (refine SLl.seq0 rfl (SLo.store rfl rfl rfl (by (first | exact One.lit rfl | exact One.lit (by assumption) | exact One.mono (by assumption) (by (repeat' (first | exact Ent.refl | exact Ent.appR | apply Ent.skip))) | exact One.len (by (first | exact Len.nil | (apply Len.row; (· (repeat (first | apply Sel.here | apply Sel.there | apply Upd.here | apply Upd.there)))) | (apply Len.rs; exact Rs.mono (by assumption) (by (repeat' (first | exact Ent.refl | exact Ent.appR | apply Ent.skip)))))))) (by (first | (apply Wr.blk; (· (repeat (first | apply Sel.here | apply Sel.there | apply Upd.here | apply Upd.there))); (· exact Nat.le_of_ble_eq_true rfl)) | (apply Wr.row; (· (first | rfl | assumption)); (· exact Nat.le_of_ble_eq_true rfl); (· (repeat (first | apply Sel.here | apply Sel.there | apply Upd.here | apply Upd.there)))))) ?_)) | (refine SLl.seq0 rfl (SLo.storeN rfl rfl rfl (by (repeat' (first | exact trivial | (apply And.intro; (· (first | exact One.lit rfl | exact One.lit (by assumption) | exact One.mono (by assumption) (by (repeat' (first | exact Ent.refl | exact Ent.appR | apply Ent.skip))) | exact One.len (by (first | exact Len.nil | (apply Len.row; (· (repeat (first | apply Sel.here | apply Sel.there | apply Upd.here | apply Upd.there)))) | (apply Len.rs; exact Rs.mono (by assumption) (by (repeat' (first | exact Ent.refl | exact Ent.appR | apply Ent.skip)))))))))))) (Nat.le_of_ble_eq_true rfl) (by (repeat (first | apply Sel.here | apply Sel.there | apply Upd.here | apply Upd.there))) ?_))))
 | ((show SLl _ _ _ _ _ (⟨⟨_, .box _ _, _, _, _, _⟩, _, _⟩ :: _) _ _ _); refine SLl.seq rfl rfl (SLo.boxC rfl (by (first | exact Cel.one (by (first | exact One.lit rfl | exact One.lit (by assumption) | exact One.mono (by assumption) (by (repeat' (first | exact Ent.refl | exact Ent.appR | apply Ent.skip))) | exact One.len (by (first | exact Len.nil | (apply Len.row; (· (repeat (first | apply Sel.here | apply Sel.there | apply Upd.here | apply Upd.there)))) | (apply Len.rs; exact Rs.mono (by assumption) (by (repeat' (first | exact Ent.refl | exact Ent.appR | apply Ent.skip)))))))) | exact Cel.agg)) ?_); intro b)
 | ((show SLl _ _ _ _ _ (⟨⟨_, .alloc _, _, _, _, _⟩, _, _⟩ :: _) _ _ _); refine SLl.seq rfl rfl (SLo.alloc ?_); intro b)
 | ((show SLl _ _ _ _ _ (⟨⟨_, .build _ _, _, _, _, _⟩, _, _⟩ :: _) _ _ _); first
 | refine SLl.rdSeq rfl rfl (Rd.build rfl (by (repeat (first | exact CellsW.nil | (apply CellsW.cons; (· (first | exact Cel.one (by (first | exact One.lit rfl | exact One.lit (by assumption) | exact One.mono (by assumption) (by (repeat' (first | exact Ent.refl | exact Ent.appR | apply Ent.skip))) | exact One.len (by (first | exact Len.nil | (apply Len.row; (· (repeat (first | apply Sel.here | apply Sel.there | apply Upd.here | apply Upd.there)))) | (apply Len.rs; exact Rs.mono (by assumption) (by (repeat' (first | exact Ent.refl | exact Ent.appR | apply Ent.skip)))))))) | exact Cel.agg)))))) (by rfl)) ?_
 | refine SLl.pu rfl rfl rfl (Pu.build rfl rfl) ?_)
 | refine SLl.skip rfl rfl ?_))
 | (first
 | refine SLc.seq ?_
 | refine SLc.region rfl ?_
 | refine SLc.condT rfl ?_
 | refine SLc.condF rfl ?_
 | refine SLc.block ?_
 | refine SLc.skip ?_
 | refine SLc.exit ?_
 | refine SLc.ret ?_)))
            refine And.intro rfl (Exists.intro (k + 1) (And.intro (by omega) (And.intro (by omega) (And.intro (by (repeat' (first | exact trivial | apply And.intro | rfl))) .refl))))
          · (repeat' (first
 | (first
 | refine SLl.nil ?_
 | ((show SLl _ _ _ _ _ (⟨⟨_, _, _, _, _, _⟩, _, _⟩ :: _) _ _ _); first
 | refine SLl.ev rfl rfl rfl rfl ?_
 | ((show SLl _ _ _ _ _ (⟨⟨_, .load _ _, _, _, _, _⟩, _, _⟩ :: _) _ _ _); (first | refine SLl.rdSeq rfl rfl (Rd.load rfl rfl (by (first | (apply Reads.blk; (· (repeat (first | apply Sel.here | apply Sel.there | apply Upd.here | apply Upd.there))); (· rfl)) | (apply Reads.row; (· (repeat (first | apply Sel.here | apply Sel.there | apply Upd.here | apply Upd.there))); (· (first | rfl | assumption)); (· rfl)) | (apply Reads.rs; (· exact Rs.mono (by assumption) (by (repeat' (first | exact Ent.refl | exact Ent.appR | apply Ent.skip)))); (· (first | rfl | assumption)); (· rfl))))) ?_ | refine SLl.rdSeq rfl rfl (Rd.loadN rfl rfl (by (first | exact ReadsN.mono (by assumption) (by (repeat' (first | exact Ent.refl | exact Ent.appR | apply Ent.skip))) | (apply ReadsN.blk0; (· (repeat (first | apply Sel.here | apply Sel.there | apply Upd.here | apply Upd.there)))) | (apply ReadsN.row0; (· (repeat (first | apply Sel.here | apply Sel.there | apply Upd.here | apply Upd.there))); (· (first | rfl | assumption))) | (apply ReadsN.rs0; (· exact Rs.mono (by assumption) (by (repeat' (first | exact Ent.refl | exact Ent.appR | apply Ent.skip)))); (· (first | rfl | assumption))))) (by rfl)) ?_))
 | ((show SLl _ _ _ _ _ (⟨⟨_, .fieldAddr _ _ _, _, _, _, _⟩, _, _⟩ :: _) _ _ _); (first | refine SLl.pu rfl rfl rfl (Pu.fieldAddr rfl) ?_ | refine SLl.rdSeq rfl rfl (Rd.fieldAddrEl rfl (by (first | exact Len.nil | (apply Len.row; (· (repeat (first | apply Sel.here | apply Sel.there | apply Upd.here | apply Upd.there)))) | (apply Len.rs; exact Rs.mono (by assumption) (by (repeat' (first | exact Ent.refl | exact Ent.appR | apply Ent.skip)))))) (by omega)) ?_))
 | ((show SLl _ _ _ _ _ (⟨⟨_, .indexAddr _ _ _, _, _, _, _⟩, _, _⟩ :: _) _ _ _); (refine SLl.rdSeq rfl rfl (Rd.indexAddr rfl rfl (by (first | exact Len.nil | (apply Len.row; (· (repeat (first | apply Sel.here | apply Sel.there | apply Upd.here | apply Upd.there)))) | (apply Len.rs; exact Rs.mono (by assumption) (by (repeat' (first | exact Ent.refl | exact Ent.appR | apply Ent.skip)))))) (by (first | exact ij0 | exact ij1 | exact ij2 | exact ij3 | exact ij4 | exact ij5 | rfl | exact (Int.toNat_of_nonneg (by omega)).symm)) (by omega)) ?_))
 | ((show SLl _ _ _ _ _ (⟨⟨_, .call ⟨.builtin .len, _, _⟩, _, _, _, _⟩, _, _⟩ :: _) _ _ _); refine SLl.rdSeq rfl rfl (Rd.len rfl (by (first | exact Len.nil | (apply Len.row; (· (repeat (first | apply Sel.here | apply Sel.there | apply Upd.here | apply Upd.there)))) | (apply Len.rs; exact Rs.mono (by assumption) (by (repeat' (first | exact Ent.refl | exact Ent.appR | apply Ent.skip))))))) ?_)
 | ((show SLl _ _ _ _ _ (⟨⟨_, .binOp _ _ _ _ _, _, _, _, _⟩, _, _⟩ :: _) _ _ _); (first
 | refine SLl.pu rfl rfl rfl (Pu.add rfl rfl (IntWalk.i64_in _ (by omega))) ?_
 | refine SLl.pu rfl rfl rfl (Pu.sub rfl rfl (IntWalk.i64_in _ (by omega))) ?_
 | (refine SLl.cmp rfl rfl rfl rfl rfl rfl ?_ ?_ <;> intro hq <;> simp only [cmpP] at hq <;> try (first
 | exact (hq trivial).elim
 | (exfalso; omega)))
 | refine SLl.pu rfl rfl rfl (Pu.eqNilT rfl rfl) ?_
 | refine SLl.pu rfl rfl rfl (Pu.neNilF rfl rfl) ?_
 | refine SLl.rdSeq rfl rfl (Rd.eqNilF rfl rfl (by (first | exact Len.nil | (apply Len.row; (· (repeat (first | apply Sel.here | apply Sel.there | apply Upd.here | apply Upd.there)))) | (apply Len.rs; exact Rs.mono (by assumption) (by (repeat' (first | exact Ent.refl | exact Ent.appR | apply Ent.skip)))))) (by assumption)) ?_
 | refine SLl.rdSeq rfl rfl (Rd.neNilT rfl rfl (by (first | exact Len.nil | (apply Len.row; (· (repeat (first | apply Sel.here | apply Sel.there | apply Upd.here | apply Upd.there)))) | (apply Len.rs; exact Rs.mono (by assumption) (by (repeat' (first | exact Ent.refl | exact Ent.appR | apply Ent.skip)))))) (by assumption)) ?_
 | refine SLl.pu rfl rfl rfl (Pu.eqPtrNil rfl rfl) ?_
 | refine SLl.pu rfl rfl rfl (Pu.eqBool rfl rfl) ?_
 | refine SLl.pu rfl rfl rfl (Pu.neBool rfl rfl) ?_))
 | ((show SLl _ _ _ _ _ (⟨⟨_, .store _ _ _, _, _, _, _⟩, _, _⟩ :: _) _ _ _); (first | (refine SLl.seq0 rfl (SLo.store rfl rfl rfl (by (first | exact One.lit rfl | exact One.lit (by assumption) | exact One.mono (by assumption) (by (repeat' (first | exact Ent.refl | exact Ent.appR | apply Ent.skip))) | exact One.len (by (first | exact Len.nil | (apply Len.row; (· (repeat (first | apply Sel.here | apply Sel.there | apply Upd.here | apply Upd.there)))) | (apply Len.rs; exact Rs.mono (by assumption) (by (repeat' (first | exact Ent.refl | exact Ent.appR | apply Ent.skip)))))))) (by (first | (apply Wr.blk; (· (repeat (first | apply Sel.here | apply Sel.there | apply Upd.here | apply Upd.there))); (· exact Nat.le_of_ble_eq_true rfl)) | (apply Wr.row; (· (first | rfl | assumption)); (· exact Nat.le_of_ble_eq_true rfl); (· (repeat (first | apply Sel.here | apply Sel.there | apply Upd.here | apply Upd.there)))))) ?_)) | (refine SLl.seq0 rfl (SLo.storeN rfl rfl rfl (by (repeat' (first | exact trivial | (apply And.intro; (· (first | exact One.lit rfl | exact One.lit (by assumption) | exact One.mono (by assumption) (by (repeat' (first | exact Ent.refl | exact Ent.appR | apply Ent.skip))) | exact One.len (by (first | exact Len.nil | (apply Len.row; (· (repeat (first | apply Sel.here | apply Sel.there | apply Upd.here | apply Upd.there)))) | (apply Len.rs; exact Rs.mono (by assumption) (by (repeat' (first | exact Ent.refl | exact Ent.appR | apply Ent.skip)))))))))))) (Nat.le_of_ble_eq_true rfl) (by (repeat (first | apply Sel.here | apply Sel.there | apply Upd.here | apply Upd.there))) ?_))))
 | ((show SLl _ _ _ _ _ (⟨⟨_, .box _ _, _, _, _, _⟩, _, _⟩ :: _) _ _ _); refine SLl.seq rfl rfl (SLo.boxC rfl (by (first | exact Cel.one (by (first | exact One.lit rfl | exact One.lit (by assumption) | exact One.mono (by assumption) (by (repeat' (first | exact Ent.refl | exact Ent.appR | apply Ent.skip))) | exact One.len (by (first | exact Len.nil | (apply Len.row; (· (repeat (first | apply Sel.here | apply Sel.there | apply Upd.here | apply Upd.there)))) | (apply Len.rs; exact Rs.mono (by assumption) (by (repeat' (first | exact Ent.refl | exact Ent.appR | apply Ent.skip)))))))) | exact Cel.agg)) ?_); intro b)
 | ((show SLl _ _ _ _ _ (⟨⟨_, .alloc _, _, _, _, _⟩, _, _⟩ :: _) _ _ _); refine SLl.seq rfl rfl (SLo.alloc ?_); intro b)
 | ((show SLl _ _ _ _ _ (⟨⟨_, .build _ _, _, _, _, _⟩, _, _⟩ :: _) _ _ _); first
 | refine SLl.rdSeq rfl rfl (Rd.build rfl (by (repeat (first | exact CellsW.nil | (apply CellsW.cons; (· (first | exact Cel.one (by (first | exact One.lit rfl | exact One.lit (by assumption) | exact One.mono (by assumption) (by (repeat' (first | exact Ent.refl | exact Ent.appR | apply Ent.skip))) | exact One.len (by (first | exact Len.nil | (apply Len.row; (· (repeat (first | apply Sel.here | apply Sel.there | apply Upd.here | apply Upd.there)))) | (apply Len.rs; exact Rs.mono (by assumption) (by (repeat' (first | exact Ent.refl | exact Ent.appR | apply Ent.skip)))))))) | exact Cel.agg)))))) (by rfl)) ?_
 | refine SLl.pu rfl rfl rfl (Pu.build rfl rfl) ?_)
 | refine SLl.skip rfl rfl ?_))
 | (first
 | refine SLc.seq ?_
 | refine SLc.region rfl ?_
 | refine SLc.condT rfl ?_
 | refine SLc.condF rfl ?_
 | refine SLc.block ?_
 | refine SLc.skip ?_
 | refine SLc.exit ?_
 | refine SLc.ret ?_)))
            refine And.intro rfl (Exists.intro (i + 1) (And.intro (by omega) (And.intro (by omega) (And.intro (by (repeat' (first | exact trivial | apply And.intro | rfl))) .refl))))
      · (repeat' (first
 | (first
 | refine SLl.nil ?_
 | ((show SLl _ _ _ _ _ (⟨⟨_, _, _, _, _, _⟩, _, _⟩ :: _) _ _ _); first
 | refine SLl.ev rfl rfl rfl rfl ?_
 | ((show SLl _ _ _ _ _ (⟨⟨_, .load _ _, _, _, _, _⟩, _, _⟩ :: _) _ _ _); (first | refine SLl.rdSeq rfl rfl (Rd.load rfl rfl (by (first | (apply Reads.blk; (· (repeat (first | apply Sel.here | apply Sel.there | apply Upd.here | apply Upd.there))); (· rfl)) | (apply Reads.row; (· (repeat (first | apply Sel.here | apply Sel.there | apply Upd.here | apply Upd.there))); (· (first | rfl | assumption)); (· rfl)) | (apply Reads.rs; (· exact Rs.mono (by assumption) (by (repeat' (first | exact Ent.refl | exact Ent.appR | apply Ent.skip)))); (· (first | rfl | assumption)); (· rfl))))) ?_ | refine SLl.rdSeq rfl rfl (Rd.loadN rfl rfl (by (first | exact ReadsN.mono (by assumption) (by (repeat' (first | exact Ent.refl | exact Ent.appR | apply Ent.skip))) | (apply ReadsN.blk0; (· (repeat (first | apply Sel.here | apply Sel.there | apply Upd.here | apply Upd.there)))) | (apply ReadsN.row0; (· (repeat (first | apply Sel.here | apply Sel.there | apply Upd.here | apply Upd.there))); (· (first | rfl | assumption))) | (apply ReadsN.rs0; (· exact Rs.mono (by assumption) (by (repeat' (first | exact Ent.refl | exact Ent.appR | apply Ent.skip)))); (· (first | rfl | assumption))))) (by rfl)) ?_))
 | ((show SLl _ _ _ _ _ (⟨⟨_, .fieldAddr _ _ _, _, _, _, _⟩, _, _⟩ :: _) _ _ _); (first | refine SLl.pu rfl rfl rfl (Pu.fieldAddr rfl) ?_ | refine SLl.rdSeq rfl rfl (Rd.fieldAddrEl rfl (by (first | exact Len.nil | (apply Len.row; (· (repeat (first | apply Sel.here | apply Sel.there | apply Upd.here | apply Upd.there)))) | (apply Len.rs; exact Rs.mono (by assumption) (by (repeat' (first | exact Ent.refl | exact Ent.appR | apply Ent.skip)))))) (by omega)) ?_))
 | ((show SLl _ _ _ _ _ (⟨⟨_, .indexAddr _ _ _, _, _, _, _⟩, _, _⟩ :: _) _ _ _); (refine SLl.rdSeq rfl rfl (Rd.indexAddr rfl rfl (by (first | exact Len.nil | (apply Len.row; (· (repeat (first | apply Sel.here | apply Sel.there | apply Upd.here | apply Upd.there)))) | (apply Len.rs; exact Rs.mono (by assumption) (by (repeat' (first | exact Ent.refl | exact Ent.appR | apply Ent.skip)))))) (by (first | exact ij0 | exact ij1 | exact ij2 | exact ij3 | exact ij4 | exact ij5 | rfl | exact (Int.toNat_of_nonneg (by omega)).symm)) (by omega)) ?_))
 | ((show SLl _ _ _ _ _ (⟨⟨_, .call ⟨.builtin .len, _, _⟩, _, _, _, _⟩, _, _⟩ :: _) _ _ _); refine SLl.rdSeq rfl rfl (Rd.len rfl (by (first | exact Len.nil | (apply Len.row; (· (repeat (first | apply Sel.here | apply Sel.there | apply Upd.here | apply Upd.there)))) | (apply Len.rs; exact Rs.mono (by assumption) (by (repeat' (first | exact Ent.refl | exact Ent.appR | apply Ent.skip))))))) ?_)
 | ((show SLl _ _ _ _ _ (⟨⟨_, .binOp _ _ _ _ _, _, _, _, _⟩, _, _⟩ :: _) _ _ _); (first
 | refine SLl.pu rfl rfl rfl (Pu.add rfl rfl (IntWalk.i64_in _ (by omega))) ?_
 | refine SLl.pu rfl rfl rfl (Pu.sub rfl rfl (IntWalk.i64_in _ (by omega))) ?_
 | (refine SLl.cmp rfl rfl rfl rfl rfl rfl ?_ ?_ <;> intro hq <;> simp only [cmpP] at hq <;> try (first
 | exact (hq trivial).elim
 | (exfalso; omega)))
 | refine SLl.pu rfl rfl rfl (Pu.eqNilT rfl rfl) ?_
 | refine SLl.pu rfl rfl rfl (Pu.neNilF rfl rfl) ?_
 | refine SLl.rdSeq rfl rfl (Rd.eqNilF rfl rfl (by (first | exact Len.nil | (apply Len.row; (· (repeat (first | apply Sel.here | apply Sel.there | apply Upd.here | apply Upd.there)))) | (apply Len.rs; exact Rs.mono (by assumption) (by (repeat' (first | exact Ent.refl | exact Ent.appR | apply Ent.skip)))))) (by assumption)) ?_
 | refine SLl.rdSeq rfl rfl (Rd.neNilT rfl rfl (by (first | exact Len.nil | (apply Len.row; (· (repeat (first | apply Sel.here | apply Sel.there | apply Upd.here | apply Upd.there)))) | (apply Len.rs; exact Rs.mono (by assumption) (by (repeat' (first | exact Ent.refl | exact Ent.appR | apply Ent.skip)))))) (by assumption)) ?_
 | refine SLl.pu rfl rfl rfl (Pu.eqPtrNil rfl rfl) ?_
 | refine SLl.pu rfl rfl rfl (Pu.eqBool rfl rfl) ?_
 | refine SLl.pu rfl rfl rfl (Pu.neBool rfl rfl) ?_))
 | ((show SLl _ _ _ _ _ (⟨⟨_, .store _ _ _, _, _, _, _⟩, _, _⟩ :: _) _ _ _); (first | (refine SLl.seq0 rfl (SLo.store rfl rfl rfl (by (first | exact One.lit rfl | exact One.lit (by assumption) | exact One.mono (by assumption) (by (repeat' (first | exact Ent.refl | exact Ent.appR | apply Ent.skip))) | exact One.len (by (first | exact Len.nil | (apply Len.row; (· (repeat (first | apply Sel.here | apply Sel.there | apply Upd.here | apply Upd.there)))) | (apply Len.rs; exact Rs.mono (by assumption) (by (repeat' (first | exact Ent.refl | exact Ent.appR | apply Ent.skip)))))))) (by (first | (apply Wr.blk; (· (repeat (first | apply Sel.here | apply Sel.there | apply Upd.here | apply Upd.there))); (· exact Nat.le_of_ble_eq_true rfl)) | (apply Wr.row; (· (first | rfl | assumption)); (· exact Nat.le_of_ble_eq_true rfl); (· (repeat (first | apply Sel.here | apply Sel.there | apply Upd.here | apply Upd.there)))))) ?_)) | (refine SLl.seq0 rfl (SLo.storeN rfl rfl rfl (by (repeat' (first | exact trivial | (apply And.intro; (· (first | exact One.lit rfl | exact One.lit (by assumption) | exact One.mono (by assumption) (by (repeat' (first | exact Ent.refl | exact Ent.appR | apply Ent.skip))) | exact One.len (by (first | exact Len.nil | (apply Len.row; (· (repeat (first | apply Sel.here | apply Sel.there | apply Upd.here | apply Upd.there)))) | (apply Len.rs; exact Rs.mono (by assumption) (by (repeat' (first | exact Ent.refl | exact Ent.appR | apply Ent.skip)))))))))))) (Nat.le_of_ble_eq_true rfl) (by (repeat (first | apply Sel.here | apply Sel.there | apply Upd.here | apply Upd.there))) ?_))))
 | ((show SLl _ _ _ _ _ (⟨⟨_, .box _ _, _, _, _, _⟩, _, _⟩ :: _) _ _ _); refine SLl.seq rfl rfl (SLo.boxC rfl (by (first | exact Cel.one (by (first | exact One.lit rfl | exact One.lit (by assumption) | exact One.mono (by assumption) (by (repeat' (first | exact Ent.refl | exact Ent.appR | apply Ent.skip))) | exact One.len (by (first | exact Len.nil | (apply Len.row; (· (repeat (first | apply Sel.here | apply Sel.there | apply Upd.here | apply Upd.there)))) | (apply Len.rs; exact Rs.mono (by assumption) (by (repeat' (first | exact Ent.refl | exact Ent.appR | apply Ent.skip)))))))) | exact Cel.agg)) ?_); intro b)
 | ((show SLl _ _ _ _ _ (⟨⟨_, .alloc _, _, _, _, _⟩, _, _⟩ :: _) _ _ _); refine SLl.seq rfl rfl (SLo.alloc ?_); intro b)
 | ((show SLl _ _ _ _ _ (⟨⟨_, .build _ _, _, _, _, _⟩, _, _⟩ :: _) _ _ _); first
 | refine SLl.rdSeq rfl rfl (Rd.build rfl (by (repeat (first | exact CellsW.nil | (apply CellsW.cons; (· (first | exact Cel.one (by (first | exact One.lit rfl | exact One.lit (by assumption) | exact One.mono (by assumption) (by (repeat' (first | exact Ent.refl | exact Ent.appR | apply Ent.skip))) | exact One.len (by (first | exact Len.nil | (apply Len.row; (· (repeat (first | apply Sel.here | apply Sel.there | apply Upd.here | apply Upd.there)))) | (apply Len.rs; exact Rs.mono (by assumption) (by (repeat' (first | exact Ent.refl | exact Ent.appR | apply Ent.skip)))))))) | exact Cel.agg)))))) (by rfl)) ?_
 | refine SLl.pu rfl rfl rfl (Pu.build rfl rfl) ?_)
 | refine SLl.skip rfl rfl ?_))
 | (first
 | refine SLc.seq ?_
 | refine SLc.region rfl ?_
 | refine SLc.condT rfl ?_
 | refine SLc.condF rfl ?_
 | refine SLc.block ?_
 | refine SLc.skip ?_
 | refine SLc.exit ?_
 | refine SLc.ret ?_)))
        refine And.intro rfl (Exists.intro _ (Exists.intro _ (And.intro rfl (And.intro .drop rfl))))
end Go.Sl
