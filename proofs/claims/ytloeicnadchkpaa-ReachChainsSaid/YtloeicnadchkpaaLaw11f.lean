/- backstitchlaw11.ReachChains: the walk. -/
import Derived.Test.YtloeicnadchkpaaLaw11e
namespace Go.Sl
open Go.Proofs
attribute [local irreducible] SLc SLl SLo SLf Pu Rd

/-- A node that is made here: its operator, its inputs' slice, its inputs. -/
abbrev Made := Int × Value × List Int
def mnode (p : Made) : Node := nd p.1 p.2.1 p.2.2
def mrow (p : Made) : Chunk := .row p.2.1 3 1 (ints p.2.2)
def mcells (ns : List Made) : List (List Value) := ns.map fun p => ndCells p.1 p.2.1
theorem mcells_eq {ns : List Made} : mcells ns = (ns.map mnode).map Node.cells := by simp [mcells, mnode, nd, ndCells, Node.cells]
theorem mcells_len {ns : List Made} : (mcells ns).length = ns.length := by simp [mcells]
theorem mcells_seven {ns : List Made} : ∀ c ∈ mcells ns, c.length = 7 := fun c hc => by obtain ⟨x, _, rfl⟩ := List.mem_map.1 hc; rfl
theorem mcells_app {ns : List Made} {p : Made} : mcells ns ++ [ndCells p.1 p.2.1] = mcells (ns ++ [p]) := by simp [mcells]
structure MChain (ns : List Made) : Prop where
  at_ : ∀ (m : Nat) p, ns[m]? = some p → (m = 0 → p.2.2 = []) ∧ (1 ≤ m → p.2.2 ≠ [] ∧ ∀ q ∈ p.2.2, q = (m : Int) - 1) ∧ p.2.2.length ≤ 2
theorem MChain.add {ns : List Made} (h : MChain ns) {p : Made} (h0 : 1 ≤ ns.length) (h1 : p.2.2 ≠ []) (h2 : ∀ q ∈ p.2.2, q = (ns.length : Int) - 1) (h3 : p.2.2.length ≤ 2) : MChain (ns ++ [p]) := by
  refine ⟨fun m x hx => ?_⟩
  rw [List.getElem?_append] at hx
  split at hx
  · exact h.at_ m x hx
  · rename_i hm
    have hlt := (List.getElem?_eq_some_iff.1 hx).1
    simp only [List.length_singleton] at hlt
    have hm' : m = ns.length := by omega
    subst hm'
    simp only [Nat.sub_self, List.getElem?_cons_zero, Option.some.injEq] at hx
    subst hx
    exact ⟨fun h => by omega, fun _ => ⟨h1, h2⟩, h3⟩
theorem MChain.chain {ns : List Made} (h : MChain ns) : Chain (ns.map mnode) := by
  have key : ∀ m, insAt (ns.map mnode) m = ((ns[m]?).map fun p => p.2.2).getD [] := by
    intro m
    simp only [insAt, List.getElem?_map]
    cases ns[m]? <;> rfl
  refine ⟨?_, fun m h1 h2 => ?_⟩
  · rw [key]
    cases hp : ns[0]? with
    | none => rfl
    | some p => exact (h.at_ 0 p hp).1 rfl
  · rw [key]
    have hlt : m < ns.length := by simpa using h2
    rw [List.getElem?_eq_getElem hlt]
    exact (h.at_ m _ (List.getElem?_eq_getElem hlt)).2.1 h1
theorem MChain.insSum {ns : List Made} (h : MChain ns) : insSum (ns.map mnode) ≤ 2 * ns.length := by
  have key : ∀ (l : List Made), (∀ p ∈ l, p.2.2.length ≤ 2) → Go.Sl.insSum (l.map mnode) ≤ 2 * l.length := by
    intro l
    induction l with
    | nil => intro _; simp [Go.Sl.insSum]
    | cons p l ih =>
      intro hl
      have h1 := hl p (.head _)
      have h2 := ih fun x hx => hl x (.tail _ hx)
      simp only [Go.Sl.insSum, List.map_cons, List.sum_cons, List.length_cons, mnode, nd] at h1 h2 ⊢
      omega
  refine key ns fun p hp => ?_
  obtain ⟨m, hm⟩ := List.mem_iff_getElem?.1 hp
  exact (h.at_ m p hm).2.2
theorem made_graph {W : World} {σ : List Chunk} {lv : Value} {ns : List Made} (h : MChain ns) (hn : ns.length ≤ 100) (he : Ent σ (.row lv 47 7 (mcells ns) :: ns.map mrow)) : GraphR W σ lv (ns.map mnode) := by
  have hsel : ∀ p ∈ ns, ∃ F, Sel (mrow p) (.row lv 47 7 (mcells ns) :: ns.map mrow) F := fun p hp => by
    obtain ⟨m, hm⟩ := List.mem_iff_getElem?.1 hp
    exact ⟨_, .there (Sel.many (f := mrow) hm)⟩
  refine ⟨?_, ?_, by simp; omega, ?_, ?_⟩
  · rw [← mcells_eq]
    exact (Rs.row .here mcells_seven).mono he
  · intro x hx
    obtain ⟨p, hp, rfl⟩ := List.mem_map.1 hx
    obtain ⟨F, hs⟩ := hsel p hp
    exact (Rs.row hs ints_one).mono he
  · intro x hx
    obtain ⟨p, hp, rfl⟩ := List.mem_map.1 hx
    obtain ⟨m, hm⟩ := List.mem_iff_getElem?.1 hp
    have := (h.at_ m p hm).2.2
    simp only [mnode, nd]
    omega
  · intro x hx
    obtain ⟨p, hp, rfl⟩ := List.mem_map.1 hx
    obtain ⟨F, hs⟩ := hsel p hp
    exact ⟨(One.len (Len.row hs)).mono he, One.lit rfl, One.lit rfl, One.lit rfl, One.lit rfl⟩
theorem nd_ones {W : World} {σ : List Chunk} {op : Int} {inv : Value} (h : One W σ inv) : ∀ c ∈ [ndCells op inv], ∀ q ∈ c, One W σ q := by
  intro c hc q hq
  rw [List.mem_singleton] at hc
  subst hc
  simp only [ndCells, List.mem_cons, List.not_mem_nil, or_false] at hq
  rcases hq with rfl | rfl | rfl | rfl | rfl | rfl | rfl
  all_goals first | exact h | exact One.lit rfl
set_option maxHeartbeats 1000000 in
theorem Chains11 (W : World) (n r : Nat) (tv : Value) (T : List Bool) (hn : n < 256) (hr : r < 256) (ht : Rs W [] tv 1 (bools T)) (hT : T.length ≤ 140737488355328) :
    SLf Try.prog W 7 [.int .u8 n, tv, .int .u8 r] [] (fun v _ => v = .bool true) := by
  have hTl := @bools_len T
  refine SLf.enter Try.func7 rfl (Nat.le_of_ble_eq_true rfl) ?_
  (repeat' (first
 | (first
 | refine SLl.nil ?_
 | ((show SLl _ _ _ _ _ (⟨⟨_, _, _, _, _, _⟩, _, _⟩ :: _) _ _ _); first
 | refine SLl.ev rfl rfl rfl rfl ?_
 | ((show SLl _ _ _ _ _ (⟨⟨_, .load _ _, _, _, _, _⟩, _, _⟩ :: _) _ _ _); (first | refine SLl.rdSeq rfl rfl (Rd.load rfl rfl (by (first | (apply Reads.blk; (· (repeat (first | apply Sel.here | apply Sel.there | apply Upd.here | apply Upd.there))); (· rfl)) | (apply Reads.row; (· (repeat (first | apply Sel.here | apply Sel.there | apply Upd.here | apply Upd.there))); (· (first | rfl | assumption)); (· rfl)) | (apply Reads.rs; (· exact Rs.mono (by assumption) (by (repeat' (first | exact Ent.refl | exact Ent.drop | exact Ent.appR | apply Ent.skip)))); (· (first | rfl | assumption)); (· rfl))))) ?_ | refine SLl.rdSeq rfl rfl (Rd.loadN rfl rfl (by (first | exact ReadsN.mono (by assumption) (by (repeat' (first | exact Ent.refl | exact Ent.drop | exact Ent.appR | apply Ent.skip))) | (apply ReadsN.blk0; (· (repeat (first | apply Sel.here | apply Sel.there | apply Upd.here | apply Upd.there)))) | (apply ReadsN.row0; (· (repeat (first | apply Sel.here | apply Sel.there | apply Upd.here | apply Upd.there))); (· (first | rfl | assumption))) | (apply ReadsN.rs0; (· exact Rs.mono (by assumption) (by (repeat' (first | exact Ent.refl | exact Ent.drop | exact Ent.appR | apply Ent.skip)))); (· (first | rfl | assumption))))) (by rfl)) ?_))
 | ((show SLl _ _ _ _ _ (⟨⟨_, .fieldAddr _ _ _, _, _, _, _⟩, _, _⟩ :: _) _ _ _); (first | refine SLl.pu rfl rfl rfl (Pu.fieldAddr rfl) ?_ | refine SLl.rdSeq rfl rfl (Rd.fieldAddrEl rfl (by (first | exact Len.nil | (apply Len.row; (· (repeat (first | apply Sel.here | apply Sel.there | apply Upd.here | apply Upd.there)))) | (apply Len.rs; exact Rs.mono (by assumption) (by (repeat' (first | exact Ent.refl | exact Ent.drop | exact Ent.appR | apply Ent.skip)))))) (by omega)) ?_))
 | ((show SLl _ _ _ _ _ (⟨⟨_, .indexAddr _ _ _, _, _, _, _⟩, _, _⟩ :: _) _ _ _); (refine SLl.rdSeq rfl rfl (Rd.indexAddr rfl rfl (by (first | exact Len.nil | (apply Len.row; (· (repeat (first | apply Sel.here | apply Sel.there | apply Upd.here | apply Upd.there)))) | (apply Len.rs; exact Rs.mono (by assumption) (by (repeat' (first | exact Ent.refl | exact Ent.drop | exact Ent.appR | apply Ent.skip)))))) (by (first | exact ij0 | exact ij1 | exact ij2 | exact ij3 | exact ij4 | exact ij5 | rfl | exact (Int.toNat_of_nonneg (by omega)).symm)) (by omega)) ?_))
 | ((show SLl _ _ _ _ _ (⟨⟨_, .call ⟨.builtin .len, _, _⟩, _, _, _, _⟩, _, _⟩ :: _) _ _ _); refine SLl.rdSeq rfl rfl (Rd.len rfl (by (first | exact Len.nil | (apply Len.row; (· (repeat (first | apply Sel.here | apply Sel.there | apply Upd.here | apply Upd.there)))) | (apply Len.rs; exact Rs.mono (by assumption) (by (repeat' (first | exact Ent.refl | exact Ent.drop | exact Ent.appR | apply Ent.skip))))))) ?_)
 | ((show SLl _ _ _ _ _ (⟨⟨_, .binOp _ _ _ _ _, _, _, _, _⟩, _, _⟩ :: _) _ _ _); (first
 | refine SLl.pu rfl rfl rfl (Pu.add rfl rfl (IntWalk.i64_in _ (by omega))) ?_
 | refine SLl.pu rfl rfl rfl (Pu.sub rfl rfl (IntWalk.i64_in _ (by omega))) ?_
 | (refine SLl.cmp rfl rfl rfl rfl rfl rfl ?_ ?_ <;> intro hq <;> simp only [cmpP] at hq <;> try (first
 | exact (hq trivial).elim
 | (exfalso; omega)))
 | refine SLl.pu rfl rfl rfl (Pu.eqNilT rfl rfl) ?_
 | refine SLl.pu rfl rfl rfl (Pu.neNilF rfl rfl) ?_
 | refine SLl.rdSeq rfl rfl (Rd.eqNilF rfl rfl (by (first | exact Len.nil | (apply Len.row; (· (repeat (first | apply Sel.here | apply Sel.there | apply Upd.here | apply Upd.there)))) | (apply Len.rs; exact Rs.mono (by assumption) (by (repeat' (first | exact Ent.refl | exact Ent.drop | exact Ent.appR | apply Ent.skip)))))) (by assumption)) ?_
 | refine SLl.rdSeq rfl rfl (Rd.neNilT rfl rfl (by (first | exact Len.nil | (apply Len.row; (· (repeat (first | apply Sel.here | apply Sel.there | apply Upd.here | apply Upd.there)))) | (apply Len.rs; exact Rs.mono (by assumption) (by (repeat' (first | exact Ent.refl | exact Ent.drop | exact Ent.appR | apply Ent.skip)))))) (by assumption)) ?_
 | refine SLl.pu rfl rfl rfl (Pu.eqPtrNil rfl rfl) ?_
 | refine SLl.pu rfl rfl rfl (Pu.eqBool rfl rfl) ?_
 | refine SLl.pu rfl rfl rfl (Pu.neBool rfl rfl) ?_))
 | ((show SLl _ _ _ _ _ (⟨⟨_, .store _ _ _, _, _, _, _⟩, _, _⟩ :: _) _ _ _); (first | (refine SLl.seq0 rfl (SLo.store rfl rfl rfl (by (first | exact One.lit rfl | exact One.lit (by assumption) | exact One.mono (by assumption) (by (repeat' (first | exact Ent.refl | exact Ent.drop | exact Ent.appR | apply Ent.skip))) | exact One.len (by (first | exact Len.nil | (apply Len.row; (· (repeat (first | apply Sel.here | apply Sel.there | apply Upd.here | apply Upd.there)))) | (apply Len.rs; exact Rs.mono (by assumption) (by (repeat' (first | exact Ent.refl | exact Ent.drop | exact Ent.appR | apply Ent.skip)))))))) (by (first | (apply Wr.blk; (· (repeat (first | apply Sel.here | apply Sel.there | apply Upd.here | apply Upd.there))); (· exact Nat.le_of_ble_eq_true rfl)) | (apply Wr.row; (· (first | rfl | assumption)); (· exact Nat.le_of_ble_eq_true rfl); (· (repeat (first | apply Sel.here | apply Sel.there | apply Upd.here | apply Upd.there)))))) ?_)) | (refine SLl.seq0 rfl (SLo.storeN rfl rfl rfl (by (repeat' (first | exact trivial | (apply And.intro; (· (first | exact One.lit rfl | exact One.lit (by assumption) | exact One.mono (by assumption) (by (repeat' (first | exact Ent.refl | exact Ent.drop | exact Ent.appR | apply Ent.skip))) | exact One.len (by (first | exact Len.nil | (apply Len.row; (· (repeat (first | apply Sel.here | apply Sel.there | apply Upd.here | apply Upd.there)))) | (apply Len.rs; exact Rs.mono (by assumption) (by (repeat' (first | exact Ent.refl | exact Ent.drop | exact Ent.appR | apply Ent.skip)))))))))))) (Nat.le_of_ble_eq_true rfl) (by (repeat (first | apply Sel.here | apply Sel.there | apply Upd.here | apply Upd.there))) ?_))))
 | ((show SLl _ _ _ _ _ (⟨⟨_, .box _ _, _, _, _, _⟩, _, _⟩ :: _) _ _ _); refine SLl.seq rfl rfl (SLo.boxC rfl (by (first | exact Cel.one (by (first | exact One.lit rfl | exact One.lit (by assumption) | exact One.mono (by assumption) (by (repeat' (first | exact Ent.refl | exact Ent.drop | exact Ent.appR | apply Ent.skip))) | exact One.len (by (first | exact Len.nil | (apply Len.row; (· (repeat (first | apply Sel.here | apply Sel.there | apply Upd.here | apply Upd.there)))) | (apply Len.rs; exact Rs.mono (by assumption) (by (repeat' (first | exact Ent.refl | exact Ent.drop | exact Ent.appR | apply Ent.skip)))))))) | exact Cel.agg)) ?_); intro b)
 | ((show SLl _ _ _ _ _ (⟨⟨_, .alloc _, _, _, _, _⟩, _, _⟩ :: _) _ _ _); refine SLl.seq rfl rfl (SLo.alloc ?_); intro b)
 | ((show SLl _ _ _ _ _ (⟨⟨_, .build _ _, _, _, _, _⟩, _, _⟩ :: _) _ _ _); first
 | refine SLl.rdSeq rfl rfl (Rd.build rfl (by (repeat (first | exact CellsW.nil | (apply CellsW.cons; (· (first | exact Cel.one (by (first | exact One.lit rfl | exact One.lit (by assumption) | exact One.mono (by assumption) (by (repeat' (first | exact Ent.refl | exact Ent.drop | exact Ent.appR | apply Ent.skip))) | exact One.len (by (first | exact Len.nil | (apply Len.row; (· (repeat (first | apply Sel.here | apply Sel.there | apply Upd.here | apply Upd.there)))) | (apply Len.rs; exact Rs.mono (by assumption) (by (repeat' (first | exact Ent.refl | exact Ent.drop | exact Ent.appR | apply Ent.skip)))))))) | exact Cel.agg)))))) (by rfl)) ?_
 | refine SLl.pu rfl rfl rfl (Pu.build rfl rfl) ?_)
 | refine SLl.skip rfl rfl ?_))
 | (first
 | refine SLc.seq ?_
 | refine SLc.region rfl ?_
 | refine SLc.condT rfl ?_
 | refine SLc.condF rfl ?_
 | refine SLc.block ?_
 | refine SLc.skip ?_
 | refine SLc.exit ?_
 | refine SLc.ret ?_)))
  refine SLl.seq rfl rfl (SLo.call plain27 rfl (SLf.mono (Awake11 W _) ?_))
  rintro v σ ⟨rfl, rfl⟩
  (repeat' (first
 | (first
 | refine SLl.nil ?_
 | ((show SLl _ _ _ _ _ (⟨⟨_, _, _, _, _, _⟩, _, _⟩ :: _) _ _ _); first
 | refine SLl.ev rfl rfl rfl rfl ?_
 | ((show SLl _ _ _ _ _ (⟨⟨_, .load _ _, _, _, _, _⟩, _, _⟩ :: _) _ _ _); (first | refine SLl.rdSeq rfl rfl (Rd.load rfl rfl (by (first | (apply Reads.blk; (· (repeat (first | apply Sel.here | apply Sel.there | apply Upd.here | apply Upd.there))); (· rfl)) | (apply Reads.row; (· (repeat (first | apply Sel.here | apply Sel.there | apply Upd.here | apply Upd.there))); (· (first | rfl | assumption)); (· rfl)) | (apply Reads.rs; (· exact Rs.mono (by assumption) (by (repeat' (first | exact Ent.refl | exact Ent.drop | exact Ent.appR | apply Ent.skip)))); (· (first | rfl | assumption)); (· rfl))))) ?_ | refine SLl.rdSeq rfl rfl (Rd.loadN rfl rfl (by (first | exact ReadsN.mono (by assumption) (by (repeat' (first | exact Ent.refl | exact Ent.drop | exact Ent.appR | apply Ent.skip))) | (apply ReadsN.blk0; (· (repeat (first | apply Sel.here | apply Sel.there | apply Upd.here | apply Upd.there)))) | (apply ReadsN.row0; (· (repeat (first | apply Sel.here | apply Sel.there | apply Upd.here | apply Upd.there))); (· (first | rfl | assumption))) | (apply ReadsN.rs0; (· exact Rs.mono (by assumption) (by (repeat' (first | exact Ent.refl | exact Ent.drop | exact Ent.appR | apply Ent.skip)))); (· (first | rfl | assumption))))) (by rfl)) ?_))
 | ((show SLl _ _ _ _ _ (⟨⟨_, .fieldAddr _ _ _, _, _, _, _⟩, _, _⟩ :: _) _ _ _); (first | refine SLl.pu rfl rfl rfl (Pu.fieldAddr rfl) ?_ | refine SLl.rdSeq rfl rfl (Rd.fieldAddrEl rfl (by (first | exact Len.nil | (apply Len.row; (· (repeat (first | apply Sel.here | apply Sel.there | apply Upd.here | apply Upd.there)))) | (apply Len.rs; exact Rs.mono (by assumption) (by (repeat' (first | exact Ent.refl | exact Ent.drop | exact Ent.appR | apply Ent.skip)))))) (by omega)) ?_))
 | ((show SLl _ _ _ _ _ (⟨⟨_, .indexAddr _ _ _, _, _, _, _⟩, _, _⟩ :: _) _ _ _); (refine SLl.rdSeq rfl rfl (Rd.indexAddr rfl rfl (by (first | exact Len.nil | (apply Len.row; (· (repeat (first | apply Sel.here | apply Sel.there | apply Upd.here | apply Upd.there)))) | (apply Len.rs; exact Rs.mono (by assumption) (by (repeat' (first | exact Ent.refl | exact Ent.drop | exact Ent.appR | apply Ent.skip)))))) (by (first | exact ij0 | exact ij1 | exact ij2 | exact ij3 | exact ij4 | exact ij5 | rfl | exact (Int.toNat_of_nonneg (by omega)).symm)) (by omega)) ?_))
 | ((show SLl _ _ _ _ _ (⟨⟨_, .call ⟨.builtin .len, _, _⟩, _, _, _, _⟩, _, _⟩ :: _) _ _ _); refine SLl.rdSeq rfl rfl (Rd.len rfl (by (first | exact Len.nil | (apply Len.row; (· (repeat (first | apply Sel.here | apply Sel.there | apply Upd.here | apply Upd.there)))) | (apply Len.rs; exact Rs.mono (by assumption) (by (repeat' (first | exact Ent.refl | exact Ent.drop | exact Ent.appR | apply Ent.skip))))))) ?_)
 | ((show SLl _ _ _ _ _ (⟨⟨_, .binOp _ _ _ _ _, _, _, _, _⟩, _, _⟩ :: _) _ _ _); (first
 | refine SLl.pu rfl rfl rfl (Pu.add rfl rfl (IntWalk.i64_in _ (by omega))) ?_
 | refine SLl.pu rfl rfl rfl (Pu.sub rfl rfl (IntWalk.i64_in _ (by omega))) ?_
 | (refine SLl.cmp rfl rfl rfl rfl rfl rfl ?_ ?_ <;> intro hq <;> simp only [cmpP] at hq <;> try (first
 | exact (hq trivial).elim
 | (exfalso; omega)))
 | refine SLl.pu rfl rfl rfl (Pu.eqNilT rfl rfl) ?_
 | refine SLl.pu rfl rfl rfl (Pu.neNilF rfl rfl) ?_
 | refine SLl.rdSeq rfl rfl (Rd.eqNilF rfl rfl (by (first | exact Len.nil | (apply Len.row; (· (repeat (first | apply Sel.here | apply Sel.there | apply Upd.here | apply Upd.there)))) | (apply Len.rs; exact Rs.mono (by assumption) (by (repeat' (first | exact Ent.refl | exact Ent.drop | exact Ent.appR | apply Ent.skip)))))) (by assumption)) ?_
 | refine SLl.rdSeq rfl rfl (Rd.neNilT rfl rfl (by (first | exact Len.nil | (apply Len.row; (· (repeat (first | apply Sel.here | apply Sel.there | apply Upd.here | apply Upd.there)))) | (apply Len.rs; exact Rs.mono (by assumption) (by (repeat' (first | exact Ent.refl | exact Ent.drop | exact Ent.appR | apply Ent.skip)))))) (by assumption)) ?_
 | refine SLl.pu rfl rfl rfl (Pu.eqPtrNil rfl rfl) ?_
 | refine SLl.pu rfl rfl rfl (Pu.eqBool rfl rfl) ?_
 | refine SLl.pu rfl rfl rfl (Pu.neBool rfl rfl) ?_))
 | ((show SLl _ _ _ _ _ (⟨⟨_, .store _ _ _, _, _, _, _⟩, _, _⟩ :: _) _ _ _); (first | (refine SLl.seq0 rfl (SLo.store rfl rfl rfl (by (first | exact One.lit rfl | exact One.lit (by assumption) | exact One.mono (by assumption) (by (repeat' (first | exact Ent.refl | exact Ent.drop | exact Ent.appR | apply Ent.skip))) | exact One.len (by (first | exact Len.nil | (apply Len.row; (· (repeat (first | apply Sel.here | apply Sel.there | apply Upd.here | apply Upd.there)))) | (apply Len.rs; exact Rs.mono (by assumption) (by (repeat' (first | exact Ent.refl | exact Ent.drop | exact Ent.appR | apply Ent.skip)))))))) (by (first | (apply Wr.blk; (· (repeat (first | apply Sel.here | apply Sel.there | apply Upd.here | apply Upd.there))); (· exact Nat.le_of_ble_eq_true rfl)) | (apply Wr.row; (· (first | rfl | assumption)); (· exact Nat.le_of_ble_eq_true rfl); (· (repeat (first | apply Sel.here | apply Sel.there | apply Upd.here | apply Upd.there)))))) ?_)) | (refine SLl.seq0 rfl (SLo.storeN rfl rfl rfl (by (repeat' (first | exact trivial | (apply And.intro; (· (first | exact One.lit rfl | exact One.lit (by assumption) | exact One.mono (by assumption) (by (repeat' (first | exact Ent.refl | exact Ent.drop | exact Ent.appR | apply Ent.skip))) | exact One.len (by (first | exact Len.nil | (apply Len.row; (· (repeat (first | apply Sel.here | apply Sel.there | apply Upd.here | apply Upd.there)))) | (apply Len.rs; exact Rs.mono (by assumption) (by (repeat' (first | exact Ent.refl | exact Ent.drop | exact Ent.appR | apply Ent.skip)))))))))))) (Nat.le_of_ble_eq_true rfl) (by (repeat (first | apply Sel.here | apply Sel.there | apply Upd.here | apply Upd.there))) ?_))))
 | ((show SLl _ _ _ _ _ (⟨⟨_, .box _ _, _, _, _, _⟩, _, _⟩ :: _) _ _ _); refine SLl.seq rfl rfl (SLo.boxC rfl (by (first | exact Cel.one (by (first | exact One.lit rfl | exact One.lit (by assumption) | exact One.mono (by assumption) (by (repeat' (first | exact Ent.refl | exact Ent.drop | exact Ent.appR | apply Ent.skip))) | exact One.len (by (first | exact Len.nil | (apply Len.row; (· (repeat (first | apply Sel.here | apply Sel.there | apply Upd.here | apply Upd.there)))) | (apply Len.rs; exact Rs.mono (by assumption) (by (repeat' (first | exact Ent.refl | exact Ent.drop | exact Ent.appR | apply Ent.skip)))))))) | exact Cel.agg)) ?_); intro b)
 | ((show SLl _ _ _ _ _ (⟨⟨_, .alloc _, _, _, _, _⟩, _, _⟩ :: _) _ _ _); refine SLl.seq rfl rfl (SLo.alloc ?_); intro b)
 | ((show SLl _ _ _ _ _ (⟨⟨_, .build _ _, _, _, _, _⟩, _, _⟩ :: _) _ _ _); first
 | refine SLl.rdSeq rfl rfl (Rd.build rfl (by (repeat (first | exact CellsW.nil | (apply CellsW.cons; (· (first | exact Cel.one (by (first | exact One.lit rfl | exact One.lit (by assumption) | exact One.mono (by assumption) (by (repeat' (first | exact Ent.refl | exact Ent.drop | exact Ent.appR | apply Ent.skip))) | exact One.len (by (first | exact Len.nil | (apply Len.row; (· (repeat (first | apply Sel.here | apply Sel.there | apply Upd.here | apply Upd.there)))) | (apply Len.rs; exact Rs.mono (by assumption) (by (repeat' (first | exact Ent.refl | exact Ent.drop | exact Ent.appR | apply Ent.skip)))))))) | exact Cel.agg)))))) (by rfl)) ?_
 | refine SLl.pu rfl rfl rfl (Pu.build rfl rfl) ?_)
 | refine SLl.skip rfl rfl ?_))
 | (first
 | refine SLc.seq ?_
 | refine SLc.region rfl ?_
 | refine SLc.condT rfl ?_
 | refine SLc.condF rfl ?_
 | refine SLc.block ?_
 | refine SLc.skip ?_
 | refine SLc.exit ?_
 | refine SLc.ret ?_)))
  refine SLl.pu rfl rfl rfl (Pu.convInt rfl (IntWalk.i64_in _ (by omega))) ?_
  refine SLl.pu rfl rfl rfl (Pu.remN (j := 100) rfl rfl (by omega)) ?_
  refine SLl.pu rfl rfl rfl (Pu.add (r := ((1 + n % 100 : Nat) : Int)) rfl rfl (by rw [IntWalk.i64_in _ (by omega)]; omega)) ?_
  have hk1 : 1 ≤ 1 + n % 100 := by omega
  have hk2 : 1 + n % 100 ≤ 100 := by omega
  generalize 1 + n % 100 = k at hk1 hk2
  (repeat' (first
 | (first
 | refine SLl.nil ?_
 | ((show SLl _ _ _ _ _ (⟨⟨_, _, _, _, _, _⟩, _, _⟩ :: _) _ _ _); first
 | refine SLl.ev rfl rfl rfl rfl ?_
 | ((show SLl _ _ _ _ _ (⟨⟨_, .load _ _, _, _, _, _⟩, _, _⟩ :: _) _ _ _); (first | refine SLl.rdSeq rfl rfl (Rd.load rfl rfl (by (first | (apply Reads.blk; (· (repeat (first | apply Sel.here | apply Sel.there | apply Upd.here | apply Upd.there))); (· rfl)) | (apply Reads.row; (· (repeat (first | apply Sel.here | apply Sel.there | apply Upd.here | apply Upd.there))); (· (first | rfl | assumption)); (· rfl)) | (apply Reads.rs; (· exact Rs.mono (by assumption) (by (repeat' (first | exact Ent.refl | exact Ent.drop | exact Ent.appR | apply Ent.skip)))); (· (first | rfl | assumption)); (· rfl))))) ?_ | refine SLl.rdSeq rfl rfl (Rd.loadN rfl rfl (by (first | exact ReadsN.mono (by assumption) (by (repeat' (first | exact Ent.refl | exact Ent.drop | exact Ent.appR | apply Ent.skip))) | (apply ReadsN.blk0; (· (repeat (first | apply Sel.here | apply Sel.there | apply Upd.here | apply Upd.there)))) | (apply ReadsN.row0; (· (repeat (first | apply Sel.here | apply Sel.there | apply Upd.here | apply Upd.there))); (· (first | rfl | assumption))) | (apply ReadsN.rs0; (· exact Rs.mono (by assumption) (by (repeat' (first | exact Ent.refl | exact Ent.drop | exact Ent.appR | apply Ent.skip)))); (· (first | rfl | assumption))))) (by rfl)) ?_))
 | ((show SLl _ _ _ _ _ (⟨⟨_, .fieldAddr _ _ _, _, _, _, _⟩, _, _⟩ :: _) _ _ _); (first | refine SLl.pu rfl rfl rfl (Pu.fieldAddr rfl) ?_ | refine SLl.rdSeq rfl rfl (Rd.fieldAddrEl rfl (by (first | exact Len.nil | (apply Len.row; (· (repeat (first | apply Sel.here | apply Sel.there | apply Upd.here | apply Upd.there)))) | (apply Len.rs; exact Rs.mono (by assumption) (by (repeat' (first | exact Ent.refl | exact Ent.drop | exact Ent.appR | apply Ent.skip)))))) (by omega)) ?_))
 | ((show SLl _ _ _ _ _ (⟨⟨_, .indexAddr _ _ _, _, _, _, _⟩, _, _⟩ :: _) _ _ _); (refine SLl.rdSeq rfl rfl (Rd.indexAddr rfl rfl (by (first | exact Len.nil | (apply Len.row; (· (repeat (first | apply Sel.here | apply Sel.there | apply Upd.here | apply Upd.there)))) | (apply Len.rs; exact Rs.mono (by assumption) (by (repeat' (first | exact Ent.refl | exact Ent.drop | exact Ent.appR | apply Ent.skip)))))) (by (first | exact ij0 | exact ij1 | exact ij2 | exact ij3 | exact ij4 | exact ij5 | rfl | exact (Int.toNat_of_nonneg (by omega)).symm)) (by omega)) ?_))
 | ((show SLl _ _ _ _ _ (⟨⟨_, .call ⟨.builtin .len, _, _⟩, _, _, _, _⟩, _, _⟩ :: _) _ _ _); refine SLl.rdSeq rfl rfl (Rd.len rfl (by (first | exact Len.nil | (apply Len.row; (· (repeat (first | apply Sel.here | apply Sel.there | apply Upd.here | apply Upd.there)))) | (apply Len.rs; exact Rs.mono (by assumption) (by (repeat' (first | exact Ent.refl | exact Ent.drop | exact Ent.appR | apply Ent.skip))))))) ?_)
 | ((show SLl _ _ _ _ _ (⟨⟨_, .binOp _ _ _ _ _, _, _, _, _⟩, _, _⟩ :: _) _ _ _); (first
 | refine SLl.pu rfl rfl rfl (Pu.add rfl rfl (IntWalk.i64_in _ (by omega))) ?_
 | refine SLl.pu rfl rfl rfl (Pu.sub rfl rfl (IntWalk.i64_in _ (by omega))) ?_
 | (refine SLl.cmp rfl rfl rfl rfl rfl rfl ?_ ?_ <;> intro hq <;> simp only [cmpP] at hq <;> try (first
 | exact (hq trivial).elim
 | (exfalso; omega)))
 | refine SLl.pu rfl rfl rfl (Pu.eqNilT rfl rfl) ?_
 | refine SLl.pu rfl rfl rfl (Pu.neNilF rfl rfl) ?_
 | refine SLl.rdSeq rfl rfl (Rd.eqNilF rfl rfl (by (first | exact Len.nil | (apply Len.row; (· (repeat (first | apply Sel.here | apply Sel.there | apply Upd.here | apply Upd.there)))) | (apply Len.rs; exact Rs.mono (by assumption) (by (repeat' (first | exact Ent.refl | exact Ent.drop | exact Ent.appR | apply Ent.skip)))))) (by assumption)) ?_
 | refine SLl.rdSeq rfl rfl (Rd.neNilT rfl rfl (by (first | exact Len.nil | (apply Len.row; (· (repeat (first | apply Sel.here | apply Sel.there | apply Upd.here | apply Upd.there)))) | (apply Len.rs; exact Rs.mono (by assumption) (by (repeat' (first | exact Ent.refl | exact Ent.drop | exact Ent.appR | apply Ent.skip)))))) (by assumption)) ?_
 | refine SLl.pu rfl rfl rfl (Pu.eqPtrNil rfl rfl) ?_
 | refine SLl.pu rfl rfl rfl (Pu.eqBool rfl rfl) ?_
 | refine SLl.pu rfl rfl rfl (Pu.neBool rfl rfl) ?_))
 | ((show SLl _ _ _ _ _ (⟨⟨_, .store _ _ _, _, _, _, _⟩, _, _⟩ :: _) _ _ _); (first | (refine SLl.seq0 rfl (SLo.store rfl rfl rfl (by (first | exact One.lit rfl | exact One.lit (by assumption) | exact One.mono (by assumption) (by (repeat' (first | exact Ent.refl | exact Ent.drop | exact Ent.appR | apply Ent.skip))) | exact One.len (by (first | exact Len.nil | (apply Len.row; (· (repeat (first | apply Sel.here | apply Sel.there | apply Upd.here | apply Upd.there)))) | (apply Len.rs; exact Rs.mono (by assumption) (by (repeat' (first | exact Ent.refl | exact Ent.drop | exact Ent.appR | apply Ent.skip)))))))) (by (first | (apply Wr.blk; (· (repeat (first | apply Sel.here | apply Sel.there | apply Upd.here | apply Upd.there))); (· exact Nat.le_of_ble_eq_true rfl)) | (apply Wr.row; (· (first | rfl | assumption)); (· exact Nat.le_of_ble_eq_true rfl); (· (repeat (first | apply Sel.here | apply Sel.there | apply Upd.here | apply Upd.there)))))) ?_)) | (refine SLl.seq0 rfl (SLo.storeN rfl rfl rfl (by (repeat' (first | exact trivial | (apply And.intro; (· (first | exact One.lit rfl | exact One.lit (by assumption) | exact One.mono (by assumption) (by (repeat' (first | exact Ent.refl | exact Ent.drop | exact Ent.appR | apply Ent.skip))) | exact One.len (by (first | exact Len.nil | (apply Len.row; (· (repeat (first | apply Sel.here | apply Sel.there | apply Upd.here | apply Upd.there)))) | (apply Len.rs; exact Rs.mono (by assumption) (by (repeat' (first | exact Ent.refl | exact Ent.drop | exact Ent.appR | apply Ent.skip)))))))))))) (Nat.le_of_ble_eq_true rfl) (by (repeat (first | apply Sel.here | apply Sel.there | apply Upd.here | apply Upd.there))) ?_))))
 | ((show SLl _ _ _ _ _ (⟨⟨_, .box _ _, _, _, _, _⟩, _, _⟩ :: _) _ _ _); refine SLl.seq rfl rfl (SLo.boxC rfl (by (first | exact Cel.one (by (first | exact One.lit rfl | exact One.lit (by assumption) | exact One.mono (by assumption) (by (repeat' (first | exact Ent.refl | exact Ent.drop | exact Ent.appR | apply Ent.skip))) | exact One.len (by (first | exact Len.nil | (apply Len.row; (· (repeat (first | apply Sel.here | apply Sel.there | apply Upd.here | apply Upd.there)))) | (apply Len.rs; exact Rs.mono (by assumption) (by (repeat' (first | exact Ent.refl | exact Ent.drop | exact Ent.appR | apply Ent.skip)))))))) | exact Cel.agg)) ?_); intro b)
 | ((show SLl _ _ _ _ _ (⟨⟨_, .alloc _, _, _, _, _⟩, _, _⟩ :: _) _ _ _); refine SLl.seq rfl rfl (SLo.alloc ?_); intro b)
 | ((show SLl _ _ _ _ _ (⟨⟨_, .build _ _, _, _, _, _⟩, _, _⟩ :: _) _ _ _); first
 | refine SLl.rdSeq rfl rfl (Rd.build rfl (by (repeat (first | exact CellsW.nil | (apply CellsW.cons; (· (first | exact Cel.one (by (first | exact One.lit rfl | exact One.lit (by assumption) | exact One.mono (by assumption) (by (repeat' (first | exact Ent.refl | exact Ent.drop | exact Ent.appR | apply Ent.skip))) | exact One.len (by (first | exact Len.nil | (apply Len.row; (· (repeat (first | apply Sel.here | apply Sel.there | apply Upd.here | apply Upd.there)))) | (apply Len.rs; exact Rs.mono (by assumption) (by (repeat' (first | exact Ent.refl | exact Ent.drop | exact Ent.appR | apply Ent.skip)))))))) | exact Cel.agg)))))) (by rfl)) ?_
 | refine SLl.pu rfl rfl rfl (Pu.build rfl rfl) ?_)
 | refine SLl.skip rfl rfl ?_))
 | (first
 | refine SLc.seq ?_
 | refine SLc.region rfl ?_
 | refine SLc.condT rfl ?_
 | refine SLc.condF rfl ?_
 | refine SLc.block ?_
 | refine SLc.skip ?_
 | refine SLc.exit ?_
 | refine SLc.ret ?_)))
  · refine And.intro rfl (Exists.intro _ (Exists.intro _ (And.intro rfl (And.intro .drop rfl))))
  · refine SLl.seq rfl rfl (SLo.buildSliceE [ndCells 1 (.slice none 0 0)] (by decide) (by decide) rfl (by (repeat (first | exact CellsW.nil | (apply CellsW.cons; (· (first | exact Cel.one (by (first | exact One.lit rfl | exact One.lit (by assumption) | exact One.mono (by assumption) (by (repeat' (first | exact Ent.refl | exact Ent.drop | exact Ent.appR | apply Ent.skip))) | exact One.len (by (first | exact Len.nil | (apply Len.row; (· (repeat (first | apply Sel.here | apply Sel.there | apply Upd.here | apply Upd.there)))) | (apply Len.rs; exact Rs.mono (by assumption) (by (repeat' (first | exact Ent.refl | exact Ent.drop | exact Ent.appR | apply Ent.skip)))))))) | exact Cel.agg)))))) (by simp [ndCells]) rfl (by rfl) ?_)
    intro l0 hl0
    (repeat' (first
 | (first
 | refine SLl.nil ?_
 | ((show SLl _ _ _ _ _ (⟨⟨_, _, _, _, _, _⟩, _, _⟩ :: _) _ _ _); first
 | refine SLl.ev rfl rfl rfl rfl ?_
 | ((show SLl _ _ _ _ _ (⟨⟨_, .load _ _, _, _, _, _⟩, _, _⟩ :: _) _ _ _); (first | refine SLl.rdSeq rfl rfl (Rd.load rfl rfl (by (first | (apply Reads.blk; (· (repeat (first | apply Sel.here | apply Sel.there | apply Upd.here | apply Upd.there))); (· rfl)) | (apply Reads.row; (· (repeat (first | apply Sel.here | apply Sel.there | apply Upd.here | apply Upd.there))); (· (first | rfl | assumption)); (· rfl)) | (apply Reads.rs; (· exact Rs.mono (by assumption) (by (repeat' (first | exact Ent.refl | exact Ent.drop | exact Ent.appR | apply Ent.skip)))); (· (first | rfl | assumption)); (· rfl))))) ?_ | refine SLl.rdSeq rfl rfl (Rd.loadN rfl rfl (by (first | exact ReadsN.mono (by assumption) (by (repeat' (first | exact Ent.refl | exact Ent.drop | exact Ent.appR | apply Ent.skip))) | (apply ReadsN.blk0; (· (repeat (first | apply Sel.here | apply Sel.there | apply Upd.here | apply Upd.there)))) | (apply ReadsN.row0; (· (repeat (first | apply Sel.here | apply Sel.there | apply Upd.here | apply Upd.there))); (· (first | rfl | assumption))) | (apply ReadsN.rs0; (· exact Rs.mono (by assumption) (by (repeat' (first | exact Ent.refl | exact Ent.drop | exact Ent.appR | apply Ent.skip)))); (· (first | rfl | assumption))))) (by rfl)) ?_))
 | ((show SLl _ _ _ _ _ (⟨⟨_, .fieldAddr _ _ _, _, _, _, _⟩, _, _⟩ :: _) _ _ _); (first | refine SLl.pu rfl rfl rfl (Pu.fieldAddr rfl) ?_ | refine SLl.rdSeq rfl rfl (Rd.fieldAddrEl rfl (by (first | exact Len.nil | (apply Len.row; (· (repeat (first | apply Sel.here | apply Sel.there | apply Upd.here | apply Upd.there)))) | (apply Len.rs; exact Rs.mono (by assumption) (by (repeat' (first | exact Ent.refl | exact Ent.drop | exact Ent.appR | apply Ent.skip)))))) (by omega)) ?_))
 | ((show SLl _ _ _ _ _ (⟨⟨_, .indexAddr _ _ _, _, _, _, _⟩, _, _⟩ :: _) _ _ _); (refine SLl.rdSeq rfl rfl (Rd.indexAddr rfl rfl (by (first | exact Len.nil | (apply Len.row; (· (repeat (first | apply Sel.here | apply Sel.there | apply Upd.here | apply Upd.there)))) | (apply Len.rs; exact Rs.mono (by assumption) (by (repeat' (first | exact Ent.refl | exact Ent.drop | exact Ent.appR | apply Ent.skip)))))) (by (first | exact ij0 | exact ij1 | exact ij2 | exact ij3 | exact ij4 | exact ij5 | rfl | exact (Int.toNat_of_nonneg (by omega)).symm)) (by omega)) ?_))
 | ((show SLl _ _ _ _ _ (⟨⟨_, .call ⟨.builtin .len, _, _⟩, _, _, _, _⟩, _, _⟩ :: _) _ _ _); refine SLl.rdSeq rfl rfl (Rd.len rfl (by (first | exact Len.nil | (apply Len.row; (· (repeat (first | apply Sel.here | apply Sel.there | apply Upd.here | apply Upd.there)))) | (apply Len.rs; exact Rs.mono (by assumption) (by (repeat' (first | exact Ent.refl | exact Ent.drop | exact Ent.appR | apply Ent.skip))))))) ?_)
 | ((show SLl _ _ _ _ _ (⟨⟨_, .binOp _ _ _ _ _, _, _, _, _⟩, _, _⟩ :: _) _ _ _); (first
 | refine SLl.pu rfl rfl rfl (Pu.add rfl rfl (IntWalk.i64_in _ (by omega))) ?_
 | refine SLl.pu rfl rfl rfl (Pu.sub rfl rfl (IntWalk.i64_in _ (by omega))) ?_
 | (refine SLl.cmp rfl rfl rfl rfl rfl rfl ?_ ?_ <;> intro hq <;> simp only [cmpP] at hq <;> try (first
 | exact (hq trivial).elim
 | (exfalso; omega)))
 | refine SLl.pu rfl rfl rfl (Pu.eqNilT rfl rfl) ?_
 | refine SLl.pu rfl rfl rfl (Pu.neNilF rfl rfl) ?_
 | refine SLl.rdSeq rfl rfl (Rd.eqNilF rfl rfl (by (first | exact Len.nil | (apply Len.row; (· (repeat (first | apply Sel.here | apply Sel.there | apply Upd.here | apply Upd.there)))) | (apply Len.rs; exact Rs.mono (by assumption) (by (repeat' (first | exact Ent.refl | exact Ent.drop | exact Ent.appR | apply Ent.skip)))))) (by assumption)) ?_
 | refine SLl.rdSeq rfl rfl (Rd.neNilT rfl rfl (by (first | exact Len.nil | (apply Len.row; (· (repeat (first | apply Sel.here | apply Sel.there | apply Upd.here | apply Upd.there)))) | (apply Len.rs; exact Rs.mono (by assumption) (by (repeat' (first | exact Ent.refl | exact Ent.drop | exact Ent.appR | apply Ent.skip)))))) (by assumption)) ?_
 | refine SLl.pu rfl rfl rfl (Pu.eqPtrNil rfl rfl) ?_
 | refine SLl.pu rfl rfl rfl (Pu.eqBool rfl rfl) ?_
 | refine SLl.pu rfl rfl rfl (Pu.neBool rfl rfl) ?_))
 | ((show SLl _ _ _ _ _ (⟨⟨_, .store _ _ _, _, _, _, _⟩, _, _⟩ :: _) _ _ _); (first | (refine SLl.seq0 rfl (SLo.store rfl rfl rfl (by (first | exact One.lit rfl | exact One.lit (by assumption) | exact One.mono (by assumption) (by (repeat' (first | exact Ent.refl | exact Ent.drop | exact Ent.appR | apply Ent.skip))) | exact One.len (by (first | exact Len.nil | (apply Len.row; (· (repeat (first | apply Sel.here | apply Sel.there | apply Upd.here | apply Upd.there)))) | (apply Len.rs; exact Rs.mono (by assumption) (by (repeat' (first | exact Ent.refl | exact Ent.drop | exact Ent.appR | apply Ent.skip)))))))) (by (first | (apply Wr.blk; (· (repeat (first | apply Sel.here | apply Sel.there | apply Upd.here | apply Upd.there))); (· exact Nat.le_of_ble_eq_true rfl)) | (apply Wr.row; (· (first | rfl | assumption)); (· exact Nat.le_of_ble_eq_true rfl); (· (repeat (first | apply Sel.here | apply Sel.there | apply Upd.here | apply Upd.there)))))) ?_)) | (refine SLl.seq0 rfl (SLo.storeN rfl rfl rfl (by (repeat' (first | exact trivial | (apply And.intro; (· (first | exact One.lit rfl | exact One.lit (by assumption) | exact One.mono (by assumption) (by (repeat' (first | exact Ent.refl | exact Ent.drop | exact Ent.appR | apply Ent.skip))) | exact One.len (by (first | exact Len.nil | (apply Len.row; (· (repeat (first | apply Sel.here | apply Sel.there | apply Upd.here | apply Upd.there)))) | (apply Len.rs; exact Rs.mono (by assumption) (by (repeat' (first | exact Ent.refl | exact Ent.drop | exact Ent.appR | apply Ent.skip)))))))))))) (Nat.le_of_ble_eq_true rfl) (by (repeat (first | apply Sel.here | apply Sel.there | apply Upd.here | apply Upd.there))) ?_))))
 | ((show SLl _ _ _ _ _ (⟨⟨_, .box _ _, _, _, _, _⟩, _, _⟩ :: _) _ _ _); refine SLl.seq rfl rfl (SLo.boxC rfl (by (first | exact Cel.one (by (first | exact One.lit rfl | exact One.lit (by assumption) | exact One.mono (by assumption) (by (repeat' (first | exact Ent.refl | exact Ent.drop | exact Ent.appR | apply Ent.skip))) | exact One.len (by (first | exact Len.nil | (apply Len.row; (· (repeat (first | apply Sel.here | apply Sel.there | apply Upd.here | apply Upd.there)))) | (apply Len.rs; exact Rs.mono (by assumption) (by (repeat' (first | exact Ent.refl | exact Ent.drop | exact Ent.appR | apply Ent.skip)))))))) | exact Cel.agg)) ?_); intro b)
 | ((show SLl _ _ _ _ _ (⟨⟨_, .alloc _, _, _, _, _⟩, _, _⟩ :: _) _ _ _); refine SLl.seq rfl rfl (SLo.alloc ?_); intro b)
 | ((show SLl _ _ _ _ _ (⟨⟨_, .build _ _, _, _, _, _⟩, _, _⟩ :: _) _ _ _); first
 | refine SLl.rdSeq rfl rfl (Rd.build rfl (by (repeat (first | exact CellsW.nil | (apply CellsW.cons; (· (first | exact Cel.one (by (first | exact One.lit rfl | exact One.lit (by assumption) | exact One.mono (by assumption) (by (repeat' (first | exact Ent.refl | exact Ent.drop | exact Ent.appR | apply Ent.skip))) | exact One.len (by (first | exact Len.nil | (apply Len.row; (· (repeat (first | apply Sel.here | apply Sel.there | apply Upd.here | apply Upd.there)))) | (apply Len.rs; exact Rs.mono (by assumption) (by (repeat' (first | exact Ent.refl | exact Ent.drop | exact Ent.appR | apply Ent.skip)))))))) | exact Cel.agg)))))) (by rfl)) ?_
 | refine SLl.pu rfl rfl rfl (Pu.build rfl rfl) ?_)
 | refine SLl.skip rfl rfl ?_))
 | (first
 | refine SLc.seq ?_
 | refine SLc.region rfl ?_
 | refine SLc.condT rfl ?_
 | refine SLc.condF rfl ?_
 | refine SLc.block ?_
 | refine SLc.skip ?_
 | refine SLc.exit ?_
 | refine SLc.ret ?_)))
    refine SLc.loop (ι := Nat × Value × List Made) (fun s => [(9, .int .i64 s.1), (8, .pointer (some ⟨b, 0, none⟩)), (7, .int .i64 k), (1, tv), (2, .int .u8 r), (6, .bool false)]) (fun s => .blk b 24 [s.2.1] :: .row s.2.1 47 7 (mcells s.2.2) :: s.2.2.map mrow)
      (fun s => 1 ≤ s.1 ∧ s.1 ≤ k ∧ s.2.2.length = s.1 ∧ MChain s.2.2) (fun s => k - s.1) (1, l0, [(1, .slice none 0 0, [])]) ⟨Nat.le_refl _, hk1, rfl, ⟨fun m p hp => ?_⟩⟩ (by (repeat' (first | exact trivial | apply And.intro | rfl))) (.cons .here (.cons .here (.nil .drop))) ?_
    · have hlt := (List.getElem?_eq_some_iff.1 hp).1
      simp only [List.length_singleton] at hlt
      obtain rfl : m = 0 := by omega
      simp only [List.getElem?_cons_zero, Option.some.injEq] at hp
      subst hp
      exact ⟨fun _ => rfl, fun h => by omega, by simp⟩
    rintro ⟨i, lv, ns⟩ ⟨hi1, hi2, hnl, hch⟩
    dsimp only at hi1 hi2 hnl hch ⊢
    have hml := @mcells_len ns
    by_cases hlt : i < k
    · (repeat' (first
 | (first
 | refine SLl.nil ?_
 | ((show SLl _ _ _ _ _ (⟨⟨_, _, _, _, _, _⟩, _, _⟩ :: _) _ _ _); first
 | refine SLl.ev rfl rfl rfl rfl ?_
 | ((show SLl _ _ _ _ _ (⟨⟨_, .load _ _, _, _, _, _⟩, _, _⟩ :: _) _ _ _); (first | refine SLl.rdSeq rfl rfl (Rd.load rfl rfl (by (first | (apply Reads.blk; (· (repeat (first | apply Sel.here | apply Sel.there | apply Upd.here | apply Upd.there))); (· rfl)) | (apply Reads.row; (· (repeat (first | apply Sel.here | apply Sel.there | apply Upd.here | apply Upd.there))); (· (first | rfl | assumption)); (· rfl)) | (apply Reads.rs; (· exact Rs.mono (by assumption) (by (repeat' (first | exact Ent.refl | exact Ent.drop | exact Ent.appR | apply Ent.skip)))); (· (first | rfl | assumption)); (· rfl))))) ?_ | refine SLl.rdSeq rfl rfl (Rd.loadN rfl rfl (by (first | exact ReadsN.mono (by assumption) (by (repeat' (first | exact Ent.refl | exact Ent.drop | exact Ent.appR | apply Ent.skip))) | (apply ReadsN.blk0; (· (repeat (first | apply Sel.here | apply Sel.there | apply Upd.here | apply Upd.there)))) | (apply ReadsN.row0; (· (repeat (first | apply Sel.here | apply Sel.there | apply Upd.here | apply Upd.there))); (· (first | rfl | assumption))) | (apply ReadsN.rs0; (· exact Rs.mono (by assumption) (by (repeat' (first | exact Ent.refl | exact Ent.drop | exact Ent.appR | apply Ent.skip)))); (· (first | rfl | assumption))))) (by rfl)) ?_))
 | ((show SLl _ _ _ _ _ (⟨⟨_, .fieldAddr _ _ _, _, _, _, _⟩, _, _⟩ :: _) _ _ _); (first | refine SLl.pu rfl rfl rfl (Pu.fieldAddr rfl) ?_ | refine SLl.rdSeq rfl rfl (Rd.fieldAddrEl rfl (by (first | exact Len.nil | (apply Len.row; (· (repeat (first | apply Sel.here | apply Sel.there | apply Upd.here | apply Upd.there)))) | (apply Len.rs; exact Rs.mono (by assumption) (by (repeat' (first | exact Ent.refl | exact Ent.drop | exact Ent.appR | apply Ent.skip)))))) (by omega)) ?_))
 | ((show SLl _ _ _ _ _ (⟨⟨_, .indexAddr _ _ _, _, _, _, _⟩, _, _⟩ :: _) _ _ _); (refine SLl.rdSeq rfl rfl (Rd.indexAddr rfl rfl (by (first | exact Len.nil | (apply Len.row; (· (repeat (first | apply Sel.here | apply Sel.there | apply Upd.here | apply Upd.there)))) | (apply Len.rs; exact Rs.mono (by assumption) (by (repeat' (first | exact Ent.refl | exact Ent.drop | exact Ent.appR | apply Ent.skip)))))) (by (first | exact ij0 | exact ij1 | exact ij2 | exact ij3 | exact ij4 | exact ij5 | rfl | exact (Int.toNat_of_nonneg (by omega)).symm)) (by omega)) ?_))
 | ((show SLl _ _ _ _ _ (⟨⟨_, .call ⟨.builtin .len, _, _⟩, _, _, _, _⟩, _, _⟩ :: _) _ _ _); refine SLl.rdSeq rfl rfl (Rd.len rfl (by (first | exact Len.nil | (apply Len.row; (· (repeat (first | apply Sel.here | apply Sel.there | apply Upd.here | apply Upd.there)))) | (apply Len.rs; exact Rs.mono (by assumption) (by (repeat' (first | exact Ent.refl | exact Ent.drop | exact Ent.appR | apply Ent.skip))))))) ?_)
 | ((show SLl _ _ _ _ _ (⟨⟨_, .binOp _ _ _ _ _, _, _, _, _⟩, _, _⟩ :: _) _ _ _); (first
 | refine SLl.pu rfl rfl rfl (Pu.add rfl rfl (IntWalk.i64_in _ (by omega))) ?_
 | refine SLl.pu rfl rfl rfl (Pu.sub rfl rfl (IntWalk.i64_in _ (by omega))) ?_
 | (refine SLl.cmp rfl rfl rfl rfl rfl rfl ?_ ?_ <;> intro hq <;> simp only [cmpP] at hq <;> try (first
 | exact (hq trivial).elim
 | (exfalso; omega)))
 | refine SLl.pu rfl rfl rfl (Pu.eqNilT rfl rfl) ?_
 | refine SLl.pu rfl rfl rfl (Pu.neNilF rfl rfl) ?_
 | refine SLl.rdSeq rfl rfl (Rd.eqNilF rfl rfl (by (first | exact Len.nil | (apply Len.row; (· (repeat (first | apply Sel.here | apply Sel.there | apply Upd.here | apply Upd.there)))) | (apply Len.rs; exact Rs.mono (by assumption) (by (repeat' (first | exact Ent.refl | exact Ent.drop | exact Ent.appR | apply Ent.skip)))))) (by assumption)) ?_
 | refine SLl.rdSeq rfl rfl (Rd.neNilT rfl rfl (by (first | exact Len.nil | (apply Len.row; (· (repeat (first | apply Sel.here | apply Sel.there | apply Upd.here | apply Upd.there)))) | (apply Len.rs; exact Rs.mono (by assumption) (by (repeat' (first | exact Ent.refl | exact Ent.drop | exact Ent.appR | apply Ent.skip)))))) (by assumption)) ?_
 | refine SLl.pu rfl rfl rfl (Pu.eqPtrNil rfl rfl) ?_
 | refine SLl.pu rfl rfl rfl (Pu.eqBool rfl rfl) ?_
 | refine SLl.pu rfl rfl rfl (Pu.neBool rfl rfl) ?_))
 | ((show SLl _ _ _ _ _ (⟨⟨_, .store _ _ _, _, _, _, _⟩, _, _⟩ :: _) _ _ _); (first | (refine SLl.seq0 rfl (SLo.store rfl rfl rfl (by (first | exact One.lit rfl | exact One.lit (by assumption) | exact One.mono (by assumption) (by (repeat' (first | exact Ent.refl | exact Ent.drop | exact Ent.appR | apply Ent.skip))) | exact One.len (by (first | exact Len.nil | (apply Len.row; (· (repeat (first | apply Sel.here | apply Sel.there | apply Upd.here | apply Upd.there)))) | (apply Len.rs; exact Rs.mono (by assumption) (by (repeat' (first | exact Ent.refl | exact Ent.drop | exact Ent.appR | apply Ent.skip)))))))) (by (first | (apply Wr.blk; (· (repeat (first | apply Sel.here | apply Sel.there | apply Upd.here | apply Upd.there))); (· exact Nat.le_of_ble_eq_true rfl)) | (apply Wr.row; (· (first | rfl | assumption)); (· exact Nat.le_of_ble_eq_true rfl); (· (repeat (first | apply Sel.here | apply Sel.there | apply Upd.here | apply Upd.there)))))) ?_)) | (refine SLl.seq0 rfl (SLo.storeN rfl rfl rfl (by (repeat' (first | exact trivial | (apply And.intro; (· (first | exact One.lit rfl | exact One.lit (by assumption) | exact One.mono (by assumption) (by (repeat' (first | exact Ent.refl | exact Ent.drop | exact Ent.appR | apply Ent.skip))) | exact One.len (by (first | exact Len.nil | (apply Len.row; (· (repeat (first | apply Sel.here | apply Sel.there | apply Upd.here | apply Upd.there)))) | (apply Len.rs; exact Rs.mono (by assumption) (by (repeat' (first | exact Ent.refl | exact Ent.drop | exact Ent.appR | apply Ent.skip)))))))))))) (Nat.le_of_ble_eq_true rfl) (by (repeat (first | apply Sel.here | apply Sel.there | apply Upd.here | apply Upd.there))) ?_))))
 | ((show SLl _ _ _ _ _ (⟨⟨_, .box _ _, _, _, _, _⟩, _, _⟩ :: _) _ _ _); refine SLl.seq rfl rfl (SLo.boxC rfl (by (first | exact Cel.one (by (first | exact One.lit rfl | exact One.lit (by assumption) | exact One.mono (by assumption) (by (repeat' (first | exact Ent.refl | exact Ent.drop | exact Ent.appR | apply Ent.skip))) | exact One.len (by (first | exact Len.nil | (apply Len.row; (· (repeat (first | apply Sel.here | apply Sel.there | apply Upd.here | apply Upd.there)))) | (apply Len.rs; exact Rs.mono (by assumption) (by (repeat' (first | exact Ent.refl | exact Ent.drop | exact Ent.appR | apply Ent.skip)))))))) | exact Cel.agg)) ?_); intro b)
 | ((show SLl _ _ _ _ _ (⟨⟨_, .alloc _, _, _, _, _⟩, _, _⟩ :: _) _ _ _); refine SLl.seq rfl rfl (SLo.alloc ?_); intro b)
 | ((show SLl _ _ _ _ _ (⟨⟨_, .build _ _, _, _, _, _⟩, _, _⟩ :: _) _ _ _); first
 | refine SLl.rdSeq rfl rfl (Rd.build rfl (by (repeat (first | exact CellsW.nil | (apply CellsW.cons; (· (first | exact Cel.one (by (first | exact One.lit rfl | exact One.lit (by assumption) | exact One.mono (by assumption) (by (repeat' (first | exact Ent.refl | exact Ent.drop | exact Ent.appR | apply Ent.skip))) | exact One.len (by (first | exact Len.nil | (apply Len.row; (· (repeat (first | apply Sel.here | apply Sel.there | apply Upd.here | apply Upd.there)))) | (apply Len.rs; exact Rs.mono (by assumption) (by (repeat' (first | exact Ent.refl | exact Ent.drop | exact Ent.appR | apply Ent.skip)))))))) | exact Cel.agg)))))) (by rfl)) ?_
 | refine SLl.pu rfl rfl rfl (Pu.build rfl rfl) ?_)
 | refine SLl.skip rfl rfl ?_))
 | (first
 | refine SLc.seq ?_
 | refine SLc.region rfl ?_
 | refine SLc.condT rfl ?_
 | refine SLc.condF rfl ?_
 | refine SLc.block ?_
 | refine SLc.skip ?_
 | refine SLc.exit ?_
 | refine SLc.ret ?_)))
      refine SLl.seq rfl rfl (SLo.buildSliceE (ints [(i : Int) - 1]) (by decide) (by decide) rfl (by (repeat (first | exact CellsW.nil | (apply CellsW.cons; (· (first | exact Cel.one (by (first | exact One.lit rfl | exact One.lit (by assumption) | exact One.mono (by assumption) (by (repeat' (first | exact Ent.refl | exact Ent.drop | exact Ent.appR | apply Ent.skip))) | exact One.len (by (first | exact Len.nil | (apply Len.row; (· (repeat (first | apply Sel.here | apply Sel.there | apply Upd.here | apply Upd.there)))) | (apply Len.rs; exact Rs.mono (by assumption) (by (repeat' (first | exact Ent.refl | exact Ent.drop | exact Ent.appR | apply Ent.skip)))))))) | exact Cel.agg)))))) (by simp [ints]) rfl (by rfl) ?_)
      intro ib hib
      by_cases hti : i < T.length
      · have hTi : T[i]? = some T[i] := List.getElem?_eq_getElem hti
        cases hb0 : T[i] with
        | false =>
          rw [hb0] at hTi
          have hbt := bools_at hTi
          (repeat' (first
 | (first
 | refine SLl.nil ?_
 | ((show SLl _ _ _ _ _ (⟨⟨_, _, _, _, _, _⟩, _, _⟩ :: _) _ _ _); first
 | refine SLl.ev rfl rfl rfl rfl ?_
 | ((show SLl _ _ _ _ _ (⟨⟨_, .load _ _, _, _, _, _⟩, _, _⟩ :: _) _ _ _); (first | refine SLl.rdSeq rfl rfl (Rd.load rfl rfl (by (first | (apply Reads.blk; (· (repeat (first | apply Sel.here | apply Sel.there | apply Upd.here | apply Upd.there))); (· rfl)) | (apply Reads.row; (· (repeat (first | apply Sel.here | apply Sel.there | apply Upd.here | apply Upd.there))); (· (first | rfl | assumption)); (· rfl)) | (apply Reads.rs; (· exact Rs.mono (by assumption) (by (repeat' (first | exact Ent.refl | exact Ent.drop | exact Ent.appR | apply Ent.skip)))); (· (first | rfl | assumption)); (· rfl))))) ?_ | refine SLl.rdSeq rfl rfl (Rd.loadN rfl rfl (by (first | exact ReadsN.mono (by assumption) (by (repeat' (first | exact Ent.refl | exact Ent.drop | exact Ent.appR | apply Ent.skip))) | (apply ReadsN.blk0; (· (repeat (first | apply Sel.here | apply Sel.there | apply Upd.here | apply Upd.there)))) | (apply ReadsN.row0; (· (repeat (first | apply Sel.here | apply Sel.there | apply Upd.here | apply Upd.there))); (· (first | rfl | assumption))) | (apply ReadsN.rs0; (· exact Rs.mono (by assumption) (by (repeat' (first | exact Ent.refl | exact Ent.drop | exact Ent.appR | apply Ent.skip)))); (· (first | rfl | assumption))))) (by rfl)) ?_))
 | ((show SLl _ _ _ _ _ (⟨⟨_, .fieldAddr _ _ _, _, _, _, _⟩, _, _⟩ :: _) _ _ _); (first | refine SLl.pu rfl rfl rfl (Pu.fieldAddr rfl) ?_ | refine SLl.rdSeq rfl rfl (Rd.fieldAddrEl rfl (by (first | exact Len.nil | (apply Len.row; (· (repeat (first | apply Sel.here | apply Sel.there | apply Upd.here | apply Upd.there)))) | (apply Len.rs; exact Rs.mono (by assumption) (by (repeat' (first | exact Ent.refl | exact Ent.drop | exact Ent.appR | apply Ent.skip)))))) (by omega)) ?_))
 | ((show SLl _ _ _ _ _ (⟨⟨_, .indexAddr _ _ _, _, _, _, _⟩, _, _⟩ :: _) _ _ _); (refine SLl.rdSeq rfl rfl (Rd.indexAddr rfl rfl (by (first | exact Len.nil | (apply Len.row; (· (repeat (first | apply Sel.here | apply Sel.there | apply Upd.here | apply Upd.there)))) | (apply Len.rs; exact Rs.mono (by assumption) (by (repeat' (first | exact Ent.refl | exact Ent.drop | exact Ent.appR | apply Ent.skip)))))) (by (first | exact ij0 | exact ij1 | exact ij2 | exact ij3 | exact ij4 | exact ij5 | rfl | exact (Int.toNat_of_nonneg (by omega)).symm)) (by omega)) ?_))
 | ((show SLl _ _ _ _ _ (⟨⟨_, .call ⟨.builtin .len, _, _⟩, _, _, _, _⟩, _, _⟩ :: _) _ _ _); refine SLl.rdSeq rfl rfl (Rd.len rfl (by (first | exact Len.nil | (apply Len.row; (· (repeat (first | apply Sel.here | apply Sel.there | apply Upd.here | apply Upd.there)))) | (apply Len.rs; exact Rs.mono (by assumption) (by (repeat' (first | exact Ent.refl | exact Ent.drop | exact Ent.appR | apply Ent.skip))))))) ?_)
 | ((show SLl _ _ _ _ _ (⟨⟨_, .binOp _ _ _ _ _, _, _, _, _⟩, _, _⟩ :: _) _ _ _); (first
 | refine SLl.pu rfl rfl rfl (Pu.add rfl rfl (IntWalk.i64_in _ (by omega))) ?_
 | refine SLl.pu rfl rfl rfl (Pu.sub rfl rfl (IntWalk.i64_in _ (by omega))) ?_
 | (refine SLl.cmp rfl rfl rfl rfl rfl rfl ?_ ?_ <;> intro hq <;> simp only [cmpP] at hq <;> try (first
 | exact (hq trivial).elim
 | (exfalso; omega)))
 | refine SLl.pu rfl rfl rfl (Pu.eqNilT rfl rfl) ?_
 | refine SLl.pu rfl rfl rfl (Pu.neNilF rfl rfl) ?_
 | refine SLl.rdSeq rfl rfl (Rd.eqNilF rfl rfl (by (first | exact Len.nil | (apply Len.row; (· (repeat (first | apply Sel.here | apply Sel.there | apply Upd.here | apply Upd.there)))) | (apply Len.rs; exact Rs.mono (by assumption) (by (repeat' (first | exact Ent.refl | exact Ent.drop | exact Ent.appR | apply Ent.skip)))))) (by assumption)) ?_
 | refine SLl.rdSeq rfl rfl (Rd.neNilT rfl rfl (by (first | exact Len.nil | (apply Len.row; (· (repeat (first | apply Sel.here | apply Sel.there | apply Upd.here | apply Upd.there)))) | (apply Len.rs; exact Rs.mono (by assumption) (by (repeat' (first | exact Ent.refl | exact Ent.drop | exact Ent.appR | apply Ent.skip)))))) (by assumption)) ?_
 | refine SLl.pu rfl rfl rfl (Pu.eqPtrNil rfl rfl) ?_
 | refine SLl.pu rfl rfl rfl (Pu.eqBool rfl rfl) ?_
 | refine SLl.pu rfl rfl rfl (Pu.neBool rfl rfl) ?_))
 | ((show SLl _ _ _ _ _ (⟨⟨_, .store _ _ _, _, _, _, _⟩, _, _⟩ :: _) _ _ _); (first | (refine SLl.seq0 rfl (SLo.store rfl rfl rfl (by (first | exact One.lit rfl | exact One.lit (by assumption) | exact One.mono (by assumption) (by (repeat' (first | exact Ent.refl | exact Ent.drop | exact Ent.appR | apply Ent.skip))) | exact One.len (by (first | exact Len.nil | (apply Len.row; (· (repeat (first | apply Sel.here | apply Sel.there | apply Upd.here | apply Upd.there)))) | (apply Len.rs; exact Rs.mono (by assumption) (by (repeat' (first | exact Ent.refl | exact Ent.drop | exact Ent.appR | apply Ent.skip)))))))) (by (first | (apply Wr.blk; (· (repeat (first | apply Sel.here | apply Sel.there | apply Upd.here | apply Upd.there))); (· exact Nat.le_of_ble_eq_true rfl)) | (apply Wr.row; (· (first | rfl | assumption)); (· exact Nat.le_of_ble_eq_true rfl); (· (repeat (first | apply Sel.here | apply Sel.there | apply Upd.here | apply Upd.there)))))) ?_)) | (refine SLl.seq0 rfl (SLo.storeN rfl rfl rfl (by (repeat' (first | exact trivial | (apply And.intro; (· (first | exact One.lit rfl | exact One.lit (by assumption) | exact One.mono (by assumption) (by (repeat' (first | exact Ent.refl | exact Ent.drop | exact Ent.appR | apply Ent.skip))) | exact One.len (by (first | exact Len.nil | (apply Len.row; (· (repeat (first | apply Sel.here | apply Sel.there | apply Upd.here | apply Upd.there)))) | (apply Len.rs; exact Rs.mono (by assumption) (by (repeat' (first | exact Ent.refl | exact Ent.drop | exact Ent.appR | apply Ent.skip)))))))))))) (Nat.le_of_ble_eq_true rfl) (by (repeat (first | apply Sel.here | apply Sel.there | apply Upd.here | apply Upd.there))) ?_))))
 | ((show SLl _ _ _ _ _ (⟨⟨_, .box _ _, _, _, _, _⟩, _, _⟩ :: _) _ _ _); refine SLl.seq rfl rfl (SLo.boxC rfl (by (first | exact Cel.one (by (first | exact One.lit rfl | exact One.lit (by assumption) | exact One.mono (by assumption) (by (repeat' (first | exact Ent.refl | exact Ent.drop | exact Ent.appR | apply Ent.skip))) | exact One.len (by (first | exact Len.nil | (apply Len.row; (· (repeat (first | apply Sel.here | apply Sel.there | apply Upd.here | apply Upd.there)))) | (apply Len.rs; exact Rs.mono (by assumption) (by (repeat' (first | exact Ent.refl | exact Ent.drop | exact Ent.appR | apply Ent.skip)))))))) | exact Cel.agg)) ?_); intro b)
 | ((show SLl _ _ _ _ _ (⟨⟨_, .alloc _, _, _, _, _⟩, _, _⟩ :: _) _ _ _); refine SLl.seq rfl rfl (SLo.alloc ?_); intro b)
 | ((show SLl _ _ _ _ _ (⟨⟨_, .build _ _, _, _, _, _⟩, _, _⟩ :: _) _ _ _); first
 | refine SLl.rdSeq rfl rfl (Rd.build rfl (by (repeat (first | exact CellsW.nil | (apply CellsW.cons; (· (first | exact Cel.one (by (first | exact One.lit rfl | exact One.lit (by assumption) | exact One.mono (by assumption) (by (repeat' (first | exact Ent.refl | exact Ent.drop | exact Ent.appR | apply Ent.skip))) | exact One.len (by (first | exact Len.nil | (apply Len.row; (· (repeat (first | apply Sel.here | apply Sel.there | apply Upd.here | apply Upd.there)))) | (apply Len.rs; exact Rs.mono (by assumption) (by (repeat' (first | exact Ent.refl | exact Ent.drop | exact Ent.appR | apply Ent.skip)))))))) | exact Cel.agg)))))) (by rfl)) ?_
 | refine SLl.pu rfl rfl rfl (Pu.build rfl rfl) ?_)
 | refine SLl.skip rfl rfl ?_))
 | (first
 | refine SLc.seq ?_
 | refine SLc.region rfl ?_
 | refine SLc.condT rfl ?_
 | refine SLc.condF rfl ?_
 | refine SLc.block ?_
 | refine SLc.skip ?_
 | refine SLc.exit ?_
 | refine SLc.ret ?_)))
          refine SLl.seq rfl rfl (SLo.buildSliceE [ndCells 8 ib] (by decide) (by decide) rfl (by (repeat (first | exact CellsW.nil | (apply CellsW.cons; (· (first | exact Cel.one (by (first | exact One.lit rfl | exact One.lit (by assumption) | exact One.mono (by assumption) (by (repeat' (first | exact Ent.refl | exact Ent.drop | exact Ent.appR | apply Ent.skip))) | exact One.len (by (first | exact Len.nil | (apply Len.row; (· (repeat (first | apply Sel.here | apply Sel.there | apply Upd.here | apply Upd.there)))) | (apply Len.rs; exact Rs.mono (by assumption) (by (repeat' (first | exact Ent.refl | exact Ent.drop | exact Ent.appR | apply Ent.skip)))))))) | exact Cel.agg)))))) (by simp [ndCells]) rfl (by rfl) ?_)
          intro nb hnb
          refine SLl.seq rfl rfl (SLo.append (es := mcells ns) (ys := [ndCells 8 ib]) (by rfl) (by omega) rfl rfl (by (repeat (first | apply Sel.here | apply Sel.there | apply Upd.here | apply Upd.there))) (Src.row .here (by simp [ndCells])) (nd_ones (One.len (Len.row (by (repeat (first | apply Sel.here | apply Sel.there | apply Upd.here | apply Upd.there)))))) (by simp only [List.length_singleton]; omega) (by simp only [List.length_singleton]; omega) ?_)
          intro v' hv'
          (repeat' (first
 | (first
 | refine SLl.nil ?_
 | ((show SLl _ _ _ _ _ (⟨⟨_, _, _, _, _, _⟩, _, _⟩ :: _) _ _ _); first
 | refine SLl.ev rfl rfl rfl rfl ?_
 | ((show SLl _ _ _ _ _ (⟨⟨_, .load _ _, _, _, _, _⟩, _, _⟩ :: _) _ _ _); (first | refine SLl.rdSeq rfl rfl (Rd.load rfl rfl (by (first | (apply Reads.blk; (· (repeat (first | apply Sel.here | apply Sel.there | apply Upd.here | apply Upd.there))); (· rfl)) | (apply Reads.row; (· (repeat (first | apply Sel.here | apply Sel.there | apply Upd.here | apply Upd.there))); (· (first | rfl | assumption)); (· rfl)) | (apply Reads.rs; (· exact Rs.mono (by assumption) (by (repeat' (first | exact Ent.refl | exact Ent.drop | exact Ent.appR | apply Ent.skip)))); (· (first | rfl | assumption)); (· rfl))))) ?_ | refine SLl.rdSeq rfl rfl (Rd.loadN rfl rfl (by (first | exact ReadsN.mono (by assumption) (by (repeat' (first | exact Ent.refl | exact Ent.drop | exact Ent.appR | apply Ent.skip))) | (apply ReadsN.blk0; (· (repeat (first | apply Sel.here | apply Sel.there | apply Upd.here | apply Upd.there)))) | (apply ReadsN.row0; (· (repeat (first | apply Sel.here | apply Sel.there | apply Upd.here | apply Upd.there))); (· (first | rfl | assumption))) | (apply ReadsN.rs0; (· exact Rs.mono (by assumption) (by (repeat' (first | exact Ent.refl | exact Ent.drop | exact Ent.appR | apply Ent.skip)))); (· (first | rfl | assumption))))) (by rfl)) ?_))
 | ((show SLl _ _ _ _ _ (⟨⟨_, .fieldAddr _ _ _, _, _, _, _⟩, _, _⟩ :: _) _ _ _); (first | refine SLl.pu rfl rfl rfl (Pu.fieldAddr rfl) ?_ | refine SLl.rdSeq rfl rfl (Rd.fieldAddrEl rfl (by (first | exact Len.nil | (apply Len.row; (· (repeat (first | apply Sel.here | apply Sel.there | apply Upd.here | apply Upd.there)))) | (apply Len.rs; exact Rs.mono (by assumption) (by (repeat' (first | exact Ent.refl | exact Ent.drop | exact Ent.appR | apply Ent.skip)))))) (by omega)) ?_))
 | ((show SLl _ _ _ _ _ (⟨⟨_, .indexAddr _ _ _, _, _, _, _⟩, _, _⟩ :: _) _ _ _); (refine SLl.rdSeq rfl rfl (Rd.indexAddr rfl rfl (by (first | exact Len.nil | (apply Len.row; (· (repeat (first | apply Sel.here | apply Sel.there | apply Upd.here | apply Upd.there)))) | (apply Len.rs; exact Rs.mono (by assumption) (by (repeat' (first | exact Ent.refl | exact Ent.drop | exact Ent.appR | apply Ent.skip)))))) (by (first | exact ij0 | exact ij1 | exact ij2 | exact ij3 | exact ij4 | exact ij5 | rfl | exact (Int.toNat_of_nonneg (by omega)).symm)) (by omega)) ?_))
 | ((show SLl _ _ _ _ _ (⟨⟨_, .call ⟨.builtin .len, _, _⟩, _, _, _, _⟩, _, _⟩ :: _) _ _ _); refine SLl.rdSeq rfl rfl (Rd.len rfl (by (first | exact Len.nil | (apply Len.row; (· (repeat (first | apply Sel.here | apply Sel.there | apply Upd.here | apply Upd.there)))) | (apply Len.rs; exact Rs.mono (by assumption) (by (repeat' (first | exact Ent.refl | exact Ent.drop | exact Ent.appR | apply Ent.skip))))))) ?_)
 | ((show SLl _ _ _ _ _ (⟨⟨_, .binOp _ _ _ _ _, _, _, _, _⟩, _, _⟩ :: _) _ _ _); (first
 | refine SLl.pu rfl rfl rfl (Pu.add rfl rfl (IntWalk.i64_in _ (by omega))) ?_
 | refine SLl.pu rfl rfl rfl (Pu.sub rfl rfl (IntWalk.i64_in _ (by omega))) ?_
 | (refine SLl.cmp rfl rfl rfl rfl rfl rfl ?_ ?_ <;> intro hq <;> simp only [cmpP] at hq <;> try (first
 | exact (hq trivial).elim
 | (exfalso; omega)))
 | refine SLl.pu rfl rfl rfl (Pu.eqNilT rfl rfl) ?_
 | refine SLl.pu rfl rfl rfl (Pu.neNilF rfl rfl) ?_
 | refine SLl.rdSeq rfl rfl (Rd.eqNilF rfl rfl (by (first | exact Len.nil | (apply Len.row; (· (repeat (first | apply Sel.here | apply Sel.there | apply Upd.here | apply Upd.there)))) | (apply Len.rs; exact Rs.mono (by assumption) (by (repeat' (first | exact Ent.refl | exact Ent.drop | exact Ent.appR | apply Ent.skip)))))) (by assumption)) ?_
 | refine SLl.rdSeq rfl rfl (Rd.neNilT rfl rfl (by (first | exact Len.nil | (apply Len.row; (· (repeat (first | apply Sel.here | apply Sel.there | apply Upd.here | apply Upd.there)))) | (apply Len.rs; exact Rs.mono (by assumption) (by (repeat' (first | exact Ent.refl | exact Ent.drop | exact Ent.appR | apply Ent.skip)))))) (by assumption)) ?_
 | refine SLl.pu rfl rfl rfl (Pu.eqPtrNil rfl rfl) ?_
 | refine SLl.pu rfl rfl rfl (Pu.eqBool rfl rfl) ?_
 | refine SLl.pu rfl rfl rfl (Pu.neBool rfl rfl) ?_))
 | ((show SLl _ _ _ _ _ (⟨⟨_, .store _ _ _, _, _, _, _⟩, _, _⟩ :: _) _ _ _); (first | (refine SLl.seq0 rfl (SLo.store rfl rfl rfl (by (first | exact One.lit rfl | exact One.lit (by assumption) | exact One.mono (by assumption) (by (repeat' (first | exact Ent.refl | exact Ent.drop | exact Ent.appR | apply Ent.skip))) | exact One.len (by (first | exact Len.nil | (apply Len.row; (· (repeat (first | apply Sel.here | apply Sel.there | apply Upd.here | apply Upd.there)))) | (apply Len.rs; exact Rs.mono (by assumption) (by (repeat' (first | exact Ent.refl | exact Ent.drop | exact Ent.appR | apply Ent.skip)))))))) (by (first | (apply Wr.blk; (· (repeat (first | apply Sel.here | apply Sel.there | apply Upd.here | apply Upd.there))); (· exact Nat.le_of_ble_eq_true rfl)) | (apply Wr.row; (· (first | rfl | assumption)); (· exact Nat.le_of_ble_eq_true rfl); (· (repeat (first | apply Sel.here | apply Sel.there | apply Upd.here | apply Upd.there)))))) ?_)) | (refine SLl.seq0 rfl (SLo.storeN rfl rfl rfl (by (repeat' (first | exact trivial | (apply And.intro; (· (first | exact One.lit rfl | exact One.lit (by assumption) | exact One.mono (by assumption) (by (repeat' (first | exact Ent.refl | exact Ent.drop | exact Ent.appR | apply Ent.skip))) | exact One.len (by (first | exact Len.nil | (apply Len.row; (· (repeat (first | apply Sel.here | apply Sel.there | apply Upd.here | apply Upd.there)))) | (apply Len.rs; exact Rs.mono (by assumption) (by (repeat' (first | exact Ent.refl | exact Ent.drop | exact Ent.appR | apply Ent.skip)))))))))))) (Nat.le_of_ble_eq_true rfl) (by (repeat (first | apply Sel.here | apply Sel.there | apply Upd.here | apply Upd.there))) ?_))))
 | ((show SLl _ _ _ _ _ (⟨⟨_, .box _ _, _, _, _, _⟩, _, _⟩ :: _) _ _ _); refine SLl.seq rfl rfl (SLo.boxC rfl (by (first | exact Cel.one (by (first | exact One.lit rfl | exact One.lit (by assumption) | exact One.mono (by assumption) (by (repeat' (first | exact Ent.refl | exact Ent.drop | exact Ent.appR | apply Ent.skip))) | exact One.len (by (first | exact Len.nil | (apply Len.row; (· (repeat (first | apply Sel.here | apply Sel.there | apply Upd.here | apply Upd.there)))) | (apply Len.rs; exact Rs.mono (by assumption) (by (repeat' (first | exact Ent.refl | exact Ent.drop | exact Ent.appR | apply Ent.skip)))))))) | exact Cel.agg)) ?_); intro b)
 | ((show SLl _ _ _ _ _ (⟨⟨_, .alloc _, _, _, _, _⟩, _, _⟩ :: _) _ _ _); refine SLl.seq rfl rfl (SLo.alloc ?_); intro b)
 | ((show SLl _ _ _ _ _ (⟨⟨_, .build _ _, _, _, _, _⟩, _, _⟩ :: _) _ _ _); first
 | refine SLl.rdSeq rfl rfl (Rd.build rfl (by (repeat (first | exact CellsW.nil | (apply CellsW.cons; (· (first | exact Cel.one (by (first | exact One.lit rfl | exact One.lit (by assumption) | exact One.mono (by assumption) (by (repeat' (first | exact Ent.refl | exact Ent.drop | exact Ent.appR | apply Ent.skip))) | exact One.len (by (first | exact Len.nil | (apply Len.row; (· (repeat (first | apply Sel.here | apply Sel.there | apply Upd.here | apply Upd.there)))) | (apply Len.rs; exact Rs.mono (by assumption) (by (repeat' (first | exact Ent.refl | exact Ent.drop | exact Ent.appR | apply Ent.skip)))))))) | exact Cel.agg)))))) (by rfl)) ?_
 | refine SLl.pu rfl rfl rfl (Pu.build rfl rfl) ?_)
 | refine SLl.skip rfl rfl ?_))
 | (first
 | refine SLc.seq ?_
 | refine SLc.region rfl ?_
 | refine SLc.condT rfl ?_
 | refine SLc.condF rfl ?_
 | refine SLc.block ?_
 | refine SLc.skip ?_
 | refine SLc.exit ?_
 | refine SLc.ret ?_)))
          refine And.intro rfl (Exists.intro (i + 1, v', ns ++ [(8, ib, [(i : Int) - 1])]) (And.intro ⟨by dsimp only; omega, by dsimp only; omega, by simp [hnl], hch.add (by omega) (by simp) (fun q hq => by simp at hq; omega) (by simp)⟩ (And.intro (by dsimp only; omega) (And.intro (by (repeat' (first | exact trivial | apply And.intro | rfl))) ?_))))
          dsimp only
          rw [List.map_append, ← mcells_app]
          refine .cons (by (repeat (first | apply Sel.here | apply Sel.there | apply Upd.here | apply Upd.there))) (.cons .here ?_)
          refine .skip (.trans (.skip .refl) (.perm (List.perm_append_singleton _ _).symm))
        | true =>
          rw [hb0] at hTi
          have hbt := bools_at hTi
          (repeat' (first
 | (first
 | refine SLl.nil ?_
 | ((show SLl _ _ _ _ _ (⟨⟨_, _, _, _, _, _⟩, _, _⟩ :: _) _ _ _); first
 | refine SLl.ev rfl rfl rfl rfl ?_
 | ((show SLl _ _ _ _ _ (⟨⟨_, .load _ _, _, _, _, _⟩, _, _⟩ :: _) _ _ _); (first | refine SLl.rdSeq rfl rfl (Rd.load rfl rfl (by (first | (apply Reads.blk; (· (repeat (first | apply Sel.here | apply Sel.there | apply Upd.here | apply Upd.there))); (· rfl)) | (apply Reads.row; (· (repeat (first | apply Sel.here | apply Sel.there | apply Upd.here | apply Upd.there))); (· (first | rfl | assumption)); (· rfl)) | (apply Reads.rs; (· exact Rs.mono (by assumption) (by (repeat' (first | exact Ent.refl | exact Ent.drop | exact Ent.appR | apply Ent.skip)))); (· (first | rfl | assumption)); (· rfl))))) ?_ | refine SLl.rdSeq rfl rfl (Rd.loadN rfl rfl (by (first | exact ReadsN.mono (by assumption) (by (repeat' (first | exact Ent.refl | exact Ent.drop | exact Ent.appR | apply Ent.skip))) | (apply ReadsN.blk0; (· (repeat (first | apply Sel.here | apply Sel.there | apply Upd.here | apply Upd.there)))) | (apply ReadsN.row0; (· (repeat (first | apply Sel.here | apply Sel.there | apply Upd.here | apply Upd.there))); (· (first | rfl | assumption))) | (apply ReadsN.rs0; (· exact Rs.mono (by assumption) (by (repeat' (first | exact Ent.refl | exact Ent.drop | exact Ent.appR | apply Ent.skip)))); (· (first | rfl | assumption))))) (by rfl)) ?_))
 | ((show SLl _ _ _ _ _ (⟨⟨_, .fieldAddr _ _ _, _, _, _, _⟩, _, _⟩ :: _) _ _ _); (first | refine SLl.pu rfl rfl rfl (Pu.fieldAddr rfl) ?_ | refine SLl.rdSeq rfl rfl (Rd.fieldAddrEl rfl (by (first | exact Len.nil | (apply Len.row; (· (repeat (first | apply Sel.here | apply Sel.there | apply Upd.here | apply Upd.there)))) | (apply Len.rs; exact Rs.mono (by assumption) (by (repeat' (first | exact Ent.refl | exact Ent.drop | exact Ent.appR | apply Ent.skip)))))) (by omega)) ?_))
 | ((show SLl _ _ _ _ _ (⟨⟨_, .indexAddr _ _ _, _, _, _, _⟩, _, _⟩ :: _) _ _ _); (refine SLl.rdSeq rfl rfl (Rd.indexAddr rfl rfl (by (first | exact Len.nil | (apply Len.row; (· (repeat (first | apply Sel.here | apply Sel.there | apply Upd.here | apply Upd.there)))) | (apply Len.rs; exact Rs.mono (by assumption) (by (repeat' (first | exact Ent.refl | exact Ent.drop | exact Ent.appR | apply Ent.skip)))))) (by (first | exact ij0 | exact ij1 | exact ij2 | exact ij3 | exact ij4 | exact ij5 | rfl | exact (Int.toNat_of_nonneg (by omega)).symm)) (by omega)) ?_))
 | ((show SLl _ _ _ _ _ (⟨⟨_, .call ⟨.builtin .len, _, _⟩, _, _, _, _⟩, _, _⟩ :: _) _ _ _); refine SLl.rdSeq rfl rfl (Rd.len rfl (by (first | exact Len.nil | (apply Len.row; (· (repeat (first | apply Sel.here | apply Sel.there | apply Upd.here | apply Upd.there)))) | (apply Len.rs; exact Rs.mono (by assumption) (by (repeat' (first | exact Ent.refl | exact Ent.drop | exact Ent.appR | apply Ent.skip))))))) ?_)
 | ((show SLl _ _ _ _ _ (⟨⟨_, .binOp _ _ _ _ _, _, _, _, _⟩, _, _⟩ :: _) _ _ _); (first
 | refine SLl.pu rfl rfl rfl (Pu.add rfl rfl (IntWalk.i64_in _ (by omega))) ?_
 | refine SLl.pu rfl rfl rfl (Pu.sub rfl rfl (IntWalk.i64_in _ (by omega))) ?_
 | (refine SLl.cmp rfl rfl rfl rfl rfl rfl ?_ ?_ <;> intro hq <;> simp only [cmpP] at hq <;> try (first
 | exact (hq trivial).elim
 | (exfalso; omega)))
 | refine SLl.pu rfl rfl rfl (Pu.eqNilT rfl rfl) ?_
 | refine SLl.pu rfl rfl rfl (Pu.neNilF rfl rfl) ?_
 | refine SLl.rdSeq rfl rfl (Rd.eqNilF rfl rfl (by (first | exact Len.nil | (apply Len.row; (· (repeat (first | apply Sel.here | apply Sel.there | apply Upd.here | apply Upd.there)))) | (apply Len.rs; exact Rs.mono (by assumption) (by (repeat' (first | exact Ent.refl | exact Ent.drop | exact Ent.appR | apply Ent.skip)))))) (by assumption)) ?_
 | refine SLl.rdSeq rfl rfl (Rd.neNilT rfl rfl (by (first | exact Len.nil | (apply Len.row; (· (repeat (first | apply Sel.here | apply Sel.there | apply Upd.here | apply Upd.there)))) | (apply Len.rs; exact Rs.mono (by assumption) (by (repeat' (first | exact Ent.refl | exact Ent.drop | exact Ent.appR | apply Ent.skip)))))) (by assumption)) ?_
 | refine SLl.pu rfl rfl rfl (Pu.eqPtrNil rfl rfl) ?_
 | refine SLl.pu rfl rfl rfl (Pu.eqBool rfl rfl) ?_
 | refine SLl.pu rfl rfl rfl (Pu.neBool rfl rfl) ?_))
 | ((show SLl _ _ _ _ _ (⟨⟨_, .store _ _ _, _, _, _, _⟩, _, _⟩ :: _) _ _ _); (first | (refine SLl.seq0 rfl (SLo.store rfl rfl rfl (by (first | exact One.lit rfl | exact One.lit (by assumption) | exact One.mono (by assumption) (by (repeat' (first | exact Ent.refl | exact Ent.drop | exact Ent.appR | apply Ent.skip))) | exact One.len (by (first | exact Len.nil | (apply Len.row; (· (repeat (first | apply Sel.here | apply Sel.there | apply Upd.here | apply Upd.there)))) | (apply Len.rs; exact Rs.mono (by assumption) (by (repeat' (first | exact Ent.refl | exact Ent.drop | exact Ent.appR | apply Ent.skip)))))))) (by (first | (apply Wr.blk; (· (repeat (first | apply Sel.here | apply Sel.there | apply Upd.here | apply Upd.there))); (· exact Nat.le_of_ble_eq_true rfl)) | (apply Wr.row; (· (first | rfl | assumption)); (· exact Nat.le_of_ble_eq_true rfl); (· (repeat (first | apply Sel.here | apply Sel.there | apply Upd.here | apply Upd.there)))))) ?_)) | (refine SLl.seq0 rfl (SLo.storeN rfl rfl rfl (by (repeat' (first | exact trivial | (apply And.intro; (· (first | exact One.lit rfl | exact One.lit (by assumption) | exact One.mono (by assumption) (by (repeat' (first | exact Ent.refl | exact Ent.drop | exact Ent.appR | apply Ent.skip))) | exact One.len (by (first | exact Len.nil | (apply Len.row; (· (repeat (first | apply Sel.here | apply Sel.there | apply Upd.here | apply Upd.there)))) | (apply Len.rs; exact Rs.mono (by assumption) (by (repeat' (first | exact Ent.refl | exact Ent.drop | exact Ent.appR | apply Ent.skip)))))))))))) (Nat.le_of_ble_eq_true rfl) (by (repeat (first | apply Sel.here | apply Sel.there | apply Upd.here | apply Upd.there))) ?_))))
 | ((show SLl _ _ _ _ _ (⟨⟨_, .box _ _, _, _, _, _⟩, _, _⟩ :: _) _ _ _); refine SLl.seq rfl rfl (SLo.boxC rfl (by (first | exact Cel.one (by (first | exact One.lit rfl | exact One.lit (by assumption) | exact One.mono (by assumption) (by (repeat' (first | exact Ent.refl | exact Ent.drop | exact Ent.appR | apply Ent.skip))) | exact One.len (by (first | exact Len.nil | (apply Len.row; (· (repeat (first | apply Sel.here | apply Sel.there | apply Upd.here | apply Upd.there)))) | (apply Len.rs; exact Rs.mono (by assumption) (by (repeat' (first | exact Ent.refl | exact Ent.drop | exact Ent.appR | apply Ent.skip)))))))) | exact Cel.agg)) ?_); intro b)
 | ((show SLl _ _ _ _ _ (⟨⟨_, .alloc _, _, _, _, _⟩, _, _⟩ :: _) _ _ _); refine SLl.seq rfl rfl (SLo.alloc ?_); intro b)
 | ((show SLl _ _ _ _ _ (⟨⟨_, .build _ _, _, _, _, _⟩, _, _⟩ :: _) _ _ _); first
 | refine SLl.rdSeq rfl rfl (Rd.build rfl (by (repeat (first | exact CellsW.nil | (apply CellsW.cons; (· (first | exact Cel.one (by (first | exact One.lit rfl | exact One.lit (by assumption) | exact One.mono (by assumption) (by (repeat' (first | exact Ent.refl | exact Ent.drop | exact Ent.appR | apply Ent.skip))) | exact One.len (by (first | exact Len.nil | (apply Len.row; (· (repeat (first | apply Sel.here | apply Sel.there | apply Upd.here | apply Upd.there)))) | (apply Len.rs; exact Rs.mono (by assumption) (by (repeat' (first | exact Ent.refl | exact Ent.drop | exact Ent.appR | apply Ent.skip)))))))) | exact Cel.agg)))))) (by rfl)) ?_
 | refine SLl.pu rfl rfl rfl (Pu.build rfl rfl) ?_)
 | refine SLl.skip rfl rfl ?_))
 | (first
 | refine SLc.seq ?_
 | refine SLc.region rfl ?_
 | refine SLc.condT rfl ?_
 | refine SLc.condF rfl ?_
 | refine SLc.block ?_
 | refine SLc.skip ?_
 | refine SLc.exit ?_
 | refine SLc.ret ?_)))
          refine SLl.seq rfl rfl (SLo.buildSliceE (ints [(i : Int) - 1, (i : Int) - 1]) (by decide) (by decide) rfl (by (repeat (first | exact CellsW.nil | (apply CellsW.cons; (· (first | exact Cel.one (by (first | exact One.lit rfl | exact One.lit (by assumption) | exact One.mono (by assumption) (by (repeat' (first | exact Ent.refl | exact Ent.drop | exact Ent.appR | apply Ent.skip))) | exact One.len (by (first | exact Len.nil | (apply Len.row; (· (repeat (first | apply Sel.here | apply Sel.there | apply Upd.here | apply Upd.there)))) | (apply Len.rs; exact Rs.mono (by assumption) (by (repeat' (first | exact Ent.refl | exact Ent.drop | exact Ent.appR | apply Ent.skip)))))))) | exact Cel.agg)))))) (by simp [ints]) rfl (by rfl) ?_)
          intro ic hic
          (repeat' (first
 | (first
 | refine SLl.nil ?_
 | ((show SLl _ _ _ _ _ (⟨⟨_, _, _, _, _, _⟩, _, _⟩ :: _) _ _ _); first
 | refine SLl.ev rfl rfl rfl rfl ?_
 | ((show SLl _ _ _ _ _ (⟨⟨_, .load _ _, _, _, _, _⟩, _, _⟩ :: _) _ _ _); (first | refine SLl.rdSeq rfl rfl (Rd.load rfl rfl (by (first | (apply Reads.blk; (· (repeat (first | apply Sel.here | apply Sel.there | apply Upd.here | apply Upd.there))); (· rfl)) | (apply Reads.row; (· (repeat (first | apply Sel.here | apply Sel.there | apply Upd.here | apply Upd.there))); (· (first | rfl | assumption)); (· rfl)) | (apply Reads.rs; (· exact Rs.mono (by assumption) (by (repeat' (first | exact Ent.refl | exact Ent.drop | exact Ent.appR | apply Ent.skip)))); (· (first | rfl | assumption)); (· rfl))))) ?_ | refine SLl.rdSeq rfl rfl (Rd.loadN rfl rfl (by (first | exact ReadsN.mono (by assumption) (by (repeat' (first | exact Ent.refl | exact Ent.drop | exact Ent.appR | apply Ent.skip))) | (apply ReadsN.blk0; (· (repeat (first | apply Sel.here | apply Sel.there | apply Upd.here | apply Upd.there)))) | (apply ReadsN.row0; (· (repeat (first | apply Sel.here | apply Sel.there | apply Upd.here | apply Upd.there))); (· (first | rfl | assumption))) | (apply ReadsN.rs0; (· exact Rs.mono (by assumption) (by (repeat' (first | exact Ent.refl | exact Ent.drop | exact Ent.appR | apply Ent.skip)))); (· (first | rfl | assumption))))) (by rfl)) ?_))
 | ((show SLl _ _ _ _ _ (⟨⟨_, .fieldAddr _ _ _, _, _, _, _⟩, _, _⟩ :: _) _ _ _); (first | refine SLl.pu rfl rfl rfl (Pu.fieldAddr rfl) ?_ | refine SLl.rdSeq rfl rfl (Rd.fieldAddrEl rfl (by (first | exact Len.nil | (apply Len.row; (· (repeat (first | apply Sel.here | apply Sel.there | apply Upd.here | apply Upd.there)))) | (apply Len.rs; exact Rs.mono (by assumption) (by (repeat' (first | exact Ent.refl | exact Ent.drop | exact Ent.appR | apply Ent.skip)))))) (by omega)) ?_))
 | ((show SLl _ _ _ _ _ (⟨⟨_, .indexAddr _ _ _, _, _, _, _⟩, _, _⟩ :: _) _ _ _); (refine SLl.rdSeq rfl rfl (Rd.indexAddr rfl rfl (by (first | exact Len.nil | (apply Len.row; (· (repeat (first | apply Sel.here | apply Sel.there | apply Upd.here | apply Upd.there)))) | (apply Len.rs; exact Rs.mono (by assumption) (by (repeat' (first | exact Ent.refl | exact Ent.drop | exact Ent.appR | apply Ent.skip)))))) (by (first | exact ij0 | exact ij1 | exact ij2 | exact ij3 | exact ij4 | exact ij5 | rfl | exact (Int.toNat_of_nonneg (by omega)).symm)) (by omega)) ?_))
 | ((show SLl _ _ _ _ _ (⟨⟨_, .call ⟨.builtin .len, _, _⟩, _, _, _, _⟩, _, _⟩ :: _) _ _ _); refine SLl.rdSeq rfl rfl (Rd.len rfl (by (first | exact Len.nil | (apply Len.row; (· (repeat (first | apply Sel.here | apply Sel.there | apply Upd.here | apply Upd.there)))) | (apply Len.rs; exact Rs.mono (by assumption) (by (repeat' (first | exact Ent.refl | exact Ent.drop | exact Ent.appR | apply Ent.skip))))))) ?_)
 | ((show SLl _ _ _ _ _ (⟨⟨_, .binOp _ _ _ _ _, _, _, _, _⟩, _, _⟩ :: _) _ _ _); (first
 | refine SLl.pu rfl rfl rfl (Pu.add rfl rfl (IntWalk.i64_in _ (by omega))) ?_
 | refine SLl.pu rfl rfl rfl (Pu.sub rfl rfl (IntWalk.i64_in _ (by omega))) ?_
 | (refine SLl.cmp rfl rfl rfl rfl rfl rfl ?_ ?_ <;> intro hq <;> simp only [cmpP] at hq <;> try (first
 | exact (hq trivial).elim
 | (exfalso; omega)))
 | refine SLl.pu rfl rfl rfl (Pu.eqNilT rfl rfl) ?_
 | refine SLl.pu rfl rfl rfl (Pu.neNilF rfl rfl) ?_
 | refine SLl.rdSeq rfl rfl (Rd.eqNilF rfl rfl (by (first | exact Len.nil | (apply Len.row; (· (repeat (first | apply Sel.here | apply Sel.there | apply Upd.here | apply Upd.there)))) | (apply Len.rs; exact Rs.mono (by assumption) (by (repeat' (first | exact Ent.refl | exact Ent.drop | exact Ent.appR | apply Ent.skip)))))) (by assumption)) ?_
 | refine SLl.rdSeq rfl rfl (Rd.neNilT rfl rfl (by (first | exact Len.nil | (apply Len.row; (· (repeat (first | apply Sel.here | apply Sel.there | apply Upd.here | apply Upd.there)))) | (apply Len.rs; exact Rs.mono (by assumption) (by (repeat' (first | exact Ent.refl | exact Ent.drop | exact Ent.appR | apply Ent.skip)))))) (by assumption)) ?_
 | refine SLl.pu rfl rfl rfl (Pu.eqPtrNil rfl rfl) ?_
 | refine SLl.pu rfl rfl rfl (Pu.eqBool rfl rfl) ?_
 | refine SLl.pu rfl rfl rfl (Pu.neBool rfl rfl) ?_))
 | ((show SLl _ _ _ _ _ (⟨⟨_, .store _ _ _, _, _, _, _⟩, _, _⟩ :: _) _ _ _); (first | (refine SLl.seq0 rfl (SLo.store rfl rfl rfl (by (first | exact One.lit rfl | exact One.lit (by assumption) | exact One.mono (by assumption) (by (repeat' (first | exact Ent.refl | exact Ent.drop | exact Ent.appR | apply Ent.skip))) | exact One.len (by (first | exact Len.nil | (apply Len.row; (· (repeat (first | apply Sel.here | apply Sel.there | apply Upd.here | apply Upd.there)))) | (apply Len.rs; exact Rs.mono (by assumption) (by (repeat' (first | exact Ent.refl | exact Ent.drop | exact Ent.appR | apply Ent.skip)))))))) (by (first | (apply Wr.blk; (· (repeat (first | apply Sel.here | apply Sel.there | apply Upd.here | apply Upd.there))); (· exact Nat.le_of_ble_eq_true rfl)) | (apply Wr.row; (· (first | rfl | assumption)); (· exact Nat.le_of_ble_eq_true rfl); (· (repeat (first | apply Sel.here | apply Sel.there | apply Upd.here | apply Upd.there)))))) ?_)) | (refine SLl.seq0 rfl (SLo.storeN rfl rfl rfl (by (repeat' (first | exact trivial | (apply And.intro; (· (first | exact One.lit rfl | exact One.lit (by assumption) | exact One.mono (by assumption) (by (repeat' (first | exact Ent.refl | exact Ent.drop | exact Ent.appR | apply Ent.skip))) | exact One.len (by (first | exact Len.nil | (apply Len.row; (· (repeat (first | apply Sel.here | apply Sel.there | apply Upd.here | apply Upd.there)))) | (apply Len.rs; exact Rs.mono (by assumption) (by (repeat' (first | exact Ent.refl | exact Ent.drop | exact Ent.appR | apply Ent.skip)))))))))))) (Nat.le_of_ble_eq_true rfl) (by (repeat (first | apply Sel.here | apply Sel.there | apply Upd.here | apply Upd.there))) ?_))))
 | ((show SLl _ _ _ _ _ (⟨⟨_, .box _ _, _, _, _, _⟩, _, _⟩ :: _) _ _ _); refine SLl.seq rfl rfl (SLo.boxC rfl (by (first | exact Cel.one (by (first | exact One.lit rfl | exact One.lit (by assumption) | exact One.mono (by assumption) (by (repeat' (first | exact Ent.refl | exact Ent.drop | exact Ent.appR | apply Ent.skip))) | exact One.len (by (first | exact Len.nil | (apply Len.row; (· (repeat (first | apply Sel.here | apply Sel.there | apply Upd.here | apply Upd.there)))) | (apply Len.rs; exact Rs.mono (by assumption) (by (repeat' (first | exact Ent.refl | exact Ent.drop | exact Ent.appR | apply Ent.skip)))))))) | exact Cel.agg)) ?_); intro b)
 | ((show SLl _ _ _ _ _ (⟨⟨_, .alloc _, _, _, _, _⟩, _, _⟩ :: _) _ _ _); refine SLl.seq rfl rfl (SLo.alloc ?_); intro b)
 | ((show SLl _ _ _ _ _ (⟨⟨_, .build _ _, _, _, _, _⟩, _, _⟩ :: _) _ _ _); first
 | refine SLl.rdSeq rfl rfl (Rd.build rfl (by (repeat (first | exact CellsW.nil | (apply CellsW.cons; (· (first | exact Cel.one (by (first | exact One.lit rfl | exact One.lit (by assumption) | exact One.mono (by assumption) (by (repeat' (first | exact Ent.refl | exact Ent.drop | exact Ent.appR | apply Ent.skip))) | exact One.len (by (first | exact Len.nil | (apply Len.row; (· (repeat (first | apply Sel.here | apply Sel.there | apply Upd.here | apply Upd.there)))) | (apply Len.rs; exact Rs.mono (by assumption) (by (repeat' (first | exact Ent.refl | exact Ent.drop | exact Ent.appR | apply Ent.skip)))))))) | exact Cel.agg)))))) (by rfl)) ?_
 | refine SLl.pu rfl rfl rfl (Pu.build rfl rfl) ?_)
 | refine SLl.skip rfl rfl ?_))
 | (first
 | refine SLc.seq ?_
 | refine SLc.region rfl ?_
 | refine SLc.condT rfl ?_
 | refine SLc.condF rfl ?_
 | refine SLc.block ?_
 | refine SLc.skip ?_
 | refine SLc.exit ?_
 | refine SLc.ret ?_)))
          refine SLl.seq rfl rfl (SLo.buildSliceE [ndCells 4 ic] (by decide) (by decide) rfl (by (repeat (first | exact CellsW.nil | (apply CellsW.cons; (· (first | exact Cel.one (by (first | exact One.lit rfl | exact One.lit (by assumption) | exact One.mono (by assumption) (by (repeat' (first | exact Ent.refl | exact Ent.drop | exact Ent.appR | apply Ent.skip))) | exact One.len (by (first | exact Len.nil | (apply Len.row; (· (repeat (first | apply Sel.here | apply Sel.there | apply Upd.here | apply Upd.there)))) | (apply Len.rs; exact Rs.mono (by assumption) (by (repeat' (first | exact Ent.refl | exact Ent.drop | exact Ent.appR | apply Ent.skip)))))))) | exact Cel.agg)))))) (by simp [ndCells]) rfl (by rfl) ?_)
          intro nb hnb
          refine SLl.seq rfl rfl (SLo.append (es := mcells ns) (ys := [ndCells 4 ic]) (by rfl) (by omega) rfl rfl (by (repeat (first | apply Sel.here | apply Sel.there | apply Upd.here | apply Upd.there))) (Src.row .here (by simp [ndCells])) (nd_ones (One.len (Len.row (by (repeat (first | apply Sel.here | apply Sel.there | apply Upd.here | apply Upd.there)))))) (by simp only [List.length_singleton]; omega) (by simp only [List.length_singleton]; omega) ?_)
          intro v' hv'
          (repeat' (first
 | (first
 | refine SLl.nil ?_
 | ((show SLl _ _ _ _ _ (⟨⟨_, _, _, _, _, _⟩, _, _⟩ :: _) _ _ _); first
 | refine SLl.ev rfl rfl rfl rfl ?_
 | ((show SLl _ _ _ _ _ (⟨⟨_, .load _ _, _, _, _, _⟩, _, _⟩ :: _) _ _ _); (first | refine SLl.rdSeq rfl rfl (Rd.load rfl rfl (by (first | (apply Reads.blk; (· (repeat (first | apply Sel.here | apply Sel.there | apply Upd.here | apply Upd.there))); (· rfl)) | (apply Reads.row; (· (repeat (first | apply Sel.here | apply Sel.there | apply Upd.here | apply Upd.there))); (· (first | rfl | assumption)); (· rfl)) | (apply Reads.rs; (· exact Rs.mono (by assumption) (by (repeat' (first | exact Ent.refl | exact Ent.drop | exact Ent.appR | apply Ent.skip)))); (· (first | rfl | assumption)); (· rfl))))) ?_ | refine SLl.rdSeq rfl rfl (Rd.loadN rfl rfl (by (first | exact ReadsN.mono (by assumption) (by (repeat' (first | exact Ent.refl | exact Ent.drop | exact Ent.appR | apply Ent.skip))) | (apply ReadsN.blk0; (· (repeat (first | apply Sel.here | apply Sel.there | apply Upd.here | apply Upd.there)))) | (apply ReadsN.row0; (· (repeat (first | apply Sel.here | apply Sel.there | apply Upd.here | apply Upd.there))); (· (first | rfl | assumption))) | (apply ReadsN.rs0; (· exact Rs.mono (by assumption) (by (repeat' (first | exact Ent.refl | exact Ent.drop | exact Ent.appR | apply Ent.skip)))); (· (first | rfl | assumption))))) (by rfl)) ?_))
 | ((show SLl _ _ _ _ _ (⟨⟨_, .fieldAddr _ _ _, _, _, _, _⟩, _, _⟩ :: _) _ _ _); (first | refine SLl.pu rfl rfl rfl (Pu.fieldAddr rfl) ?_ | refine SLl.rdSeq rfl rfl (Rd.fieldAddrEl rfl (by (first | exact Len.nil | (apply Len.row; (· (repeat (first | apply Sel.here | apply Sel.there | apply Upd.here | apply Upd.there)))) | (apply Len.rs; exact Rs.mono (by assumption) (by (repeat' (first | exact Ent.refl | exact Ent.drop | exact Ent.appR | apply Ent.skip)))))) (by omega)) ?_))
 | ((show SLl _ _ _ _ _ (⟨⟨_, .indexAddr _ _ _, _, _, _, _⟩, _, _⟩ :: _) _ _ _); (refine SLl.rdSeq rfl rfl (Rd.indexAddr rfl rfl (by (first | exact Len.nil | (apply Len.row; (· (repeat (first | apply Sel.here | apply Sel.there | apply Upd.here | apply Upd.there)))) | (apply Len.rs; exact Rs.mono (by assumption) (by (repeat' (first | exact Ent.refl | exact Ent.drop | exact Ent.appR | apply Ent.skip)))))) (by (first | exact ij0 | exact ij1 | exact ij2 | exact ij3 | exact ij4 | exact ij5 | rfl | exact (Int.toNat_of_nonneg (by omega)).symm)) (by omega)) ?_))
 | ((show SLl _ _ _ _ _ (⟨⟨_, .call ⟨.builtin .len, _, _⟩, _, _, _, _⟩, _, _⟩ :: _) _ _ _); refine SLl.rdSeq rfl rfl (Rd.len rfl (by (first | exact Len.nil | (apply Len.row; (· (repeat (first | apply Sel.here | apply Sel.there | apply Upd.here | apply Upd.there)))) | (apply Len.rs; exact Rs.mono (by assumption) (by (repeat' (first | exact Ent.refl | exact Ent.drop | exact Ent.appR | apply Ent.skip))))))) ?_)
 | ((show SLl _ _ _ _ _ (⟨⟨_, .binOp _ _ _ _ _, _, _, _, _⟩, _, _⟩ :: _) _ _ _); (first
 | refine SLl.pu rfl rfl rfl (Pu.add rfl rfl (IntWalk.i64_in _ (by omega))) ?_
 | refine SLl.pu rfl rfl rfl (Pu.sub rfl rfl (IntWalk.i64_in _ (by omega))) ?_
 | (refine SLl.cmp rfl rfl rfl rfl rfl rfl ?_ ?_ <;> intro hq <;> simp only [cmpP] at hq <;> try (first
 | exact (hq trivial).elim
 | (exfalso; omega)))
 | refine SLl.pu rfl rfl rfl (Pu.eqNilT rfl rfl) ?_
 | refine SLl.pu rfl rfl rfl (Pu.neNilF rfl rfl) ?_
 | refine SLl.rdSeq rfl rfl (Rd.eqNilF rfl rfl (by (first | exact Len.nil | (apply Len.row; (· (repeat (first | apply Sel.here | apply Sel.there | apply Upd.here | apply Upd.there)))) | (apply Len.rs; exact Rs.mono (by assumption) (by (repeat' (first | exact Ent.refl | exact Ent.drop | exact Ent.appR | apply Ent.skip)))))) (by assumption)) ?_
 | refine SLl.rdSeq rfl rfl (Rd.neNilT rfl rfl (by (first | exact Len.nil | (apply Len.row; (· (repeat (first | apply Sel.here | apply Sel.there | apply Upd.here | apply Upd.there)))) | (apply Len.rs; exact Rs.mono (by assumption) (by (repeat' (first | exact Ent.refl | exact Ent.drop | exact Ent.appR | apply Ent.skip)))))) (by assumption)) ?_
 | refine SLl.pu rfl rfl rfl (Pu.eqPtrNil rfl rfl) ?_
 | refine SLl.pu rfl rfl rfl (Pu.eqBool rfl rfl) ?_
 | refine SLl.pu rfl rfl rfl (Pu.neBool rfl rfl) ?_))
 | ((show SLl _ _ _ _ _ (⟨⟨_, .store _ _ _, _, _, _, _⟩, _, _⟩ :: _) _ _ _); (first | (refine SLl.seq0 rfl (SLo.store rfl rfl rfl (by (first | exact One.lit rfl | exact One.lit (by assumption) | exact One.mono (by assumption) (by (repeat' (first | exact Ent.refl | exact Ent.drop | exact Ent.appR | apply Ent.skip))) | exact One.len (by (first | exact Len.nil | (apply Len.row; (· (repeat (first | apply Sel.here | apply Sel.there | apply Upd.here | apply Upd.there)))) | (apply Len.rs; exact Rs.mono (by assumption) (by (repeat' (first | exact Ent.refl | exact Ent.drop | exact Ent.appR | apply Ent.skip)))))))) (by (first | (apply Wr.blk; (· (repeat (first | apply Sel.here | apply Sel.there | apply Upd.here | apply Upd.there))); (· exact Nat.le_of_ble_eq_true rfl)) | (apply Wr.row; (· (first | rfl | assumption)); (· exact Nat.le_of_ble_eq_true rfl); (· (repeat (first | apply Sel.here | apply Sel.there | apply Upd.here | apply Upd.there)))))) ?_)) | (refine SLl.seq0 rfl (SLo.storeN rfl rfl rfl (by (repeat' (first | exact trivial | (apply And.intro; (· (first | exact One.lit rfl | exact One.lit (by assumption) | exact One.mono (by assumption) (by (repeat' (first | exact Ent.refl | exact Ent.drop | exact Ent.appR | apply Ent.skip))) | exact One.len (by (first | exact Len.nil | (apply Len.row; (· (repeat (first | apply Sel.here | apply Sel.there | apply Upd.here | apply Upd.there)))) | (apply Len.rs; exact Rs.mono (by assumption) (by (repeat' (first | exact Ent.refl | exact Ent.drop | exact Ent.appR | apply Ent.skip)))))))))))) (Nat.le_of_ble_eq_true rfl) (by (repeat (first | apply Sel.here | apply Sel.there | apply Upd.here | apply Upd.there))) ?_))))
 | ((show SLl _ _ _ _ _ (⟨⟨_, .box _ _, _, _, _, _⟩, _, _⟩ :: _) _ _ _); refine SLl.seq rfl rfl (SLo.boxC rfl (by (first | exact Cel.one (by (first | exact One.lit rfl | exact One.lit (by assumption) | exact One.mono (by assumption) (by (repeat' (first | exact Ent.refl | exact Ent.drop | exact Ent.appR | apply Ent.skip))) | exact One.len (by (first | exact Len.nil | (apply Len.row; (· (repeat (first | apply Sel.here | apply Sel.there | apply Upd.here | apply Upd.there)))) | (apply Len.rs; exact Rs.mono (by assumption) (by (repeat' (first | exact Ent.refl | exact Ent.drop | exact Ent.appR | apply Ent.skip)))))))) | exact Cel.agg)) ?_); intro b)
 | ((show SLl _ _ _ _ _ (⟨⟨_, .alloc _, _, _, _, _⟩, _, _⟩ :: _) _ _ _); refine SLl.seq rfl rfl (SLo.alloc ?_); intro b)
 | ((show SLl _ _ _ _ _ (⟨⟨_, .build _ _, _, _, _, _⟩, _, _⟩ :: _) _ _ _); first
 | refine SLl.rdSeq rfl rfl (Rd.build rfl (by (repeat (first | exact CellsW.nil | (apply CellsW.cons; (· (first | exact Cel.one (by (first | exact One.lit rfl | exact One.lit (by assumption) | exact One.mono (by assumption) (by (repeat' (first | exact Ent.refl | exact Ent.drop | exact Ent.appR | apply Ent.skip))) | exact One.len (by (first | exact Len.nil | (apply Len.row; (· (repeat (first | apply Sel.here | apply Sel.there | apply Upd.here | apply Upd.there)))) | (apply Len.rs; exact Rs.mono (by assumption) (by (repeat' (first | exact Ent.refl | exact Ent.drop | exact Ent.appR | apply Ent.skip)))))))) | exact Cel.agg)))))) (by rfl)) ?_
 | refine SLl.pu rfl rfl rfl (Pu.build rfl rfl) ?_)
 | refine SLl.skip rfl rfl ?_))
 | (first
 | refine SLc.seq ?_
 | refine SLc.region rfl ?_
 | refine SLc.condT rfl ?_
 | refine SLc.condF rfl ?_
 | refine SLc.block ?_
 | refine SLc.skip ?_
 | refine SLc.exit ?_
 | refine SLc.ret ?_)))
          refine And.intro rfl (Exists.intro (i + 1, v', ns ++ [(4, ic, [(i : Int) - 1, (i : Int) - 1])]) (And.intro ⟨by dsimp only; omega, by dsimp only; omega, by simp [hnl], hch.add (by omega) (by simp) (fun q hq => by simp at hq; omega) (by simp)⟩ (And.intro (by dsimp only; omega) (And.intro (by (repeat' (first | exact trivial | apply And.intro | rfl))) ?_))))
          dsimp only
          rw [List.map_append, ← mcells_app]
          refine .cons (by (repeat (first | apply Sel.here | apply Sel.there | apply Upd.here | apply Upd.there))) (.cons .here ?_)
          refine .skip (.trans (.cons .here (.skip (.skip .refl))) (.perm (List.perm_append_singleton _ _).symm))
      · (repeat' (first
 | (first
 | refine SLl.nil ?_
 | ((show SLl _ _ _ _ _ (⟨⟨_, _, _, _, _, _⟩, _, _⟩ :: _) _ _ _); first
 | refine SLl.ev rfl rfl rfl rfl ?_
 | ((show SLl _ _ _ _ _ (⟨⟨_, .load _ _, _, _, _, _⟩, _, _⟩ :: _) _ _ _); (first | refine SLl.rdSeq rfl rfl (Rd.load rfl rfl (by (first | (apply Reads.blk; (· (repeat (first | apply Sel.here | apply Sel.there | apply Upd.here | apply Upd.there))); (· rfl)) | (apply Reads.row; (· (repeat (first | apply Sel.here | apply Sel.there | apply Upd.here | apply Upd.there))); (· (first | rfl | assumption)); (· rfl)) | (apply Reads.rs; (· exact Rs.mono (by assumption) (by (repeat' (first | exact Ent.refl | exact Ent.drop | exact Ent.appR | apply Ent.skip)))); (· (first | rfl | assumption)); (· rfl))))) ?_ | refine SLl.rdSeq rfl rfl (Rd.loadN rfl rfl (by (first | exact ReadsN.mono (by assumption) (by (repeat' (first | exact Ent.refl | exact Ent.drop | exact Ent.appR | apply Ent.skip))) | (apply ReadsN.blk0; (· (repeat (first | apply Sel.here | apply Sel.there | apply Upd.here | apply Upd.there)))) | (apply ReadsN.row0; (· (repeat (first | apply Sel.here | apply Sel.there | apply Upd.here | apply Upd.there))); (· (first | rfl | assumption))) | (apply ReadsN.rs0; (· exact Rs.mono (by assumption) (by (repeat' (first | exact Ent.refl | exact Ent.drop | exact Ent.appR | apply Ent.skip)))); (· (first | rfl | assumption))))) (by rfl)) ?_))
 | ((show SLl _ _ _ _ _ (⟨⟨_, .fieldAddr _ _ _, _, _, _, _⟩, _, _⟩ :: _) _ _ _); (first | refine SLl.pu rfl rfl rfl (Pu.fieldAddr rfl) ?_ | refine SLl.rdSeq rfl rfl (Rd.fieldAddrEl rfl (by (first | exact Len.nil | (apply Len.row; (· (repeat (first | apply Sel.here | apply Sel.there | apply Upd.here | apply Upd.there)))) | (apply Len.rs; exact Rs.mono (by assumption) (by (repeat' (first | exact Ent.refl | exact Ent.drop | exact Ent.appR | apply Ent.skip)))))) (by omega)) ?_))
 | ((show SLl _ _ _ _ _ (⟨⟨_, .indexAddr _ _ _, _, _, _, _⟩, _, _⟩ :: _) _ _ _); (refine SLl.rdSeq rfl rfl (Rd.indexAddr rfl rfl (by (first | exact Len.nil | (apply Len.row; (· (repeat (first | apply Sel.here | apply Sel.there | apply Upd.here | apply Upd.there)))) | (apply Len.rs; exact Rs.mono (by assumption) (by (repeat' (first | exact Ent.refl | exact Ent.drop | exact Ent.appR | apply Ent.skip)))))) (by (first | exact ij0 | exact ij1 | exact ij2 | exact ij3 | exact ij4 | exact ij5 | rfl | exact (Int.toNat_of_nonneg (by omega)).symm)) (by omega)) ?_))
 | ((show SLl _ _ _ _ _ (⟨⟨_, .call ⟨.builtin .len, _, _⟩, _, _, _, _⟩, _, _⟩ :: _) _ _ _); refine SLl.rdSeq rfl rfl (Rd.len rfl (by (first | exact Len.nil | (apply Len.row; (· (repeat (first | apply Sel.here | apply Sel.there | apply Upd.here | apply Upd.there)))) | (apply Len.rs; exact Rs.mono (by assumption) (by (repeat' (first | exact Ent.refl | exact Ent.drop | exact Ent.appR | apply Ent.skip))))))) ?_)
 | ((show SLl _ _ _ _ _ (⟨⟨_, .binOp _ _ _ _ _, _, _, _, _⟩, _, _⟩ :: _) _ _ _); (first
 | refine SLl.pu rfl rfl rfl (Pu.add rfl rfl (IntWalk.i64_in _ (by omega))) ?_
 | refine SLl.pu rfl rfl rfl (Pu.sub rfl rfl (IntWalk.i64_in _ (by omega))) ?_
 | (refine SLl.cmp rfl rfl rfl rfl rfl rfl ?_ ?_ <;> intro hq <;> simp only [cmpP] at hq <;> try (first
 | exact (hq trivial).elim
 | (exfalso; omega)))
 | refine SLl.pu rfl rfl rfl (Pu.eqNilT rfl rfl) ?_
 | refine SLl.pu rfl rfl rfl (Pu.neNilF rfl rfl) ?_
 | refine SLl.rdSeq rfl rfl (Rd.eqNilF rfl rfl (by (first | exact Len.nil | (apply Len.row; (· (repeat (first | apply Sel.here | apply Sel.there | apply Upd.here | apply Upd.there)))) | (apply Len.rs; exact Rs.mono (by assumption) (by (repeat' (first | exact Ent.refl | exact Ent.drop | exact Ent.appR | apply Ent.skip)))))) (by assumption)) ?_
 | refine SLl.rdSeq rfl rfl (Rd.neNilT rfl rfl (by (first | exact Len.nil | (apply Len.row; (· (repeat (first | apply Sel.here | apply Sel.there | apply Upd.here | apply Upd.there)))) | (apply Len.rs; exact Rs.mono (by assumption) (by (repeat' (first | exact Ent.refl | exact Ent.drop | exact Ent.appR | apply Ent.skip)))))) (by assumption)) ?_
 | refine SLl.pu rfl rfl rfl (Pu.eqPtrNil rfl rfl) ?_
 | refine SLl.pu rfl rfl rfl (Pu.eqBool rfl rfl) ?_
 | refine SLl.pu rfl rfl rfl (Pu.neBool rfl rfl) ?_))
 | ((show SLl _ _ _ _ _ (⟨⟨_, .store _ _ _, _, _, _, _⟩, _, _⟩ :: _) _ _ _); (first | (refine SLl.seq0 rfl (SLo.store rfl rfl rfl (by (first | exact One.lit rfl | exact One.lit (by assumption) | exact One.mono (by assumption) (by (repeat' (first | exact Ent.refl | exact Ent.drop | exact Ent.appR | apply Ent.skip))) | exact One.len (by (first | exact Len.nil | (apply Len.row; (· (repeat (first | apply Sel.here | apply Sel.there | apply Upd.here | apply Upd.there)))) | (apply Len.rs; exact Rs.mono (by assumption) (by (repeat' (first | exact Ent.refl | exact Ent.drop | exact Ent.appR | apply Ent.skip)))))))) (by (first | (apply Wr.blk; (· (repeat (first | apply Sel.here | apply Sel.there | apply Upd.here | apply Upd.there))); (· exact Nat.le_of_ble_eq_true rfl)) | (apply Wr.row; (· (first | rfl | assumption)); (· exact Nat.le_of_ble_eq_true rfl); (· (repeat (first | apply Sel.here | apply Sel.there | apply Upd.here | apply Upd.there)))))) ?_)) | (refine SLl.seq0 rfl (SLo.storeN rfl rfl rfl (by (repeat' (first | exact trivial | (apply And.intro; (· (first | exact One.lit rfl | exact One.lit (by assumption) | exact One.mono (by assumption) (by (repeat' (first | exact Ent.refl | exact Ent.drop | exact Ent.appR | apply Ent.skip))) | exact One.len (by (first | exact Len.nil | (apply Len.row; (· (repeat (first | apply Sel.here | apply Sel.there | apply Upd.here | apply Upd.there)))) | (apply Len.rs; exact Rs.mono (by assumption) (by (repeat' (first | exact Ent.refl | exact Ent.drop | exact Ent.appR | apply Ent.skip)))))))))))) (Nat.le_of_ble_eq_true rfl) (by (repeat (first | apply Sel.here | apply Sel.there | apply Upd.here | apply Upd.there))) ?_))))
 | ((show SLl _ _ _ _ _ (⟨⟨_, .box _ _, _, _, _, _⟩, _, _⟩ :: _) _ _ _); refine SLl.seq rfl rfl (SLo.boxC rfl (by (first | exact Cel.one (by (first | exact One.lit rfl | exact One.lit (by assumption) | exact One.mono (by assumption) (by (repeat' (first | exact Ent.refl | exact Ent.drop | exact Ent.appR | apply Ent.skip))) | exact One.len (by (first | exact Len.nil | (apply Len.row; (· (repeat (first | apply Sel.here | apply Sel.there | apply Upd.here | apply Upd.there)))) | (apply Len.rs; exact Rs.mono (by assumption) (by (repeat' (first | exact Ent.refl | exact Ent.drop | exact Ent.appR | apply Ent.skip)))))))) | exact Cel.agg)) ?_); intro b)
 | ((show SLl _ _ _ _ _ (⟨⟨_, .alloc _, _, _, _, _⟩, _, _⟩ :: _) _ _ _); refine SLl.seq rfl rfl (SLo.alloc ?_); intro b)
 | ((show SLl _ _ _ _ _ (⟨⟨_, .build _ _, _, _, _, _⟩, _, _⟩ :: _) _ _ _); first
 | refine SLl.rdSeq rfl rfl (Rd.build rfl (by (repeat (first | exact CellsW.nil | (apply CellsW.cons; (· (first | exact Cel.one (by (first | exact One.lit rfl | exact One.lit (by assumption) | exact One.mono (by assumption) (by (repeat' (first | exact Ent.refl | exact Ent.drop | exact Ent.appR | apply Ent.skip))) | exact One.len (by (first | exact Len.nil | (apply Len.row; (· (repeat (first | apply Sel.here | apply Sel.there | apply Upd.here | apply Upd.there)))) | (apply Len.rs; exact Rs.mono (by assumption) (by (repeat' (first | exact Ent.refl | exact Ent.drop | exact Ent.appR | apply Ent.skip)))))))) | exact Cel.agg)))))) (by rfl)) ?_
 | refine SLl.pu rfl rfl rfl (Pu.build rfl rfl) ?_)
 | refine SLl.skip rfl rfl ?_))
 | (first
 | refine SLc.seq ?_
 | refine SLc.region rfl ?_
 | refine SLc.condT rfl ?_
 | refine SLc.condF rfl ?_
 | refine SLc.block ?_
 | refine SLc.skip ?_
 | refine SLc.exit ?_
 | refine SLc.ret ?_)))
        refine SLl.seq rfl rfl (SLo.buildSliceE [ndCells 8 ib] (by decide) (by decide) rfl (by (repeat (first | exact CellsW.nil | (apply CellsW.cons; (· (first | exact Cel.one (by (first | exact One.lit rfl | exact One.lit (by assumption) | exact One.mono (by assumption) (by (repeat' (first | exact Ent.refl | exact Ent.drop | exact Ent.appR | apply Ent.skip))) | exact One.len (by (first | exact Len.nil | (apply Len.row; (· (repeat (first | apply Sel.here | apply Sel.there | apply Upd.here | apply Upd.there)))) | (apply Len.rs; exact Rs.mono (by assumption) (by (repeat' (first | exact Ent.refl | exact Ent.drop | exact Ent.appR | apply Ent.skip)))))))) | exact Cel.agg)))))) (by simp [ndCells]) rfl (by rfl) ?_)
        intro nb hnb
        refine SLl.seq rfl rfl (SLo.append (es := mcells ns) (ys := [ndCells 8 ib]) (by rfl) (by omega) rfl rfl (by (repeat (first | apply Sel.here | apply Sel.there | apply Upd.here | apply Upd.there))) (Src.row .here (by simp [ndCells])) (nd_ones (One.len (Len.row (by (repeat (first | apply Sel.here | apply Sel.there | apply Upd.here | apply Upd.there)))))) (by simp only [List.length_singleton]; omega) (by simp only [List.length_singleton]; omega) ?_)
        intro v' hv'
        (repeat' (first
 | (first
 | refine SLl.nil ?_
 | ((show SLl _ _ _ _ _ (⟨⟨_, _, _, _, _, _⟩, _, _⟩ :: _) _ _ _); first
 | refine SLl.ev rfl rfl rfl rfl ?_
 | ((show SLl _ _ _ _ _ (⟨⟨_, .load _ _, _, _, _, _⟩, _, _⟩ :: _) _ _ _); (first | refine SLl.rdSeq rfl rfl (Rd.load rfl rfl (by (first | (apply Reads.blk; (· (repeat (first | apply Sel.here | apply Sel.there | apply Upd.here | apply Upd.there))); (· rfl)) | (apply Reads.row; (· (repeat (first | apply Sel.here | apply Sel.there | apply Upd.here | apply Upd.there))); (· (first | rfl | assumption)); (· rfl)) | (apply Reads.rs; (· exact Rs.mono (by assumption) (by (repeat' (first | exact Ent.refl | exact Ent.drop | exact Ent.appR | apply Ent.skip)))); (· (first | rfl | assumption)); (· rfl))))) ?_ | refine SLl.rdSeq rfl rfl (Rd.loadN rfl rfl (by (first | exact ReadsN.mono (by assumption) (by (repeat' (first | exact Ent.refl | exact Ent.drop | exact Ent.appR | apply Ent.skip))) | (apply ReadsN.blk0; (· (repeat (first | apply Sel.here | apply Sel.there | apply Upd.here | apply Upd.there)))) | (apply ReadsN.row0; (· (repeat (first | apply Sel.here | apply Sel.there | apply Upd.here | apply Upd.there))); (· (first | rfl | assumption))) | (apply ReadsN.rs0; (· exact Rs.mono (by assumption) (by (repeat' (first | exact Ent.refl | exact Ent.drop | exact Ent.appR | apply Ent.skip)))); (· (first | rfl | assumption))))) (by rfl)) ?_))
 | ((show SLl _ _ _ _ _ (⟨⟨_, .fieldAddr _ _ _, _, _, _, _⟩, _, _⟩ :: _) _ _ _); (first | refine SLl.pu rfl rfl rfl (Pu.fieldAddr rfl) ?_ | refine SLl.rdSeq rfl rfl (Rd.fieldAddrEl rfl (by (first | exact Len.nil | (apply Len.row; (· (repeat (first | apply Sel.here | apply Sel.there | apply Upd.here | apply Upd.there)))) | (apply Len.rs; exact Rs.mono (by assumption) (by (repeat' (first | exact Ent.refl | exact Ent.drop | exact Ent.appR | apply Ent.skip)))))) (by omega)) ?_))
 | ((show SLl _ _ _ _ _ (⟨⟨_, .indexAddr _ _ _, _, _, _, _⟩, _, _⟩ :: _) _ _ _); (refine SLl.rdSeq rfl rfl (Rd.indexAddr rfl rfl (by (first | exact Len.nil | (apply Len.row; (· (repeat (first | apply Sel.here | apply Sel.there | apply Upd.here | apply Upd.there)))) | (apply Len.rs; exact Rs.mono (by assumption) (by (repeat' (first | exact Ent.refl | exact Ent.drop | exact Ent.appR | apply Ent.skip)))))) (by (first | exact ij0 | exact ij1 | exact ij2 | exact ij3 | exact ij4 | exact ij5 | rfl | exact (Int.toNat_of_nonneg (by omega)).symm)) (by omega)) ?_))
 | ((show SLl _ _ _ _ _ (⟨⟨_, .call ⟨.builtin .len, _, _⟩, _, _, _, _⟩, _, _⟩ :: _) _ _ _); refine SLl.rdSeq rfl rfl (Rd.len rfl (by (first | exact Len.nil | (apply Len.row; (· (repeat (first | apply Sel.here | apply Sel.there | apply Upd.here | apply Upd.there)))) | (apply Len.rs; exact Rs.mono (by assumption) (by (repeat' (first | exact Ent.refl | exact Ent.drop | exact Ent.appR | apply Ent.skip))))))) ?_)
 | ((show SLl _ _ _ _ _ (⟨⟨_, .binOp _ _ _ _ _, _, _, _, _⟩, _, _⟩ :: _) _ _ _); (first
 | refine SLl.pu rfl rfl rfl (Pu.add rfl rfl (IntWalk.i64_in _ (by omega))) ?_
 | refine SLl.pu rfl rfl rfl (Pu.sub rfl rfl (IntWalk.i64_in _ (by omega))) ?_
 | (refine SLl.cmp rfl rfl rfl rfl rfl rfl ?_ ?_ <;> intro hq <;> simp only [cmpP] at hq <;> try (first
 | exact (hq trivial).elim
 | (exfalso; omega)))
 | refine SLl.pu rfl rfl rfl (Pu.eqNilT rfl rfl) ?_
 | refine SLl.pu rfl rfl rfl (Pu.neNilF rfl rfl) ?_
 | refine SLl.rdSeq rfl rfl (Rd.eqNilF rfl rfl (by (first | exact Len.nil | (apply Len.row; (· (repeat (first | apply Sel.here | apply Sel.there | apply Upd.here | apply Upd.there)))) | (apply Len.rs; exact Rs.mono (by assumption) (by (repeat' (first | exact Ent.refl | exact Ent.drop | exact Ent.appR | apply Ent.skip)))))) (by assumption)) ?_
 | refine SLl.rdSeq rfl rfl (Rd.neNilT rfl rfl (by (first | exact Len.nil | (apply Len.row; (· (repeat (first | apply Sel.here | apply Sel.there | apply Upd.here | apply Upd.there)))) | (apply Len.rs; exact Rs.mono (by assumption) (by (repeat' (first | exact Ent.refl | exact Ent.drop | exact Ent.appR | apply Ent.skip)))))) (by assumption)) ?_
 | refine SLl.pu rfl rfl rfl (Pu.eqPtrNil rfl rfl) ?_
 | refine SLl.pu rfl rfl rfl (Pu.eqBool rfl rfl) ?_
 | refine SLl.pu rfl rfl rfl (Pu.neBool rfl rfl) ?_))
 | ((show SLl _ _ _ _ _ (⟨⟨_, .store _ _ _, _, _, _, _⟩, _, _⟩ :: _) _ _ _); (first | (refine SLl.seq0 rfl (SLo.store rfl rfl rfl (by (first | exact One.lit rfl | exact One.lit (by assumption) | exact One.mono (by assumption) (by (repeat' (first | exact Ent.refl | exact Ent.drop | exact Ent.appR | apply Ent.skip))) | exact One.len (by (first | exact Len.nil | (apply Len.row; (· (repeat (first | apply Sel.here | apply Sel.there | apply Upd.here | apply Upd.there)))) | (apply Len.rs; exact Rs.mono (by assumption) (by (repeat' (first | exact Ent.refl | exact Ent.drop | exact Ent.appR | apply Ent.skip)))))))) (by (first | (apply Wr.blk; (· (repeat (first | apply Sel.here | apply Sel.there | apply Upd.here | apply Upd.there))); (· exact Nat.le_of_ble_eq_true rfl)) | (apply Wr.row; (· (first | rfl | assumption)); (· exact Nat.le_of_ble_eq_true rfl); (· (repeat (first | apply Sel.here | apply Sel.there | apply Upd.here | apply Upd.there)))))) ?_)) | (refine SLl.seq0 rfl (SLo.storeN rfl rfl rfl (by (repeat' (first | exact trivial | (apply And.intro; (· (first | exact One.lit rfl | exact One.lit (by assumption) | exact One.mono (by assumption) (by (repeat' (first | exact Ent.refl | exact Ent.drop | exact Ent.appR | apply Ent.skip))) | exact One.len (by (first | exact Len.nil | (apply Len.row; (· (repeat (first | apply Sel.here | apply Sel.there | apply Upd.here | apply Upd.there)))) | (apply Len.rs; exact Rs.mono (by assumption) (by (repeat' (first | exact Ent.refl | exact Ent.drop | exact Ent.appR | apply Ent.skip)))))))))))) (Nat.le_of_ble_eq_true rfl) (by (repeat (first | apply Sel.here | apply Sel.there | apply Upd.here | apply Upd.there))) ?_))))
 | ((show SLl _ _ _ _ _ (⟨⟨_, .box _ _, _, _, _, _⟩, _, _⟩ :: _) _ _ _); refine SLl.seq rfl rfl (SLo.boxC rfl (by (first | exact Cel.one (by (first | exact One.lit rfl | exact One.lit (by assumption) | exact One.mono (by assumption) (by (repeat' (first | exact Ent.refl | exact Ent.drop | exact Ent.appR | apply Ent.skip))) | exact One.len (by (first | exact Len.nil | (apply Len.row; (· (repeat (first | apply Sel.here | apply Sel.there | apply Upd.here | apply Upd.there)))) | (apply Len.rs; exact Rs.mono (by assumption) (by (repeat' (first | exact Ent.refl | exact Ent.drop | exact Ent.appR | apply Ent.skip)))))))) | exact Cel.agg)) ?_); intro b)
 | ((show SLl _ _ _ _ _ (⟨⟨_, .alloc _, _, _, _, _⟩, _, _⟩ :: _) _ _ _); refine SLl.seq rfl rfl (SLo.alloc ?_); intro b)
 | ((show SLl _ _ _ _ _ (⟨⟨_, .build _ _, _, _, _, _⟩, _, _⟩ :: _) _ _ _); first
 | refine SLl.rdSeq rfl rfl (Rd.build rfl (by (repeat (first | exact CellsW.nil | (apply CellsW.cons; (· (first | exact Cel.one (by (first | exact One.lit rfl | exact One.lit (by assumption) | exact One.mono (by assumption) (by (repeat' (first | exact Ent.refl | exact Ent.drop | exact Ent.appR | apply Ent.skip))) | exact One.len (by (first | exact Len.nil | (apply Len.row; (· (repeat (first | apply Sel.here | apply Sel.there | apply Upd.here | apply Upd.there)))) | (apply Len.rs; exact Rs.mono (by assumption) (by (repeat' (first | exact Ent.refl | exact Ent.drop | exact Ent.appR | apply Ent.skip)))))))) | exact Cel.agg)))))) (by rfl)) ?_
 | refine SLl.pu rfl rfl rfl (Pu.build rfl rfl) ?_)
 | refine SLl.skip rfl rfl ?_))
 | (first
 | refine SLc.seq ?_
 | refine SLc.region rfl ?_
 | refine SLc.condT rfl ?_
 | refine SLc.condF rfl ?_
 | refine SLc.block ?_
 | refine SLc.skip ?_
 | refine SLc.exit ?_
 | refine SLc.ret ?_)))
        refine And.intro rfl (Exists.intro (i + 1, v', ns ++ [(8, ib, [(i : Int) - 1])]) (And.intro ⟨by dsimp only; omega, by dsimp only; omega, by simp [hnl], hch.add (by omega) (by simp) (fun q hq => by simp at hq; omega) (by simp)⟩ (And.intro (by dsimp only; omega) (And.intro (by (repeat' (first | exact trivial | apply And.intro | rfl))) ?_))))
        dsimp only
        rw [List.map_append, ← mcells_app]
        refine .cons (by (repeat (first | apply Sel.here | apply Sel.there | apply Upd.here | apply Upd.there))) (.cons .here ?_)
        refine .skip (.trans (.skip .refl) (.perm (List.perm_append_singleton _ _).symm))
    · obtain rfl : i = k := by omega
      have hC := hch.chain
      have hIS := hch.insSum
      have hGl : (ns.map mnode).length = i := by simp [hnl]
      have hat : r % i < i := Nat.mod_lt _ (by omega)
      (repeat' (first
 | (first
 | refine SLl.nil ?_
 | ((show SLl _ _ _ _ _ (⟨⟨_, _, _, _, _, _⟩, _, _⟩ :: _) _ _ _); first
 | refine SLl.ev rfl rfl rfl rfl ?_
 | ((show SLl _ _ _ _ _ (⟨⟨_, .load _ _, _, _, _, _⟩, _, _⟩ :: _) _ _ _); (first | refine SLl.rdSeq rfl rfl (Rd.load rfl rfl (by (first | (apply Reads.blk; (· (repeat (first | apply Sel.here | apply Sel.there | apply Upd.here | apply Upd.there))); (· rfl)) | (apply Reads.row; (· (repeat (first | apply Sel.here | apply Sel.there | apply Upd.here | apply Upd.there))); (· (first | rfl | assumption)); (· rfl)) | (apply Reads.rs; (· exact Rs.mono (by assumption) (by (repeat' (first | exact Ent.refl | exact Ent.drop | exact Ent.appR | apply Ent.skip)))); (· (first | rfl | assumption)); (· rfl))))) ?_ | refine SLl.rdSeq rfl rfl (Rd.loadN rfl rfl (by (first | exact ReadsN.mono (by assumption) (by (repeat' (first | exact Ent.refl | exact Ent.drop | exact Ent.appR | apply Ent.skip))) | (apply ReadsN.blk0; (· (repeat (first | apply Sel.here | apply Sel.there | apply Upd.here | apply Upd.there)))) | (apply ReadsN.row0; (· (repeat (first | apply Sel.here | apply Sel.there | apply Upd.here | apply Upd.there))); (· (first | rfl | assumption))) | (apply ReadsN.rs0; (· exact Rs.mono (by assumption) (by (repeat' (first | exact Ent.refl | exact Ent.drop | exact Ent.appR | apply Ent.skip)))); (· (first | rfl | assumption))))) (by rfl)) ?_))
 | ((show SLl _ _ _ _ _ (⟨⟨_, .fieldAddr _ _ _, _, _, _, _⟩, _, _⟩ :: _) _ _ _); (first | refine SLl.pu rfl rfl rfl (Pu.fieldAddr rfl) ?_ | refine SLl.rdSeq rfl rfl (Rd.fieldAddrEl rfl (by (first | exact Len.nil | (apply Len.row; (· (repeat (first | apply Sel.here | apply Sel.there | apply Upd.here | apply Upd.there)))) | (apply Len.rs; exact Rs.mono (by assumption) (by (repeat' (first | exact Ent.refl | exact Ent.drop | exact Ent.appR | apply Ent.skip)))))) (by omega)) ?_))
 | ((show SLl _ _ _ _ _ (⟨⟨_, .indexAddr _ _ _, _, _, _, _⟩, _, _⟩ :: _) _ _ _); (refine SLl.rdSeq rfl rfl (Rd.indexAddr rfl rfl (by (first | exact Len.nil | (apply Len.row; (· (repeat (first | apply Sel.here | apply Sel.there | apply Upd.here | apply Upd.there)))) | (apply Len.rs; exact Rs.mono (by assumption) (by (repeat' (first | exact Ent.refl | exact Ent.drop | exact Ent.appR | apply Ent.skip)))))) (by (first | exact ij0 | exact ij1 | exact ij2 | exact ij3 | exact ij4 | exact ij5 | rfl | exact (Int.toNat_of_nonneg (by omega)).symm)) (by omega)) ?_))
 | ((show SLl _ _ _ _ _ (⟨⟨_, .call ⟨.builtin .len, _, _⟩, _, _, _, _⟩, _, _⟩ :: _) _ _ _); refine SLl.rdSeq rfl rfl (Rd.len rfl (by (first | exact Len.nil | (apply Len.row; (· (repeat (first | apply Sel.here | apply Sel.there | apply Upd.here | apply Upd.there)))) | (apply Len.rs; exact Rs.mono (by assumption) (by (repeat' (first | exact Ent.refl | exact Ent.drop | exact Ent.appR | apply Ent.skip))))))) ?_)
 | ((show SLl _ _ _ _ _ (⟨⟨_, .binOp _ _ _ _ _, _, _, _, _⟩, _, _⟩ :: _) _ _ _); (first
 | refine SLl.pu rfl rfl rfl (Pu.add rfl rfl (IntWalk.i64_in _ (by omega))) ?_
 | refine SLl.pu rfl rfl rfl (Pu.sub rfl rfl (IntWalk.i64_in _ (by omega))) ?_
 | (refine SLl.cmp rfl rfl rfl rfl rfl rfl ?_ ?_ <;> intro hq <;> simp only [cmpP] at hq <;> try (first
 | exact (hq trivial).elim
 | (exfalso; omega)))
 | refine SLl.pu rfl rfl rfl (Pu.eqNilT rfl rfl) ?_
 | refine SLl.pu rfl rfl rfl (Pu.neNilF rfl rfl) ?_
 | refine SLl.rdSeq rfl rfl (Rd.eqNilF rfl rfl (by (first | exact Len.nil | (apply Len.row; (· (repeat (first | apply Sel.here | apply Sel.there | apply Upd.here | apply Upd.there)))) | (apply Len.rs; exact Rs.mono (by assumption) (by (repeat' (first | exact Ent.refl | exact Ent.drop | exact Ent.appR | apply Ent.skip)))))) (by assumption)) ?_
 | refine SLl.rdSeq rfl rfl (Rd.neNilT rfl rfl (by (first | exact Len.nil | (apply Len.row; (· (repeat (first | apply Sel.here | apply Sel.there | apply Upd.here | apply Upd.there)))) | (apply Len.rs; exact Rs.mono (by assumption) (by (repeat' (first | exact Ent.refl | exact Ent.drop | exact Ent.appR | apply Ent.skip)))))) (by assumption)) ?_
 | refine SLl.pu rfl rfl rfl (Pu.eqPtrNil rfl rfl) ?_
 | refine SLl.pu rfl rfl rfl (Pu.eqBool rfl rfl) ?_
 | refine SLl.pu rfl rfl rfl (Pu.neBool rfl rfl) ?_))
 | ((show SLl _ _ _ _ _ (⟨⟨_, .store _ _ _, _, _, _, _⟩, _, _⟩ :: _) _ _ _); (first | (refine SLl.seq0 rfl (SLo.store rfl rfl rfl (by (first | exact One.lit rfl | exact One.lit (by assumption) | exact One.mono (by assumption) (by (repeat' (first | exact Ent.refl | exact Ent.drop | exact Ent.appR | apply Ent.skip))) | exact One.len (by (first | exact Len.nil | (apply Len.row; (· (repeat (first | apply Sel.here | apply Sel.there | apply Upd.here | apply Upd.there)))) | (apply Len.rs; exact Rs.mono (by assumption) (by (repeat' (first | exact Ent.refl | exact Ent.drop | exact Ent.appR | apply Ent.skip)))))))) (by (first | (apply Wr.blk; (· (repeat (first | apply Sel.here | apply Sel.there | apply Upd.here | apply Upd.there))); (· exact Nat.le_of_ble_eq_true rfl)) | (apply Wr.row; (· (first | rfl | assumption)); (· exact Nat.le_of_ble_eq_true rfl); (· (repeat (first | apply Sel.here | apply Sel.there | apply Upd.here | apply Upd.there)))))) ?_)) | (refine SLl.seq0 rfl (SLo.storeN rfl rfl rfl (by (repeat' (first | exact trivial | (apply And.intro; (· (first | exact One.lit rfl | exact One.lit (by assumption) | exact One.mono (by assumption) (by (repeat' (first | exact Ent.refl | exact Ent.drop | exact Ent.appR | apply Ent.skip))) | exact One.len (by (first | exact Len.nil | (apply Len.row; (· (repeat (first | apply Sel.here | apply Sel.there | apply Upd.here | apply Upd.there)))) | (apply Len.rs; exact Rs.mono (by assumption) (by (repeat' (first | exact Ent.refl | exact Ent.drop | exact Ent.appR | apply Ent.skip)))))))))))) (Nat.le_of_ble_eq_true rfl) (by (repeat (first | apply Sel.here | apply Sel.there | apply Upd.here | apply Upd.there))) ?_))))
 | ((show SLl _ _ _ _ _ (⟨⟨_, .box _ _, _, _, _, _⟩, _, _⟩ :: _) _ _ _); refine SLl.seq rfl rfl (SLo.boxC rfl (by (first | exact Cel.one (by (first | exact One.lit rfl | exact One.lit (by assumption) | exact One.mono (by assumption) (by (repeat' (first | exact Ent.refl | exact Ent.drop | exact Ent.appR | apply Ent.skip))) | exact One.len (by (first | exact Len.nil | (apply Len.row; (· (repeat (first | apply Sel.here | apply Sel.there | apply Upd.here | apply Upd.there)))) | (apply Len.rs; exact Rs.mono (by assumption) (by (repeat' (first | exact Ent.refl | exact Ent.drop | exact Ent.appR | apply Ent.skip)))))))) | exact Cel.agg)) ?_); intro b)
 | ((show SLl _ _ _ _ _ (⟨⟨_, .alloc _, _, _, _, _⟩, _, _⟩ :: _) _ _ _); refine SLl.seq rfl rfl (SLo.alloc ?_); intro b)
 | ((show SLl _ _ _ _ _ (⟨⟨_, .build _ _, _, _, _, _⟩, _, _⟩ :: _) _ _ _); first
 | refine SLl.rdSeq rfl rfl (Rd.build rfl (by (repeat (first | exact CellsW.nil | (apply CellsW.cons; (· (first | exact Cel.one (by (first | exact One.lit rfl | exact One.lit (by assumption) | exact One.mono (by assumption) (by (repeat' (first | exact Ent.refl | exact Ent.drop | exact Ent.appR | apply Ent.skip))) | exact One.len (by (first | exact Len.nil | (apply Len.row; (· (repeat (first | apply Sel.here | apply Sel.there | apply Upd.here | apply Upd.there)))) | (apply Len.rs; exact Rs.mono (by assumption) (by (repeat' (first | exact Ent.refl | exact Ent.drop | exact Ent.appR | apply Ent.skip)))))))) | exact Cel.agg)))))) (by rfl)) ?_
 | refine SLl.pu rfl rfl rfl (Pu.build rfl rfl) ?_)
 | refine SLl.skip rfl rfl ?_))
 | (first
 | refine SLc.seq ?_
 | refine SLc.region rfl ?_
 | refine SLc.condT rfl ?_
 | refine SLc.condF rfl ?_
 | refine SLc.block ?_
 | refine SLc.skip ?_
 | refine SLc.exit ?_
 | refine SLc.ret ?_)))
      refine SLl.pu rfl rfl rfl (Pu.convInt rfl (IntWalk.i64_in _ (by omega))) ?_
      (repeat' (first
 | (first
 | refine SLl.nil ?_
 | ((show SLl _ _ _ _ _ (⟨⟨_, _, _, _, _, _⟩, _, _⟩ :: _) _ _ _); first
 | refine SLl.ev rfl rfl rfl rfl ?_
 | ((show SLl _ _ _ _ _ (⟨⟨_, .load _ _, _, _, _, _⟩, _, _⟩ :: _) _ _ _); (first | refine SLl.rdSeq rfl rfl (Rd.load rfl rfl (by (first | (apply Reads.blk; (· (repeat (first | apply Sel.here | apply Sel.there | apply Upd.here | apply Upd.there))); (· rfl)) | (apply Reads.row; (· (repeat (first | apply Sel.here | apply Sel.there | apply Upd.here | apply Upd.there))); (· (first | rfl | assumption)); (· rfl)) | (apply Reads.rs; (· exact Rs.mono (by assumption) (by (repeat' (first | exact Ent.refl | exact Ent.drop | exact Ent.appR | apply Ent.skip)))); (· (first | rfl | assumption)); (· rfl))))) ?_ | refine SLl.rdSeq rfl rfl (Rd.loadN rfl rfl (by (first | exact ReadsN.mono (by assumption) (by (repeat' (first | exact Ent.refl | exact Ent.drop | exact Ent.appR | apply Ent.skip))) | (apply ReadsN.blk0; (· (repeat (first | apply Sel.here | apply Sel.there | apply Upd.here | apply Upd.there)))) | (apply ReadsN.row0; (· (repeat (first | apply Sel.here | apply Sel.there | apply Upd.here | apply Upd.there))); (· (first | rfl | assumption))) | (apply ReadsN.rs0; (· exact Rs.mono (by assumption) (by (repeat' (first | exact Ent.refl | exact Ent.drop | exact Ent.appR | apply Ent.skip)))); (· (first | rfl | assumption))))) (by rfl)) ?_))
 | ((show SLl _ _ _ _ _ (⟨⟨_, .fieldAddr _ _ _, _, _, _, _⟩, _, _⟩ :: _) _ _ _); (first | refine SLl.pu rfl rfl rfl (Pu.fieldAddr rfl) ?_ | refine SLl.rdSeq rfl rfl (Rd.fieldAddrEl rfl (by (first | exact Len.nil | (apply Len.row; (· (repeat (first | apply Sel.here | apply Sel.there | apply Upd.here | apply Upd.there)))) | (apply Len.rs; exact Rs.mono (by assumption) (by (repeat' (first | exact Ent.refl | exact Ent.drop | exact Ent.appR | apply Ent.skip)))))) (by omega)) ?_))
 | ((show SLl _ _ _ _ _ (⟨⟨_, .indexAddr _ _ _, _, _, _, _⟩, _, _⟩ :: _) _ _ _); (refine SLl.rdSeq rfl rfl (Rd.indexAddr rfl rfl (by (first | exact Len.nil | (apply Len.row; (· (repeat (first | apply Sel.here | apply Sel.there | apply Upd.here | apply Upd.there)))) | (apply Len.rs; exact Rs.mono (by assumption) (by (repeat' (first | exact Ent.refl | exact Ent.drop | exact Ent.appR | apply Ent.skip)))))) (by (first | exact ij0 | exact ij1 | exact ij2 | exact ij3 | exact ij4 | exact ij5 | rfl | exact (Int.toNat_of_nonneg (by omega)).symm)) (by omega)) ?_))
 | ((show SLl _ _ _ _ _ (⟨⟨_, .call ⟨.builtin .len, _, _⟩, _, _, _, _⟩, _, _⟩ :: _) _ _ _); refine SLl.rdSeq rfl rfl (Rd.len rfl (by (first | exact Len.nil | (apply Len.row; (· (repeat (first | apply Sel.here | apply Sel.there | apply Upd.here | apply Upd.there)))) | (apply Len.rs; exact Rs.mono (by assumption) (by (repeat' (first | exact Ent.refl | exact Ent.drop | exact Ent.appR | apply Ent.skip))))))) ?_)
 | ((show SLl _ _ _ _ _ (⟨⟨_, .binOp _ _ _ _ _, _, _, _, _⟩, _, _⟩ :: _) _ _ _); (first
 | refine SLl.pu rfl rfl rfl (Pu.add rfl rfl (IntWalk.i64_in _ (by omega))) ?_
 | refine SLl.pu rfl rfl rfl (Pu.sub rfl rfl (IntWalk.i64_in _ (by omega))) ?_
 | (refine SLl.cmp rfl rfl rfl rfl rfl rfl ?_ ?_ <;> intro hq <;> simp only [cmpP] at hq <;> try (first
 | exact (hq trivial).elim
 | (exfalso; omega)))
 | refine SLl.pu rfl rfl rfl (Pu.eqNilT rfl rfl) ?_
 | refine SLl.pu rfl rfl rfl (Pu.neNilF rfl rfl) ?_
 | refine SLl.rdSeq rfl rfl (Rd.eqNilF rfl rfl (by (first | exact Len.nil | (apply Len.row; (· (repeat (first | apply Sel.here | apply Sel.there | apply Upd.here | apply Upd.there)))) | (apply Len.rs; exact Rs.mono (by assumption) (by (repeat' (first | exact Ent.refl | exact Ent.drop | exact Ent.appR | apply Ent.skip)))))) (by assumption)) ?_
 | refine SLl.rdSeq rfl rfl (Rd.neNilT rfl rfl (by (first | exact Len.nil | (apply Len.row; (· (repeat (first | apply Sel.here | apply Sel.there | apply Upd.here | apply Upd.there)))) | (apply Len.rs; exact Rs.mono (by assumption) (by (repeat' (first | exact Ent.refl | exact Ent.drop | exact Ent.appR | apply Ent.skip)))))) (by assumption)) ?_
 | refine SLl.pu rfl rfl rfl (Pu.eqPtrNil rfl rfl) ?_
 | refine SLl.pu rfl rfl rfl (Pu.eqBool rfl rfl) ?_
 | refine SLl.pu rfl rfl rfl (Pu.neBool rfl rfl) ?_))
 | ((show SLl _ _ _ _ _ (⟨⟨_, .store _ _ _, _, _, _, _⟩, _, _⟩ :: _) _ _ _); (first | (refine SLl.seq0 rfl (SLo.store rfl rfl rfl (by (first | exact One.lit rfl | exact One.lit (by assumption) | exact One.mono (by assumption) (by (repeat' (first | exact Ent.refl | exact Ent.drop | exact Ent.appR | apply Ent.skip))) | exact One.len (by (first | exact Len.nil | (apply Len.row; (· (repeat (first | apply Sel.here | apply Sel.there | apply Upd.here | apply Upd.there)))) | (apply Len.rs; exact Rs.mono (by assumption) (by (repeat' (first | exact Ent.refl | exact Ent.drop | exact Ent.appR | apply Ent.skip)))))))) (by (first | (apply Wr.blk; (· (repeat (first | apply Sel.here | apply Sel.there | apply Upd.here | apply Upd.there))); (· exact Nat.le_of_ble_eq_true rfl)) | (apply Wr.row; (· (first | rfl | assumption)); (· exact Nat.le_of_ble_eq_true rfl); (· (repeat (first | apply Sel.here | apply Sel.there | apply Upd.here | apply Upd.there)))))) ?_)) | (refine SLl.seq0 rfl (SLo.storeN rfl rfl rfl (by (repeat' (first | exact trivial | (apply And.intro; (· (first | exact One.lit rfl | exact One.lit (by assumption) | exact One.mono (by assumption) (by (repeat' (first | exact Ent.refl | exact Ent.drop | exact Ent.appR | apply Ent.skip))) | exact One.len (by (first | exact Len.nil | (apply Len.row; (· (repeat (first | apply Sel.here | apply Sel.there | apply Upd.here | apply Upd.there)))) | (apply Len.rs; exact Rs.mono (by assumption) (by (repeat' (first | exact Ent.refl | exact Ent.drop | exact Ent.appR | apply Ent.skip)))))))))))) (Nat.le_of_ble_eq_true rfl) (by (repeat (first | apply Sel.here | apply Sel.there | apply Upd.here | apply Upd.there))) ?_))))
 | ((show SLl _ _ _ _ _ (⟨⟨_, .box _ _, _, _, _, _⟩, _, _⟩ :: _) _ _ _); refine SLl.seq rfl rfl (SLo.boxC rfl (by (first | exact Cel.one (by (first | exact One.lit rfl | exact One.lit (by assumption) | exact One.mono (by assumption) (by (repeat' (first | exact Ent.refl | exact Ent.drop | exact Ent.appR | apply Ent.skip))) | exact One.len (by (first | exact Len.nil | (apply Len.row; (· (repeat (first | apply Sel.here | apply Sel.there | apply Upd.here | apply Upd.there)))) | (apply Len.rs; exact Rs.mono (by assumption) (by (repeat' (first | exact Ent.refl | exact Ent.drop | exact Ent.appR | apply Ent.skip)))))))) | exact Cel.agg)) ?_); intro b)
 | ((show SLl _ _ _ _ _ (⟨⟨_, .alloc _, _, _, _, _⟩, _, _⟩ :: _) _ _ _); refine SLl.seq rfl rfl (SLo.alloc ?_); intro b)
 | ((show SLl _ _ _ _ _ (⟨⟨_, .build _ _, _, _, _, _⟩, _, _⟩ :: _) _ _ _); first
 | refine SLl.rdSeq rfl rfl (Rd.build rfl (by (repeat (first | exact CellsW.nil | (apply CellsW.cons; (· (first | exact Cel.one (by (first | exact One.lit rfl | exact One.lit (by assumption) | exact One.mono (by assumption) (by (repeat' (first | exact Ent.refl | exact Ent.drop | exact Ent.appR | apply Ent.skip))) | exact One.len (by (first | exact Len.nil | (apply Len.row; (· (repeat (first | apply Sel.here | apply Sel.there | apply Upd.here | apply Upd.there)))) | (apply Len.rs; exact Rs.mono (by assumption) (by (repeat' (first | exact Ent.refl | exact Ent.drop | exact Ent.appR | apply Ent.skip)))))))) | exact Cel.agg)))))) (by rfl)) ?_
 | refine SLl.pu rfl rfl rfl (Pu.build rfl rfl) ?_)
 | refine SLl.skip rfl rfl ?_))
 | (first
 | refine SLc.seq ?_
 | refine SLc.region rfl ?_
 | refine SLc.condT rfl ?_
 | refine SLc.condF rfl ?_
 | refine SLc.block ?_
 | refine SLc.skip ?_
 | refine SLc.exit ?_
 | refine SLc.ret ?_)))
      refine SLl.pu rfl rfl rfl (Pu.remN (j := i) rfl rfl (by omega)) ?_
      generalize r % i = t at hat
      (repeat' (first
 | (first
 | refine SLl.nil ?_
 | ((show SLl _ _ _ _ _ (⟨⟨_, _, _, _, _, _⟩, _, _⟩ :: _) _ _ _); first
 | refine SLl.ev rfl rfl rfl rfl ?_
 | ((show SLl _ _ _ _ _ (⟨⟨_, .load _ _, _, _, _, _⟩, _, _⟩ :: _) _ _ _); (first | refine SLl.rdSeq rfl rfl (Rd.load rfl rfl (by (first | (apply Reads.blk; (· (repeat (first | apply Sel.here | apply Sel.there | apply Upd.here | apply Upd.there))); (· rfl)) | (apply Reads.row; (· (repeat (first | apply Sel.here | apply Sel.there | apply Upd.here | apply Upd.there))); (· (first | rfl | assumption)); (· rfl)) | (apply Reads.rs; (· exact Rs.mono (by assumption) (by (repeat' (first | exact Ent.refl | exact Ent.drop | exact Ent.appR | apply Ent.skip)))); (· (first | rfl | assumption)); (· rfl))))) ?_ | refine SLl.rdSeq rfl rfl (Rd.loadN rfl rfl (by (first | exact ReadsN.mono (by assumption) (by (repeat' (first | exact Ent.refl | exact Ent.drop | exact Ent.appR | apply Ent.skip))) | (apply ReadsN.blk0; (· (repeat (first | apply Sel.here | apply Sel.there | apply Upd.here | apply Upd.there)))) | (apply ReadsN.row0; (· (repeat (first | apply Sel.here | apply Sel.there | apply Upd.here | apply Upd.there))); (· (first | rfl | assumption))) | (apply ReadsN.rs0; (· exact Rs.mono (by assumption) (by (repeat' (first | exact Ent.refl | exact Ent.drop | exact Ent.appR | apply Ent.skip)))); (· (first | rfl | assumption))))) (by rfl)) ?_))
 | ((show SLl _ _ _ _ _ (⟨⟨_, .fieldAddr _ _ _, _, _, _, _⟩, _, _⟩ :: _) _ _ _); (first | refine SLl.pu rfl rfl rfl (Pu.fieldAddr rfl) ?_ | refine SLl.rdSeq rfl rfl (Rd.fieldAddrEl rfl (by (first | exact Len.nil | (apply Len.row; (· (repeat (first | apply Sel.here | apply Sel.there | apply Upd.here | apply Upd.there)))) | (apply Len.rs; exact Rs.mono (by assumption) (by (repeat' (first | exact Ent.refl | exact Ent.drop | exact Ent.appR | apply Ent.skip)))))) (by omega)) ?_))
 | ((show SLl _ _ _ _ _ (⟨⟨_, .indexAddr _ _ _, _, _, _, _⟩, _, _⟩ :: _) _ _ _); (refine SLl.rdSeq rfl rfl (Rd.indexAddr rfl rfl (by (first | exact Len.nil | (apply Len.row; (· (repeat (first | apply Sel.here | apply Sel.there | apply Upd.here | apply Upd.there)))) | (apply Len.rs; exact Rs.mono (by assumption) (by (repeat' (first | exact Ent.refl | exact Ent.drop | exact Ent.appR | apply Ent.skip)))))) (by (first | exact ij0 | exact ij1 | exact ij2 | exact ij3 | exact ij4 | exact ij5 | rfl | exact (Int.toNat_of_nonneg (by omega)).symm)) (by omega)) ?_))
 | ((show SLl _ _ _ _ _ (⟨⟨_, .call ⟨.builtin .len, _, _⟩, _, _, _, _⟩, _, _⟩ :: _) _ _ _); refine SLl.rdSeq rfl rfl (Rd.len rfl (by (first | exact Len.nil | (apply Len.row; (· (repeat (first | apply Sel.here | apply Sel.there | apply Upd.here | apply Upd.there)))) | (apply Len.rs; exact Rs.mono (by assumption) (by (repeat' (first | exact Ent.refl | exact Ent.drop | exact Ent.appR | apply Ent.skip))))))) ?_)
 | ((show SLl _ _ _ _ _ (⟨⟨_, .binOp _ _ _ _ _, _, _, _, _⟩, _, _⟩ :: _) _ _ _); (first
 | refine SLl.pu rfl rfl rfl (Pu.add rfl rfl (IntWalk.i64_in _ (by omega))) ?_
 | refine SLl.pu rfl rfl rfl (Pu.sub rfl rfl (IntWalk.i64_in _ (by omega))) ?_
 | (refine SLl.cmp rfl rfl rfl rfl rfl rfl ?_ ?_ <;> intro hq <;> simp only [cmpP] at hq <;> try (first
 | exact (hq trivial).elim
 | (exfalso; omega)))
 | refine SLl.pu rfl rfl rfl (Pu.eqNilT rfl rfl) ?_
 | refine SLl.pu rfl rfl rfl (Pu.neNilF rfl rfl) ?_
 | refine SLl.rdSeq rfl rfl (Rd.eqNilF rfl rfl (by (first | exact Len.nil | (apply Len.row; (· (repeat (first | apply Sel.here | apply Sel.there | apply Upd.here | apply Upd.there)))) | (apply Len.rs; exact Rs.mono (by assumption) (by (repeat' (first | exact Ent.refl | exact Ent.drop | exact Ent.appR | apply Ent.skip)))))) (by assumption)) ?_
 | refine SLl.rdSeq rfl rfl (Rd.neNilT rfl rfl (by (first | exact Len.nil | (apply Len.row; (· (repeat (first | apply Sel.here | apply Sel.there | apply Upd.here | apply Upd.there)))) | (apply Len.rs; exact Rs.mono (by assumption) (by (repeat' (first | exact Ent.refl | exact Ent.drop | exact Ent.appR | apply Ent.skip)))))) (by assumption)) ?_
 | refine SLl.pu rfl rfl rfl (Pu.eqPtrNil rfl rfl) ?_
 | refine SLl.pu rfl rfl rfl (Pu.eqBool rfl rfl) ?_
 | refine SLl.pu rfl rfl rfl (Pu.neBool rfl rfl) ?_))
 | ((show SLl _ _ _ _ _ (⟨⟨_, .store _ _ _, _, _, _, _⟩, _, _⟩ :: _) _ _ _); (first | (refine SLl.seq0 rfl (SLo.store rfl rfl rfl (by (first | exact One.lit rfl | exact One.lit (by assumption) | exact One.mono (by assumption) (by (repeat' (first | exact Ent.refl | exact Ent.drop | exact Ent.appR | apply Ent.skip))) | exact One.len (by (first | exact Len.nil | (apply Len.row; (· (repeat (first | apply Sel.here | apply Sel.there | apply Upd.here | apply Upd.there)))) | (apply Len.rs; exact Rs.mono (by assumption) (by (repeat' (first | exact Ent.refl | exact Ent.drop | exact Ent.appR | apply Ent.skip)))))))) (by (first | (apply Wr.blk; (· (repeat (first | apply Sel.here | apply Sel.there | apply Upd.here | apply Upd.there))); (· exact Nat.le_of_ble_eq_true rfl)) | (apply Wr.row; (· (first | rfl | assumption)); (· exact Nat.le_of_ble_eq_true rfl); (· (repeat (first | apply Sel.here | apply Sel.there | apply Upd.here | apply Upd.there)))))) ?_)) | (refine SLl.seq0 rfl (SLo.storeN rfl rfl rfl (by (repeat' (first | exact trivial | (apply And.intro; (· (first | exact One.lit rfl | exact One.lit (by assumption) | exact One.mono (by assumption) (by (repeat' (first | exact Ent.refl | exact Ent.drop | exact Ent.appR | apply Ent.skip))) | exact One.len (by (first | exact Len.nil | (apply Len.row; (· (repeat (first | apply Sel.here | apply Sel.there | apply Upd.here | apply Upd.there)))) | (apply Len.rs; exact Rs.mono (by assumption) (by (repeat' (first | exact Ent.refl | exact Ent.drop | exact Ent.appR | apply Ent.skip)))))))))))) (Nat.le_of_ble_eq_true rfl) (by (repeat (first | apply Sel.here | apply Sel.there | apply Upd.here | apply Upd.there))) ?_))))
 | ((show SLl _ _ _ _ _ (⟨⟨_, .box _ _, _, _, _, _⟩, _, _⟩ :: _) _ _ _); refine SLl.seq rfl rfl (SLo.boxC rfl (by (first | exact Cel.one (by (first | exact One.lit rfl | exact One.lit (by assumption) | exact One.mono (by assumption) (by (repeat' (first | exact Ent.refl | exact Ent.drop | exact Ent.appR | apply Ent.skip))) | exact One.len (by (first | exact Len.nil | (apply Len.row; (· (repeat (first | apply Sel.here | apply Sel.there | apply Upd.here | apply Upd.there)))) | (apply Len.rs; exact Rs.mono (by assumption) (by (repeat' (first | exact Ent.refl | exact Ent.drop | exact Ent.appR | apply Ent.skip)))))))) | exact Cel.agg)) ?_); intro b)
 | ((show SLl _ _ _ _ _ (⟨⟨_, .alloc _, _, _, _, _⟩, _, _⟩ :: _) _ _ _); refine SLl.seq rfl rfl (SLo.alloc ?_); intro b)
 | ((show SLl _ _ _ _ _ (⟨⟨_, .build _ _, _, _, _, _⟩, _, _⟩ :: _) _ _ _); first
 | refine SLl.rdSeq rfl rfl (Rd.build rfl (by (repeat (first | exact CellsW.nil | (apply CellsW.cons; (· (first | exact Cel.one (by (first | exact One.lit rfl | exact One.lit (by assumption) | exact One.mono (by assumption) (by (repeat' (first | exact Ent.refl | exact Ent.drop | exact Ent.appR | apply Ent.skip))) | exact One.len (by (first | exact Len.nil | (apply Len.row; (· (repeat (first | apply Sel.here | apply Sel.there | apply Upd.here | apply Upd.there)))) | (apply Len.rs; exact Rs.mono (by assumption) (by (repeat' (first | exact Ent.refl | exact Ent.drop | exact Ent.appR | apply Ent.skip)))))))) | exact Cel.agg)))))) (by rfl)) ?_
 | refine SLl.pu rfl rfl rfl (Pu.build rfl rfl) ?_)
 | refine SLl.skip rfl rfl ?_))
 | (first
 | refine SLc.seq ?_
 | refine SLc.region rfl ?_
 | refine SLc.condT rfl ?_
 | refine SLc.condF rfl ?_
 | refine SLc.block ?_
 | refine SLc.skip ?_
 | refine SLc.exit ?_
 | refine SLc.ret ?_)))
      refine SLc.draws (.blk b 24 [lv] :: .row lv 47 7 (mcells ns) :: ns.map mrow) [(0, .take), (1, .take), (3, .take), (4, .take), (2, .eff true), (5, .eff true), (6, .take), (7, .take)] mixed (by kernel_rfl) .refl ?_
      (repeat' (first
 | (first
 | refine SLl.nil ?_
 | ((show SLl _ _ _ _ _ (⟨⟨_, _, _, _, _, _⟩, _, _⟩ :: _) _ _ _); first
 | refine SLl.ev rfl rfl rfl rfl ?_
 | ((show SLl _ _ _ _ _ (⟨⟨_, .load _ _, _, _, _, _⟩, _, _⟩ :: _) _ _ _); (first | refine SLl.rdTake rfl rfl (Rd.load rfl rfl (by (first | (apply Reads.blk; (· (repeat (first | apply Sel.here | apply Sel.there | apply Upd.here | apply Upd.there))); (· rfl)) | (apply Reads.row; (· (repeat (first | apply Sel.here | apply Sel.there | apply Upd.here | apply Upd.there))); (· (first | rfl | assumption)); (· rfl)) | (apply Reads.rs; (· exact Rs.mono (by assumption) (by (repeat' (first | exact Ent.refl | exact Ent.drop | exact Ent.appR | apply Ent.skip)))); (· (first | rfl | assumption)); (· rfl))))) ?_ | refine SLl.rdTake rfl rfl (Rd.loadN rfl rfl (by (first | exact ReadsN.mono (by assumption) (by (repeat' (first | exact Ent.refl | exact Ent.drop | exact Ent.appR | apply Ent.skip))) | (apply ReadsN.blk0; (· (repeat (first | apply Sel.here | apply Sel.there | apply Upd.here | apply Upd.there)))) | (apply ReadsN.row0; (· (repeat (first | apply Sel.here | apply Sel.there | apply Upd.here | apply Upd.there))); (· (first | rfl | assumption))) | (apply ReadsN.rs0; (· exact Rs.mono (by assumption) (by (repeat' (first | exact Ent.refl | exact Ent.drop | exact Ent.appR | apply Ent.skip)))); (· (first | rfl | assumption))))) (by rfl)) ?_))
 | ((show SLl _ _ _ _ _ (⟨⟨_, .fieldAddr _ _ _, _, _, _, _⟩, _, _⟩ :: _) _ _ _); (first | refine SLl.pu rfl rfl rfl (Pu.fieldAddr rfl) ?_ | refine SLl.rdTake rfl rfl (Rd.fieldAddrEl rfl (by (first | exact Len.nil | (apply Len.row; (· (repeat (first | apply Sel.here | apply Sel.there | apply Upd.here | apply Upd.there)))) | (apply Len.rs; exact Rs.mono (by assumption) (by (repeat' (first | exact Ent.refl | exact Ent.drop | exact Ent.appR | apply Ent.skip)))))) (by omega)) ?_))
 | ((show SLl _ _ _ _ _ (⟨⟨_, .indexAddr _ _ _, _, _, _, _⟩, _, _⟩ :: _) _ _ _); (refine SLl.rdTake rfl rfl (Rd.indexAddr rfl rfl (by (first | exact Len.nil | (apply Len.row; (· (repeat (first | apply Sel.here | apply Sel.there | apply Upd.here | apply Upd.there)))) | (apply Len.rs; exact Rs.mono (by assumption) (by (repeat' (first | exact Ent.refl | exact Ent.drop | exact Ent.appR | apply Ent.skip)))))) (by (first | exact ij0 | exact ij1 | exact ij2 | exact ij3 | exact ij4 | exact ij5 | rfl | exact (Int.toNat_of_nonneg (by omega)).symm)) (by omega)) ?_))
 | ((show SLl _ _ _ _ _ (⟨⟨_, .call ⟨.builtin .len, _, _⟩, _, _, _, _⟩, _, _⟩ :: _) _ _ _); refine SLl.rdTake rfl rfl (Rd.len rfl (by (first | exact Len.nil | (apply Len.row; (· (repeat (first | apply Sel.here | apply Sel.there | apply Upd.here | apply Upd.there)))) | (apply Len.rs; exact Rs.mono (by assumption) (by (repeat' (first | exact Ent.refl | exact Ent.drop | exact Ent.appR | apply Ent.skip))))))) ?_)
 | ((show SLl _ _ _ _ _ (⟨⟨_, .binOp _ _ _ _ _, _, _, _, _⟩, _, _⟩ :: _) _ _ _); (first
 | refine SLl.pu rfl rfl rfl (Pu.add rfl rfl (IntWalk.i64_in _ (by omega))) ?_
 | refine SLl.pu rfl rfl rfl (Pu.sub rfl rfl (IntWalk.i64_in _ (by omega))) ?_
 | (refine SLl.cmp rfl rfl rfl rfl rfl rfl ?_ ?_ <;> intro hq <;> simp only [cmpP] at hq <;> try (first
 | exact (hq trivial).elim
 | (exfalso; omega)))
 | refine SLl.pu rfl rfl rfl (Pu.eqNilT rfl rfl) ?_
 | refine SLl.pu rfl rfl rfl (Pu.neNilF rfl rfl) ?_
 | refine SLl.rdTake rfl rfl (Rd.eqNilF rfl rfl (by (first | exact Len.nil | (apply Len.row; (· (repeat (first | apply Sel.here | apply Sel.there | apply Upd.here | apply Upd.there)))) | (apply Len.rs; exact Rs.mono (by assumption) (by (repeat' (first | exact Ent.refl | exact Ent.drop | exact Ent.appR | apply Ent.skip)))))) (by assumption)) ?_
 | refine SLl.rdTake rfl rfl (Rd.neNilT rfl rfl (by (first | exact Len.nil | (apply Len.row; (· (repeat (first | apply Sel.here | apply Sel.there | apply Upd.here | apply Upd.there)))) | (apply Len.rs; exact Rs.mono (by assumption) (by (repeat' (first | exact Ent.refl | exact Ent.drop | exact Ent.appR | apply Ent.skip)))))) (by assumption)) ?_
 | refine SLl.pu rfl rfl rfl (Pu.eqPtrNil rfl rfl) ?_
 | refine SLl.pu rfl rfl rfl (Pu.eqBool rfl rfl) ?_
 | refine SLl.pu rfl rfl rfl (Pu.neBool rfl rfl) ?_))
 | ((show SLl _ _ _ _ _ (⟨⟨_, .store _ _ _, _, _, _, _⟩, _, _⟩ :: _) _ _ _); (first | (refine SLl.seq0 rfl (SLo.store rfl rfl rfl (by (first | exact One.lit rfl | exact One.lit (by assumption) | exact One.mono (by assumption) (by (repeat' (first | exact Ent.refl | exact Ent.drop | exact Ent.appR | apply Ent.skip))) | exact One.len (by (first | exact Len.nil | (apply Len.row; (· (repeat (first | apply Sel.here | apply Sel.there | apply Upd.here | apply Upd.there)))) | (apply Len.rs; exact Rs.mono (by assumption) (by (repeat' (first | exact Ent.refl | exact Ent.drop | exact Ent.appR | apply Ent.skip)))))))) (by (first | (apply Wr.blk; (· (repeat (first | apply Sel.here | apply Sel.there | apply Upd.here | apply Upd.there))); (· exact Nat.le_of_ble_eq_true rfl)) | (apply Wr.row; (· (first | rfl | assumption)); (· exact Nat.le_of_ble_eq_true rfl); (· (repeat (first | apply Sel.here | apply Sel.there | apply Upd.here | apply Upd.there)))))) ?_)) | (refine SLl.seq0 rfl (SLo.storeN rfl rfl rfl (by (repeat' (first | exact trivial | (apply And.intro; (· (first | exact One.lit rfl | exact One.lit (by assumption) | exact One.mono (by assumption) (by (repeat' (first | exact Ent.refl | exact Ent.drop | exact Ent.appR | apply Ent.skip))) | exact One.len (by (first | exact Len.nil | (apply Len.row; (· (repeat (first | apply Sel.here | apply Sel.there | apply Upd.here | apply Upd.there)))) | (apply Len.rs; exact Rs.mono (by assumption) (by (repeat' (first | exact Ent.refl | exact Ent.drop | exact Ent.appR | apply Ent.skip)))))))))))) (Nat.le_of_ble_eq_true rfl) (by (repeat (first | apply Sel.here | apply Sel.there | apply Upd.here | apply Upd.there))) ?_))))
 | ((show SLl _ _ _ _ _ (⟨⟨_, .box _ _, _, _, _, _⟩, _, _⟩ :: _) _ _ _); refine SLl.seq rfl rfl (SLo.boxC rfl (by (first | exact Cel.one (by (first | exact One.lit rfl | exact One.lit (by assumption) | exact One.mono (by assumption) (by (repeat' (first | exact Ent.refl | exact Ent.drop | exact Ent.appR | apply Ent.skip))) | exact One.len (by (first | exact Len.nil | (apply Len.row; (· (repeat (first | apply Sel.here | apply Sel.there | apply Upd.here | apply Upd.there)))) | (apply Len.rs; exact Rs.mono (by assumption) (by (repeat' (first | exact Ent.refl | exact Ent.drop | exact Ent.appR | apply Ent.skip)))))))) | exact Cel.agg)) ?_); intro b)
 | ((show SLl _ _ _ _ _ (⟨⟨_, .alloc _, _, _, _, _⟩, _, _⟩ :: _) _ _ _); refine SLl.seq rfl rfl (SLo.alloc ?_); intro b)
 | ((show SLl _ _ _ _ _ (⟨⟨_, .build _ _, _, _, _, _⟩, _, _⟩ :: _) _ _ _); first
 | refine SLl.rdTake rfl rfl (Rd.build rfl (by (repeat (first | exact CellsW.nil | (apply CellsW.cons; (· (first | exact Cel.one (by (first | exact One.lit rfl | exact One.lit (by assumption) | exact One.mono (by assumption) (by (repeat' (first | exact Ent.refl | exact Ent.drop | exact Ent.appR | apply Ent.skip))) | exact One.len (by (first | exact Len.nil | (apply Len.row; (· (repeat (first | apply Sel.here | apply Sel.there | apply Upd.here | apply Upd.there)))) | (apply Len.rs; exact Rs.mono (by assumption) (by (repeat' (first | exact Ent.refl | exact Ent.drop | exact Ent.appR | apply Ent.skip)))))))) | exact Cel.agg)))))) (by rfl)) ?_
 | refine SLl.pu rfl rfl rfl (Pu.build rfl rfl) ?_)
 | refine SLl.skip rfl rfl ?_))
 | (first
 | refine SLc.seq ?_
 | refine SLc.region rfl ?_
 | refine SLc.condT rfl ?_
 | refine SLc.condF rfl ?_
 | refine SLc.block ?_
 | refine SLc.skip ?_
 | refine SLc.exit ?_
 | refine SLc.ret ?_)))
      have hm : mayF (ns.map mnode) (t : Int) = true := hC.may (by omega)
      refine SLl.eff rfl rfl (SLo.call plain29 rfl (SLf.mono (From_yes W _ lv (ns.map mnode) t (made_graph hch (by omega) (by (repeat' (first | exact Ent.refl | exact Ent.drop | exact Ent.appR | apply Ent.skip)))) hm (by omega)) ?_))
      rintro rv σ ⟨hrv, rfl⟩
      refine And.intro (fun _ => by (repeat' (first | exact Ent.refl | exact Ent.drop | exact Ent.appR | apply Ent.skip))) ?_
      refine SLl.eff rfl rfl (SLo.call plain31 rfl (SLf.mono (Counts_yes W _ lv (ns.map mnode) t (made_graph hch (by omega) (by (repeat' (first | exact Ent.refl | exact Ent.drop | exact Ent.appR | apply Ent.skip)))) hm (by omega) (by omega)) ?_))
      rintro cv σ rfl
      refine And.intro (fun _ => by (repeat' (first | exact Ent.refl | exact Ent.drop | exact Ent.appR | apply Ent.skip))) ?_
      have hR : ∀ (j : Nat), j < i → (fromL (ns.map mnode) t)[j]? = some (decide (j ≤ t)) := fun j hj => hC.from (by omega) (by omega)
      have hU : ∀ (j : Nat), j < i → (usersL (ns.map mnode) t)[j]?.map List.length = some (if j < t then (insAt (ns.map mnode) (j + 1)).length else 0) := fun j hj => hC.count (by omega) (by omega)
      have hfl := @fromL_len (ns.map mnode) t
      have hul := @usersL_len (ns.map mnode) t
      generalize fromL (ns.map mnode) t = R at hfl hR
      generalize usersL (ns.map mnode) t = U at hul hU
      have hRl := @bools_len R
      have hCl : (ints (U.map fun u => (u.length : Int))).length = U.length := by simp [ints]
      have hCj : ∀ (j c : Nat), U[j]?.map List.length = some c → (ints (U.map fun u => (u.length : Int)))[j]? = some [.int .i64 (c : Int)] := by
        intro j c hc
        cases hu : U[j]? with
        | none => simp [hu] at hc
        | some u =>
          simp only [hu, Option.map_some, Option.some.injEq] at hc
          subst hc
          exact ints_at (by simp [hu])
      (repeat' (first
 | (first
 | refine SLl.nil ?_
 | ((show SLl _ _ _ _ _ (⟨⟨_, _, _, _, _, _⟩, _, _⟩ :: _) _ _ _); first
 | refine SLl.ev rfl rfl rfl rfl ?_
 | ((show SLl _ _ _ _ _ (⟨⟨_, .load _ _, _, _, _, _⟩, _, _⟩ :: _) _ _ _); (first | refine SLl.rdSeq rfl rfl (Rd.load rfl rfl (by (first | (apply Reads.blk; (· (repeat (first | apply Sel.here | apply Sel.there | apply Upd.here | apply Upd.there))); (· rfl)) | (apply Reads.row; (· (repeat (first | apply Sel.here | apply Sel.there | apply Upd.here | apply Upd.there))); (· (first | rfl | assumption)); (· rfl)) | (apply Reads.rs; (· exact Rs.mono (by assumption) (by (repeat' (first | exact Ent.refl | exact Ent.drop | exact Ent.appR | apply Ent.skip)))); (· (first | rfl | assumption)); (· rfl))))) ?_ | refine SLl.rdSeq rfl rfl (Rd.loadN rfl rfl (by (first | exact ReadsN.mono (by assumption) (by (repeat' (first | exact Ent.refl | exact Ent.drop | exact Ent.appR | apply Ent.skip))) | (apply ReadsN.blk0; (· (repeat (first | apply Sel.here | apply Sel.there | apply Upd.here | apply Upd.there)))) | (apply ReadsN.row0; (· (repeat (first | apply Sel.here | apply Sel.there | apply Upd.here | apply Upd.there))); (· (first | rfl | assumption))) | (apply ReadsN.rs0; (· exact Rs.mono (by assumption) (by (repeat' (first | exact Ent.refl | exact Ent.drop | exact Ent.appR | apply Ent.skip)))); (· (first | rfl | assumption))))) (by rfl)) ?_))
 | ((show SLl _ _ _ _ _ (⟨⟨_, .fieldAddr _ _ _, _, _, _, _⟩, _, _⟩ :: _) _ _ _); (first | refine SLl.pu rfl rfl rfl (Pu.fieldAddr rfl) ?_ | refine SLl.rdSeq rfl rfl (Rd.fieldAddrEl rfl (by (first | exact Len.nil | (apply Len.row; (· (repeat (first | apply Sel.here | apply Sel.there | apply Upd.here | apply Upd.there)))) | (apply Len.rs; exact Rs.mono (by assumption) (by (repeat' (first | exact Ent.refl | exact Ent.drop | exact Ent.appR | apply Ent.skip)))))) (by omega)) ?_))
 | ((show SLl _ _ _ _ _ (⟨⟨_, .indexAddr _ _ _, _, _, _, _⟩, _, _⟩ :: _) _ _ _); (refine SLl.rdSeq rfl rfl (Rd.indexAddr rfl rfl (by (first | exact Len.nil | (apply Len.row; (· (repeat (first | apply Sel.here | apply Sel.there | apply Upd.here | apply Upd.there)))) | (apply Len.rs; exact Rs.mono (by assumption) (by (repeat' (first | exact Ent.refl | exact Ent.drop | exact Ent.appR | apply Ent.skip)))))) (by (first | exact ij0 | exact ij1 | exact ij2 | exact ij3 | exact ij4 | exact ij5 | rfl | exact (Int.toNat_of_nonneg (by omega)).symm)) (by omega)) ?_))
 | ((show SLl _ _ _ _ _ (⟨⟨_, .call ⟨.builtin .len, _, _⟩, _, _, _, _⟩, _, _⟩ :: _) _ _ _); refine SLl.rdSeq rfl rfl (Rd.len rfl (by (first | exact Len.nil | (apply Len.row; (· (repeat (first | apply Sel.here | apply Sel.there | apply Upd.here | apply Upd.there)))) | (apply Len.rs; exact Rs.mono (by assumption) (by (repeat' (first | exact Ent.refl | exact Ent.drop | exact Ent.appR | apply Ent.skip))))))) ?_)
 | ((show SLl _ _ _ _ _ (⟨⟨_, .binOp _ _ _ _ _, _, _, _, _⟩, _, _⟩ :: _) _ _ _); (first
 | refine SLl.pu rfl rfl rfl (Pu.add rfl rfl (IntWalk.i64_in _ (by omega))) ?_
 | refine SLl.pu rfl rfl rfl (Pu.sub rfl rfl (IntWalk.i64_in _ (by omega))) ?_
 | (refine SLl.cmp rfl rfl rfl rfl rfl rfl ?_ ?_ <;> intro hq <;> simp only [cmpP] at hq <;> try (first
 | exact (hq trivial).elim
 | (exfalso; omega)))
 | refine SLl.pu rfl rfl rfl (Pu.eqNilT rfl rfl) ?_
 | refine SLl.pu rfl rfl rfl (Pu.neNilF rfl rfl) ?_
 | refine SLl.rdSeq rfl rfl (Rd.eqNilF rfl rfl (by (first | exact Len.nil | (apply Len.row; (· (repeat (first | apply Sel.here | apply Sel.there | apply Upd.here | apply Upd.there)))) | (apply Len.rs; exact Rs.mono (by assumption) (by (repeat' (first | exact Ent.refl | exact Ent.drop | exact Ent.appR | apply Ent.skip)))))) (by assumption)) ?_
 | refine SLl.rdSeq rfl rfl (Rd.neNilT rfl rfl (by (first | exact Len.nil | (apply Len.row; (· (repeat (first | apply Sel.here | apply Sel.there | apply Upd.here | apply Upd.there)))) | (apply Len.rs; exact Rs.mono (by assumption) (by (repeat' (first | exact Ent.refl | exact Ent.drop | exact Ent.appR | apply Ent.skip)))))) (by assumption)) ?_
 | refine SLl.pu rfl rfl rfl (Pu.eqPtrNil rfl rfl) ?_
 | refine SLl.pu rfl rfl rfl (Pu.eqBool rfl rfl) ?_
 | refine SLl.pu rfl rfl rfl (Pu.neBool rfl rfl) ?_))
 | ((show SLl _ _ _ _ _ (⟨⟨_, .store _ _ _, _, _, _, _⟩, _, _⟩ :: _) _ _ _); (first | (refine SLl.seq0 rfl (SLo.store rfl rfl rfl (by (first | exact One.lit rfl | exact One.lit (by assumption) | exact One.mono (by assumption) (by (repeat' (first | exact Ent.refl | exact Ent.drop | exact Ent.appR | apply Ent.skip))) | exact One.len (by (first | exact Len.nil | (apply Len.row; (· (repeat (first | apply Sel.here | apply Sel.there | apply Upd.here | apply Upd.there)))) | (apply Len.rs; exact Rs.mono (by assumption) (by (repeat' (first | exact Ent.refl | exact Ent.drop | exact Ent.appR | apply Ent.skip)))))))) (by (first | (apply Wr.blk; (· (repeat (first | apply Sel.here | apply Sel.there | apply Upd.here | apply Upd.there))); (· exact Nat.le_of_ble_eq_true rfl)) | (apply Wr.row; (· (first | rfl | assumption)); (· exact Nat.le_of_ble_eq_true rfl); (· (repeat (first | apply Sel.here | apply Sel.there | apply Upd.here | apply Upd.there)))))) ?_)) | (refine SLl.seq0 rfl (SLo.storeN rfl rfl rfl (by (repeat' (first | exact trivial | (apply And.intro; (· (first | exact One.lit rfl | exact One.lit (by assumption) | exact One.mono (by assumption) (by (repeat' (first | exact Ent.refl | exact Ent.drop | exact Ent.appR | apply Ent.skip))) | exact One.len (by (first | exact Len.nil | (apply Len.row; (· (repeat (first | apply Sel.here | apply Sel.there | apply Upd.here | apply Upd.there)))) | (apply Len.rs; exact Rs.mono (by assumption) (by (repeat' (first | exact Ent.refl | exact Ent.drop | exact Ent.appR | apply Ent.skip)))))))))))) (Nat.le_of_ble_eq_true rfl) (by (repeat (first | apply Sel.here | apply Sel.there | apply Upd.here | apply Upd.there))) ?_))))
 | ((show SLl _ _ _ _ _ (⟨⟨_, .box _ _, _, _, _, _⟩, _, _⟩ :: _) _ _ _); refine SLl.seq rfl rfl (SLo.boxC rfl (by (first | exact Cel.one (by (first | exact One.lit rfl | exact One.lit (by assumption) | exact One.mono (by assumption) (by (repeat' (first | exact Ent.refl | exact Ent.drop | exact Ent.appR | apply Ent.skip))) | exact One.len (by (first | exact Len.nil | (apply Len.row; (· (repeat (first | apply Sel.here | apply Sel.there | apply Upd.here | apply Upd.there)))) | (apply Len.rs; exact Rs.mono (by assumption) (by (repeat' (first | exact Ent.refl | exact Ent.drop | exact Ent.appR | apply Ent.skip)))))))) | exact Cel.agg)) ?_); intro b)
 | ((show SLl _ _ _ _ _ (⟨⟨_, .alloc _, _, _, _, _⟩, _, _⟩ :: _) _ _ _); refine SLl.seq rfl rfl (SLo.alloc ?_); intro b)
 | ((show SLl _ _ _ _ _ (⟨⟨_, .build _ _, _, _, _, _⟩, _, _⟩ :: _) _ _ _); first
 | refine SLl.rdSeq rfl rfl (Rd.build rfl (by (repeat (first | exact CellsW.nil | (apply CellsW.cons; (· (first | exact Cel.one (by (first | exact One.lit rfl | exact One.lit (by assumption) | exact One.mono (by assumption) (by (repeat' (first | exact Ent.refl | exact Ent.drop | exact Ent.appR | apply Ent.skip))) | exact One.len (by (first | exact Len.nil | (apply Len.row; (· (repeat (first | apply Sel.here | apply Sel.there | apply Upd.here | apply Upd.there)))) | (apply Len.rs; exact Rs.mono (by assumption) (by (repeat' (first | exact Ent.refl | exact Ent.drop | exact Ent.appR | apply Ent.skip)))))))) | exact Cel.agg)))))) (by rfl)) ?_
 | refine SLl.pu rfl rfl rfl (Pu.build rfl rfl) ?_)
 | refine SLl.skip rfl rfl ?_))
 | (first
 | refine SLc.seq ?_
 | refine SLc.region rfl ?_
 | refine SLc.condT rfl ?_
 | refine SLc.condF rfl ?_
 | refine SLc.block ?_
 | refine SLc.skip ?_
 | refine SLc.exit ?_
 | refine SLc.ret ?_)))
      refine SLc.loop (ι := Nat) (fun j => [(14, .int .i64 j), (13, cv), (12, rv), (11, .int .i64 t), (8, .pointer (some ⟨b, 0, none⟩)), (7, .int .i64 i)]) (fun _ => .row cv 3 1 (ints (U.map fun u => (u.length : Int))) :: .row rv 4 1 (bools R) :: .blk b 24 [lv] :: .row lv 47 7 (mcells ns) :: ns.map mrow)
        (fun j => j ≤ i) (fun j => i - j) 0 (Nat.zero_le _) (by (repeat' (first | exact trivial | apply And.intro | rfl))) .refl ?_
      intro j hj
      by_cases hji : j < i
      · have hRj := hR j hji
        have hUj := hCj j _ (hU j hji)
        rcases Nat.lt_trichotomy j t with h | h | h
        · rw [decide_eq_true (by omega : j ≤ t)] at hRj
          rw [if_pos h] at hUj
          have hbj := bools_at hRj
          have hpj : ns[j + 1]? = some (ns[j + 1]'(by omega)) := List.getElem?_eq_getElem (by omega)
          generalize ns[j + 1]'(by omega) = p at hpj
          have hin : insAt (ns.map mnode) (j + 1) = p.2.2 := by simp [insAt, hpj, mnode, nd]
          rw [hin] at hUj
          have hmp : (mcells ns)[j + 1]? = some (ndCells p.1 p.2.1) := by simp [mcells, hpj]
          have hrp : Rs W (ns.map mrow) p.2.1 1 (ints p.2.2) := Rs.row (Sel.many (f := mrow) hpj) ints_one
          have hil := @ints_len p.2.2
          (repeat' (first
 | (first
 | refine SLl.nil ?_
 | ((show SLl _ _ _ _ _ (⟨⟨_, _, _, _, _, _⟩, _, _⟩ :: _) _ _ _); first
 | refine SLl.ev rfl rfl rfl rfl ?_
 | ((show SLl _ _ _ _ _ (⟨⟨_, .load _ _, _, _, _, _⟩, _, _⟩ :: _) _ _ _); (first | refine SLl.rdSeq rfl rfl (Rd.load rfl rfl (by (first | (apply Reads.blk; (· (repeat (first | apply Sel.here | apply Sel.there | apply Upd.here | apply Upd.there))); (· rfl)) | (apply Reads.row; (· (repeat (first | apply Sel.here | apply Sel.there | apply Upd.here | apply Upd.there))); (· (first | rfl | assumption)); (· rfl)) | (apply Reads.rs; (· exact Rs.mono (by assumption) (by (repeat' (first | exact Ent.refl | exact Ent.drop | exact Ent.appR | apply Ent.skip)))); (· (first | rfl | assumption)); (· rfl))))) ?_ | refine SLl.rdSeq rfl rfl (Rd.loadN rfl rfl (by (first | exact ReadsN.mono (by assumption) (by (repeat' (first | exact Ent.refl | exact Ent.drop | exact Ent.appR | apply Ent.skip))) | (apply ReadsN.blk0; (· (repeat (first | apply Sel.here | apply Sel.there | apply Upd.here | apply Upd.there)))) | (apply ReadsN.row0; (· (repeat (first | apply Sel.here | apply Sel.there | apply Upd.here | apply Upd.there))); (· (first | rfl | assumption))) | (apply ReadsN.rs0; (· exact Rs.mono (by assumption) (by (repeat' (first | exact Ent.refl | exact Ent.drop | exact Ent.appR | apply Ent.skip)))); (· (first | rfl | assumption))))) (by rfl)) ?_))
 | ((show SLl _ _ _ _ _ (⟨⟨_, .fieldAddr _ _ _, _, _, _, _⟩, _, _⟩ :: _) _ _ _); (first | refine SLl.pu rfl rfl rfl (Pu.fieldAddr rfl) ?_ | refine SLl.rdSeq rfl rfl (Rd.fieldAddrEl rfl (by (first | exact Len.nil | (apply Len.row; (· (repeat (first | apply Sel.here | apply Sel.there | apply Upd.here | apply Upd.there)))) | (apply Len.rs; exact Rs.mono (by assumption) (by (repeat' (first | exact Ent.refl | exact Ent.drop | exact Ent.appR | apply Ent.skip)))))) (by omega)) ?_))
 | ((show SLl _ _ _ _ _ (⟨⟨_, .indexAddr _ _ _, _, _, _, _⟩, _, _⟩ :: _) _ _ _); (refine SLl.rdSeq rfl rfl (Rd.indexAddr rfl rfl (by (first | exact Len.nil | (apply Len.row; (· (repeat (first | apply Sel.here | apply Sel.there | apply Upd.here | apply Upd.there)))) | (apply Len.rs; exact Rs.mono (by assumption) (by (repeat' (first | exact Ent.refl | exact Ent.drop | exact Ent.appR | apply Ent.skip)))))) (by (first | exact ij0 | exact ij1 | exact ij2 | exact ij3 | exact ij4 | exact ij5 | rfl | exact (Int.toNat_of_nonneg (by omega)).symm)) (by omega)) ?_))
 | ((show SLl _ _ _ _ _ (⟨⟨_, .call ⟨.builtin .len, _, _⟩, _, _, _, _⟩, _, _⟩ :: _) _ _ _); refine SLl.rdSeq rfl rfl (Rd.len rfl (by (first | exact Len.nil | (apply Len.row; (· (repeat (first | apply Sel.here | apply Sel.there | apply Upd.here | apply Upd.there)))) | (apply Len.rs; exact Rs.mono (by assumption) (by (repeat' (first | exact Ent.refl | exact Ent.drop | exact Ent.appR | apply Ent.skip))))))) ?_)
 | ((show SLl _ _ _ _ _ (⟨⟨_, .binOp _ _ _ _ _, _, _, _, _⟩, _, _⟩ :: _) _ _ _); (first
 | refine SLl.pu rfl rfl rfl (Pu.add rfl rfl (IntWalk.i64_in _ (by omega))) ?_
 | refine SLl.pu rfl rfl rfl (Pu.sub rfl rfl (IntWalk.i64_in _ (by omega))) ?_
 | (refine SLl.cmp rfl rfl rfl rfl rfl rfl ?_ ?_ <;> intro hq <;> simp only [cmpP] at hq <;> try (first
 | exact (hq trivial).elim
 | (exfalso; omega)))
 | refine SLl.pu rfl rfl rfl (Pu.eqNilT rfl rfl) ?_
 | refine SLl.pu rfl rfl rfl (Pu.neNilF rfl rfl) ?_
 | refine SLl.rdSeq rfl rfl (Rd.eqNilF rfl rfl (by (first | exact Len.nil | (apply Len.row; (· (repeat (first | apply Sel.here | apply Sel.there | apply Upd.here | apply Upd.there)))) | (apply Len.rs; exact Rs.mono (by assumption) (by (repeat' (first | exact Ent.refl | exact Ent.drop | exact Ent.appR | apply Ent.skip)))))) (by assumption)) ?_
 | refine SLl.rdSeq rfl rfl (Rd.neNilT rfl rfl (by (first | exact Len.nil | (apply Len.row; (· (repeat (first | apply Sel.here | apply Sel.there | apply Upd.here | apply Upd.there)))) | (apply Len.rs; exact Rs.mono (by assumption) (by (repeat' (first | exact Ent.refl | exact Ent.drop | exact Ent.appR | apply Ent.skip)))))) (by assumption)) ?_
 | refine SLl.pu rfl rfl rfl (Pu.eqPtrNil rfl rfl) ?_
 | refine SLl.pu rfl rfl rfl (Pu.eqBool rfl rfl) ?_
 | refine SLl.pu rfl rfl rfl (Pu.neBool rfl rfl) ?_))
 | ((show SLl _ _ _ _ _ (⟨⟨_, .store _ _ _, _, _, _, _⟩, _, _⟩ :: _) _ _ _); (first | (refine SLl.seq0 rfl (SLo.store rfl rfl rfl (by (first | exact One.lit rfl | exact One.lit (by assumption) | exact One.mono (by assumption) (by (repeat' (first | exact Ent.refl | exact Ent.drop | exact Ent.appR | apply Ent.skip))) | exact One.len (by (first | exact Len.nil | (apply Len.row; (· (repeat (first | apply Sel.here | apply Sel.there | apply Upd.here | apply Upd.there)))) | (apply Len.rs; exact Rs.mono (by assumption) (by (repeat' (first | exact Ent.refl | exact Ent.drop | exact Ent.appR | apply Ent.skip)))))))) (by (first | (apply Wr.blk; (· (repeat (first | apply Sel.here | apply Sel.there | apply Upd.here | apply Upd.there))); (· exact Nat.le_of_ble_eq_true rfl)) | (apply Wr.row; (· (first | rfl | assumption)); (· exact Nat.le_of_ble_eq_true rfl); (· (repeat (first | apply Sel.here | apply Sel.there | apply Upd.here | apply Upd.there)))))) ?_)) | (refine SLl.seq0 rfl (SLo.storeN rfl rfl rfl (by (repeat' (first | exact trivial | (apply And.intro; (· (first | exact One.lit rfl | exact One.lit (by assumption) | exact One.mono (by assumption) (by (repeat' (first | exact Ent.refl | exact Ent.drop | exact Ent.appR | apply Ent.skip))) | exact One.len (by (first | exact Len.nil | (apply Len.row; (· (repeat (first | apply Sel.here | apply Sel.there | apply Upd.here | apply Upd.there)))) | (apply Len.rs; exact Rs.mono (by assumption) (by (repeat' (first | exact Ent.refl | exact Ent.drop | exact Ent.appR | apply Ent.skip)))))))))))) (Nat.le_of_ble_eq_true rfl) (by (repeat (first | apply Sel.here | apply Sel.there | apply Upd.here | apply Upd.there))) ?_))))
 | ((show SLl _ _ _ _ _ (⟨⟨_, .box _ _, _, _, _, _⟩, _, _⟩ :: _) _ _ _); refine SLl.seq rfl rfl (SLo.boxC rfl (by (first | exact Cel.one (by (first | exact One.lit rfl | exact One.lit (by assumption) | exact One.mono (by assumption) (by (repeat' (first | exact Ent.refl | exact Ent.drop | exact Ent.appR | apply Ent.skip))) | exact One.len (by (first | exact Len.nil | (apply Len.row; (· (repeat (first | apply Sel.here | apply Sel.there | apply Upd.here | apply Upd.there)))) | (apply Len.rs; exact Rs.mono (by assumption) (by (repeat' (first | exact Ent.refl | exact Ent.drop | exact Ent.appR | apply Ent.skip)))))))) | exact Cel.agg)) ?_); intro b)
 | ((show SLl _ _ _ _ _ (⟨⟨_, .alloc _, _, _, _, _⟩, _, _⟩ :: _) _ _ _); refine SLl.seq rfl rfl (SLo.alloc ?_); intro b)
 | ((show SLl _ _ _ _ _ (⟨⟨_, .build _ _, _, _, _, _⟩, _, _⟩ :: _) _ _ _); first
 | refine SLl.rdSeq rfl rfl (Rd.build rfl (by (repeat (first | exact CellsW.nil | (apply CellsW.cons; (· (first | exact Cel.one (by (first | exact One.lit rfl | exact One.lit (by assumption) | exact One.mono (by assumption) (by (repeat' (first | exact Ent.refl | exact Ent.drop | exact Ent.appR | apply Ent.skip))) | exact One.len (by (first | exact Len.nil | (apply Len.row; (· (repeat (first | apply Sel.here | apply Sel.there | apply Upd.here | apply Upd.there)))) | (apply Len.rs; exact Rs.mono (by assumption) (by (repeat' (first | exact Ent.refl | exact Ent.drop | exact Ent.appR | apply Ent.skip)))))))) | exact Cel.agg)))))) (by rfl)) ?_
 | refine SLl.pu rfl rfl rfl (Pu.build rfl rfl) ?_)
 | refine SLl.skip rfl rfl ?_))
 | (first
 | refine SLc.seq ?_
 | refine SLc.region rfl ?_
 | refine SLc.condT rfl ?_
 | refine SLc.condF rfl ?_
 | refine SLc.block ?_
 | refine SLc.skip ?_
 | refine SLc.exit ?_
 | refine SLc.ret ?_)))
          refine SLl.rdSeq rfl rfl (Rd.indexAddr (j := j + 1) rfl rfl (by (first | exact Len.nil | (apply Len.row; (· (repeat (first | apply Sel.here | apply Sel.there | apply Upd.here | apply Upd.there)))) | (apply Len.rs; exact Rs.mono (by assumption) (by (repeat' (first | exact Ent.refl | exact Ent.drop | exact Ent.appR | apply Ent.skip)))))) (by omega) (by omega)) ?_
          (repeat' (first
 | (first
 | refine SLl.nil ?_
 | ((show SLl _ _ _ _ _ (⟨⟨_, _, _, _, _, _⟩, _, _⟩ :: _) _ _ _); first
 | refine SLl.ev rfl rfl rfl rfl ?_
 | ((show SLl _ _ _ _ _ (⟨⟨_, .load _ _, _, _, _, _⟩, _, _⟩ :: _) _ _ _); (first | refine SLl.rdSeq rfl rfl (Rd.load rfl rfl (by (first | (apply Reads.blk; (· (repeat (first | apply Sel.here | apply Sel.there | apply Upd.here | apply Upd.there))); (· rfl)) | (apply Reads.row; (· (repeat (first | apply Sel.here | apply Sel.there | apply Upd.here | apply Upd.there))); (· (first | rfl | assumption)); (· rfl)) | (apply Reads.rs; (· exact Rs.mono (by assumption) (by (repeat' (first | exact Ent.refl | exact Ent.drop | exact Ent.appR | apply Ent.skip)))); (· (first | rfl | assumption)); (· rfl))))) ?_ | refine SLl.rdSeq rfl rfl (Rd.loadN rfl rfl (by (first | exact ReadsN.mono (by assumption) (by (repeat' (first | exact Ent.refl | exact Ent.drop | exact Ent.appR | apply Ent.skip))) | (apply ReadsN.blk0; (· (repeat (first | apply Sel.here | apply Sel.there | apply Upd.here | apply Upd.there)))) | (apply ReadsN.row0; (· (repeat (first | apply Sel.here | apply Sel.there | apply Upd.here | apply Upd.there))); (· (first | rfl | assumption))) | (apply ReadsN.rs0; (· exact Rs.mono (by assumption) (by (repeat' (first | exact Ent.refl | exact Ent.drop | exact Ent.appR | apply Ent.skip)))); (· (first | rfl | assumption))))) (by rfl)) ?_))
 | ((show SLl _ _ _ _ _ (⟨⟨_, .fieldAddr _ _ _, _, _, _, _⟩, _, _⟩ :: _) _ _ _); (first | refine SLl.pu rfl rfl rfl (Pu.fieldAddr rfl) ?_ | refine SLl.rdSeq rfl rfl (Rd.fieldAddrEl rfl (by (first | exact Len.nil | (apply Len.row; (· (repeat (first | apply Sel.here | apply Sel.there | apply Upd.here | apply Upd.there)))) | (apply Len.rs; exact Rs.mono (by assumption) (by (repeat' (first | exact Ent.refl | exact Ent.drop | exact Ent.appR | apply Ent.skip)))))) (by omega)) ?_))
 | ((show SLl _ _ _ _ _ (⟨⟨_, .indexAddr _ _ _, _, _, _, _⟩, _, _⟩ :: _) _ _ _); (refine SLl.rdSeq rfl rfl (Rd.indexAddr rfl rfl (by (first | exact Len.nil | (apply Len.row; (· (repeat (first | apply Sel.here | apply Sel.there | apply Upd.here | apply Upd.there)))) | (apply Len.rs; exact Rs.mono (by assumption) (by (repeat' (first | exact Ent.refl | exact Ent.drop | exact Ent.appR | apply Ent.skip)))))) (by (first | exact ij0 | exact ij1 | exact ij2 | exact ij3 | exact ij4 | exact ij5 | rfl | exact (Int.toNat_of_nonneg (by omega)).symm)) (by omega)) ?_))
 | ((show SLl _ _ _ _ _ (⟨⟨_, .call ⟨.builtin .len, _, _⟩, _, _, _, _⟩, _, _⟩ :: _) _ _ _); refine SLl.rdSeq rfl rfl (Rd.len rfl (by (first | exact Len.nil | (apply Len.row; (· (repeat (first | apply Sel.here | apply Sel.there | apply Upd.here | apply Upd.there)))) | (apply Len.rs; exact Rs.mono (by assumption) (by (repeat' (first | exact Ent.refl | exact Ent.drop | exact Ent.appR | apply Ent.skip))))))) ?_)
 | ((show SLl _ _ _ _ _ (⟨⟨_, .binOp _ _ _ _ _, _, _, _, _⟩, _, _⟩ :: _) _ _ _); (first
 | refine SLl.pu rfl rfl rfl (Pu.add rfl rfl (IntWalk.i64_in _ (by omega))) ?_
 | refine SLl.pu rfl rfl rfl (Pu.sub rfl rfl (IntWalk.i64_in _ (by omega))) ?_
 | (refine SLl.cmp rfl rfl rfl rfl rfl rfl ?_ ?_ <;> intro hq <;> simp only [cmpP] at hq <;> try (first
 | exact (hq trivial).elim
 | (exfalso; omega)))
 | refine SLl.pu rfl rfl rfl (Pu.eqNilT rfl rfl) ?_
 | refine SLl.pu rfl rfl rfl (Pu.neNilF rfl rfl) ?_
 | refine SLl.rdSeq rfl rfl (Rd.eqNilF rfl rfl (by (first | exact Len.nil | (apply Len.row; (· (repeat (first | apply Sel.here | apply Sel.there | apply Upd.here | apply Upd.there)))) | (apply Len.rs; exact Rs.mono (by assumption) (by (repeat' (first | exact Ent.refl | exact Ent.drop | exact Ent.appR | apply Ent.skip)))))) (by assumption)) ?_
 | refine SLl.rdSeq rfl rfl (Rd.neNilT rfl rfl (by (first | exact Len.nil | (apply Len.row; (· (repeat (first | apply Sel.here | apply Sel.there | apply Upd.here | apply Upd.there)))) | (apply Len.rs; exact Rs.mono (by assumption) (by (repeat' (first | exact Ent.refl | exact Ent.drop | exact Ent.appR | apply Ent.skip)))))) (by assumption)) ?_
 | refine SLl.pu rfl rfl rfl (Pu.eqPtrNil rfl rfl) ?_
 | refine SLl.pu rfl rfl rfl (Pu.eqBool rfl rfl) ?_
 | refine SLl.pu rfl rfl rfl (Pu.neBool rfl rfl) ?_))
 | ((show SLl _ _ _ _ _ (⟨⟨_, .store _ _ _, _, _, _, _⟩, _, _⟩ :: _) _ _ _); (first | (refine SLl.seq0 rfl (SLo.store rfl rfl rfl (by (first | exact One.lit rfl | exact One.lit (by assumption) | exact One.mono (by assumption) (by (repeat' (first | exact Ent.refl | exact Ent.drop | exact Ent.appR | apply Ent.skip))) | exact One.len (by (first | exact Len.nil | (apply Len.row; (· (repeat (first | apply Sel.here | apply Sel.there | apply Upd.here | apply Upd.there)))) | (apply Len.rs; exact Rs.mono (by assumption) (by (repeat' (first | exact Ent.refl | exact Ent.drop | exact Ent.appR | apply Ent.skip)))))))) (by (first | (apply Wr.blk; (· (repeat (first | apply Sel.here | apply Sel.there | apply Upd.here | apply Upd.there))); (· exact Nat.le_of_ble_eq_true rfl)) | (apply Wr.row; (· (first | rfl | assumption)); (· exact Nat.le_of_ble_eq_true rfl); (· (repeat (first | apply Sel.here | apply Sel.there | apply Upd.here | apply Upd.there)))))) ?_)) | (refine SLl.seq0 rfl (SLo.storeN rfl rfl rfl (by (repeat' (first | exact trivial | (apply And.intro; (· (first | exact One.lit rfl | exact One.lit (by assumption) | exact One.mono (by assumption) (by (repeat' (first | exact Ent.refl | exact Ent.drop | exact Ent.appR | apply Ent.skip))) | exact One.len (by (first | exact Len.nil | (apply Len.row; (· (repeat (first | apply Sel.here | apply Sel.there | apply Upd.here | apply Upd.there)))) | (apply Len.rs; exact Rs.mono (by assumption) (by (repeat' (first | exact Ent.refl | exact Ent.drop | exact Ent.appR | apply Ent.skip)))))))))))) (Nat.le_of_ble_eq_true rfl) (by (repeat (first | apply Sel.here | apply Sel.there | apply Upd.here | apply Upd.there))) ?_))))
 | ((show SLl _ _ _ _ _ (⟨⟨_, .box _ _, _, _, _, _⟩, _, _⟩ :: _) _ _ _); refine SLl.seq rfl rfl (SLo.boxC rfl (by (first | exact Cel.one (by (first | exact One.lit rfl | exact One.lit (by assumption) | exact One.mono (by assumption) (by (repeat' (first | exact Ent.refl | exact Ent.drop | exact Ent.appR | apply Ent.skip))) | exact One.len (by (first | exact Len.nil | (apply Len.row; (· (repeat (first | apply Sel.here | apply Sel.there | apply Upd.here | apply Upd.there)))) | (apply Len.rs; exact Rs.mono (by assumption) (by (repeat' (first | exact Ent.refl | exact Ent.drop | exact Ent.appR | apply Ent.skip)))))))) | exact Cel.agg)) ?_); intro b)
 | ((show SLl _ _ _ _ _ (⟨⟨_, .alloc _, _, _, _, _⟩, _, _⟩ :: _) _ _ _); refine SLl.seq rfl rfl (SLo.alloc ?_); intro b)
 | ((show SLl _ _ _ _ _ (⟨⟨_, .build _ _, _, _, _, _⟩, _, _⟩ :: _) _ _ _); first
 | refine SLl.rdSeq rfl rfl (Rd.build rfl (by (repeat (first | exact CellsW.nil | (apply CellsW.cons; (· (first | exact Cel.one (by (first | exact One.lit rfl | exact One.lit (by assumption) | exact One.mono (by assumption) (by (repeat' (first | exact Ent.refl | exact Ent.drop | exact Ent.appR | apply Ent.skip))) | exact One.len (by (first | exact Len.nil | (apply Len.row; (· (repeat (first | apply Sel.here | apply Sel.there | apply Upd.here | apply Upd.there)))) | (apply Len.rs; exact Rs.mono (by assumption) (by (repeat' (first | exact Ent.refl | exact Ent.drop | exact Ent.appR | apply Ent.skip)))))))) | exact Cel.agg)))))) (by rfl)) ?_
 | refine SLl.pu rfl rfl rfl (Pu.build rfl rfl) ?_)
 | refine SLl.skip rfl rfl ?_))
 | (first
 | refine SLc.seq ?_
 | refine SLc.region rfl ?_
 | refine SLc.condT rfl ?_
 | refine SLc.condF rfl ?_
 | refine SLc.block ?_
 | refine SLc.skip ?_
 | refine SLc.exit ?_
 | refine SLc.ret ?_)))
          refine And.intro rfl (Exists.intro (j + 1) (And.intro (by omega) (And.intro (by omega) (And.intro (by (repeat' (first | exact trivial | apply And.intro | rfl))) .refl))))
        · subst h
          rw [decide_eq_true (Nat.le_refl j)] at hRj
          rw [if_neg (Nat.lt_irrefl j)] at hUj
          have hbj := bools_at hRj
          (repeat' (first
 | (first
 | refine SLl.nil ?_
 | ((show SLl _ _ _ _ _ (⟨⟨_, _, _, _, _, _⟩, _, _⟩ :: _) _ _ _); first
 | refine SLl.ev rfl rfl rfl rfl ?_
 | ((show SLl _ _ _ _ _ (⟨⟨_, .load _ _, _, _, _, _⟩, _, _⟩ :: _) _ _ _); (first | refine SLl.rdSeq rfl rfl (Rd.load rfl rfl (by (first | (apply Reads.blk; (· (repeat (first | apply Sel.here | apply Sel.there | apply Upd.here | apply Upd.there))); (· rfl)) | (apply Reads.row; (· (repeat (first | apply Sel.here | apply Sel.there | apply Upd.here | apply Upd.there))); (· (first | rfl | assumption)); (· rfl)) | (apply Reads.rs; (· exact Rs.mono (by assumption) (by (repeat' (first | exact Ent.refl | exact Ent.drop | exact Ent.appR | apply Ent.skip)))); (· (first | rfl | assumption)); (· rfl))))) ?_ | refine SLl.rdSeq rfl rfl (Rd.loadN rfl rfl (by (first | exact ReadsN.mono (by assumption) (by (repeat' (first | exact Ent.refl | exact Ent.drop | exact Ent.appR | apply Ent.skip))) | (apply ReadsN.blk0; (· (repeat (first | apply Sel.here | apply Sel.there | apply Upd.here | apply Upd.there)))) | (apply ReadsN.row0; (· (repeat (first | apply Sel.here | apply Sel.there | apply Upd.here | apply Upd.there))); (· (first | rfl | assumption))) | (apply ReadsN.rs0; (· exact Rs.mono (by assumption) (by (repeat' (first | exact Ent.refl | exact Ent.drop | exact Ent.appR | apply Ent.skip)))); (· (first | rfl | assumption))))) (by rfl)) ?_))
 | ((show SLl _ _ _ _ _ (⟨⟨_, .fieldAddr _ _ _, _, _, _, _⟩, _, _⟩ :: _) _ _ _); (first | refine SLl.pu rfl rfl rfl (Pu.fieldAddr rfl) ?_ | refine SLl.rdSeq rfl rfl (Rd.fieldAddrEl rfl (by (first | exact Len.nil | (apply Len.row; (· (repeat (first | apply Sel.here | apply Sel.there | apply Upd.here | apply Upd.there)))) | (apply Len.rs; exact Rs.mono (by assumption) (by (repeat' (first | exact Ent.refl | exact Ent.drop | exact Ent.appR | apply Ent.skip)))))) (by omega)) ?_))
 | ((show SLl _ _ _ _ _ (⟨⟨_, .indexAddr _ _ _, _, _, _, _⟩, _, _⟩ :: _) _ _ _); (refine SLl.rdSeq rfl rfl (Rd.indexAddr rfl rfl (by (first | exact Len.nil | (apply Len.row; (· (repeat (first | apply Sel.here | apply Sel.there | apply Upd.here | apply Upd.there)))) | (apply Len.rs; exact Rs.mono (by assumption) (by (repeat' (first | exact Ent.refl | exact Ent.drop | exact Ent.appR | apply Ent.skip)))))) (by (first | exact ij0 | exact ij1 | exact ij2 | exact ij3 | exact ij4 | exact ij5 | rfl | exact (Int.toNat_of_nonneg (by omega)).symm)) (by omega)) ?_))
 | ((show SLl _ _ _ _ _ (⟨⟨_, .call ⟨.builtin .len, _, _⟩, _, _, _, _⟩, _, _⟩ :: _) _ _ _); refine SLl.rdSeq rfl rfl (Rd.len rfl (by (first | exact Len.nil | (apply Len.row; (· (repeat (first | apply Sel.here | apply Sel.there | apply Upd.here | apply Upd.there)))) | (apply Len.rs; exact Rs.mono (by assumption) (by (repeat' (first | exact Ent.refl | exact Ent.drop | exact Ent.appR | apply Ent.skip))))))) ?_)
 | ((show SLl _ _ _ _ _ (⟨⟨_, .binOp _ _ _ _ _, _, _, _, _⟩, _, _⟩ :: _) _ _ _); (first
 | refine SLl.pu rfl rfl rfl (Pu.add rfl rfl (IntWalk.i64_in _ (by omega))) ?_
 | refine SLl.pu rfl rfl rfl (Pu.sub rfl rfl (IntWalk.i64_in _ (by omega))) ?_
 | (refine SLl.cmp rfl rfl rfl rfl rfl rfl ?_ ?_ <;> intro hq <;> simp only [cmpP] at hq <;> try (first
 | exact (hq trivial).elim
 | (exfalso; omega)))
 | refine SLl.pu rfl rfl rfl (Pu.eqNilT rfl rfl) ?_
 | refine SLl.pu rfl rfl rfl (Pu.neNilF rfl rfl) ?_
 | refine SLl.rdSeq rfl rfl (Rd.eqNilF rfl rfl (by (first | exact Len.nil | (apply Len.row; (· (repeat (first | apply Sel.here | apply Sel.there | apply Upd.here | apply Upd.there)))) | (apply Len.rs; exact Rs.mono (by assumption) (by (repeat' (first | exact Ent.refl | exact Ent.drop | exact Ent.appR | apply Ent.skip)))))) (by assumption)) ?_
 | refine SLl.rdSeq rfl rfl (Rd.neNilT rfl rfl (by (first | exact Len.nil | (apply Len.row; (· (repeat (first | apply Sel.here | apply Sel.there | apply Upd.here | apply Upd.there)))) | (apply Len.rs; exact Rs.mono (by assumption) (by (repeat' (first | exact Ent.refl | exact Ent.drop | exact Ent.appR | apply Ent.skip)))))) (by assumption)) ?_
 | refine SLl.pu rfl rfl rfl (Pu.eqPtrNil rfl rfl) ?_
 | refine SLl.pu rfl rfl rfl (Pu.eqBool rfl rfl) ?_
 | refine SLl.pu rfl rfl rfl (Pu.neBool rfl rfl) ?_))
 | ((show SLl _ _ _ _ _ (⟨⟨_, .store _ _ _, _, _, _, _⟩, _, _⟩ :: _) _ _ _); (first | (refine SLl.seq0 rfl (SLo.store rfl rfl rfl (by (first | exact One.lit rfl | exact One.lit (by assumption) | exact One.mono (by assumption) (by (repeat' (first | exact Ent.refl | exact Ent.drop | exact Ent.appR | apply Ent.skip))) | exact One.len (by (first | exact Len.nil | (apply Len.row; (· (repeat (first | apply Sel.here | apply Sel.there | apply Upd.here | apply Upd.there)))) | (apply Len.rs; exact Rs.mono (by assumption) (by (repeat' (first | exact Ent.refl | exact Ent.drop | exact Ent.appR | apply Ent.skip)))))))) (by (first | (apply Wr.blk; (· (repeat (first | apply Sel.here | apply Sel.there | apply Upd.here | apply Upd.there))); (· exact Nat.le_of_ble_eq_true rfl)) | (apply Wr.row; (· (first | rfl | assumption)); (· exact Nat.le_of_ble_eq_true rfl); (· (repeat (first | apply Sel.here | apply Sel.there | apply Upd.here | apply Upd.there)))))) ?_)) | (refine SLl.seq0 rfl (SLo.storeN rfl rfl rfl (by (repeat' (first | exact trivial | (apply And.intro; (· (first | exact One.lit rfl | exact One.lit (by assumption) | exact One.mono (by assumption) (by (repeat' (first | exact Ent.refl | exact Ent.drop | exact Ent.appR | apply Ent.skip))) | exact One.len (by (first | exact Len.nil | (apply Len.row; (· (repeat (first | apply Sel.here | apply Sel.there | apply Upd.here | apply Upd.there)))) | (apply Len.rs; exact Rs.mono (by assumption) (by (repeat' (first | exact Ent.refl | exact Ent.drop | exact Ent.appR | apply Ent.skip)))))))))))) (Nat.le_of_ble_eq_true rfl) (by (repeat (first | apply Sel.here | apply Sel.there | apply Upd.here | apply Upd.there))) ?_))))
 | ((show SLl _ _ _ _ _ (⟨⟨_, .box _ _, _, _, _, _⟩, _, _⟩ :: _) _ _ _); refine SLl.seq rfl rfl (SLo.boxC rfl (by (first | exact Cel.one (by (first | exact One.lit rfl | exact One.lit (by assumption) | exact One.mono (by assumption) (by (repeat' (first | exact Ent.refl | exact Ent.drop | exact Ent.appR | apply Ent.skip))) | exact One.len (by (first | exact Len.nil | (apply Len.row; (· (repeat (first | apply Sel.here | apply Sel.there | apply Upd.here | apply Upd.there)))) | (apply Len.rs; exact Rs.mono (by assumption) (by (repeat' (first | exact Ent.refl | exact Ent.drop | exact Ent.appR | apply Ent.skip)))))))) | exact Cel.agg)) ?_); intro b)
 | ((show SLl _ _ _ _ _ (⟨⟨_, .alloc _, _, _, _, _⟩, _, _⟩ :: _) _ _ _); refine SLl.seq rfl rfl (SLo.alloc ?_); intro b)
 | ((show SLl _ _ _ _ _ (⟨⟨_, .build _ _, _, _, _, _⟩, _, _⟩ :: _) _ _ _); first
 | refine SLl.rdSeq rfl rfl (Rd.build rfl (by (repeat (first | exact CellsW.nil | (apply CellsW.cons; (· (first | exact Cel.one (by (first | exact One.lit rfl | exact One.lit (by assumption) | exact One.mono (by assumption) (by (repeat' (first | exact Ent.refl | exact Ent.drop | exact Ent.appR | apply Ent.skip))) | exact One.len (by (first | exact Len.nil | (apply Len.row; (· (repeat (first | apply Sel.here | apply Sel.there | apply Upd.here | apply Upd.there)))) | (apply Len.rs; exact Rs.mono (by assumption) (by (repeat' (first | exact Ent.refl | exact Ent.drop | exact Ent.appR | apply Ent.skip)))))))) | exact Cel.agg)))))) (by rfl)) ?_
 | refine SLl.pu rfl rfl rfl (Pu.build rfl rfl) ?_)
 | refine SLl.skip rfl rfl ?_))
 | (first
 | refine SLc.seq ?_
 | refine SLc.region rfl ?_
 | refine SLc.condT rfl ?_
 | refine SLc.condF rfl ?_
 | refine SLc.block ?_
 | refine SLc.skip ?_
 | refine SLc.exit ?_
 | refine SLc.ret ?_)))
          refine And.intro rfl (Exists.intro (j + 1) (And.intro (by omega) (And.intro (by omega) (And.intro (by (repeat' (first | exact trivial | apply And.intro | rfl))) .refl))))
        · rw [decide_eq_false (by omega : ¬ j ≤ t)] at hRj
          rw [if_neg (by omega : ¬ j < t)] at hUj
          have hbj := bools_at hRj
          (repeat' (first
 | (first
 | refine SLl.nil ?_
 | ((show SLl _ _ _ _ _ (⟨⟨_, _, _, _, _, _⟩, _, _⟩ :: _) _ _ _); first
 | refine SLl.ev rfl rfl rfl rfl ?_
 | ((show SLl _ _ _ _ _ (⟨⟨_, .load _ _, _, _, _, _⟩, _, _⟩ :: _) _ _ _); (first | refine SLl.rdSeq rfl rfl (Rd.load rfl rfl (by (first | (apply Reads.blk; (· (repeat (first | apply Sel.here | apply Sel.there | apply Upd.here | apply Upd.there))); (· rfl)) | (apply Reads.row; (· (repeat (first | apply Sel.here | apply Sel.there | apply Upd.here | apply Upd.there))); (· (first | rfl | assumption)); (· rfl)) | (apply Reads.rs; (· exact Rs.mono (by assumption) (by (repeat' (first | exact Ent.refl | exact Ent.drop | exact Ent.appR | apply Ent.skip)))); (· (first | rfl | assumption)); (· rfl))))) ?_ | refine SLl.rdSeq rfl rfl (Rd.loadN rfl rfl (by (first | exact ReadsN.mono (by assumption) (by (repeat' (first | exact Ent.refl | exact Ent.drop | exact Ent.appR | apply Ent.skip))) | (apply ReadsN.blk0; (· (repeat (first | apply Sel.here | apply Sel.there | apply Upd.here | apply Upd.there)))) | (apply ReadsN.row0; (· (repeat (first | apply Sel.here | apply Sel.there | apply Upd.here | apply Upd.there))); (· (first | rfl | assumption))) | (apply ReadsN.rs0; (· exact Rs.mono (by assumption) (by (repeat' (first | exact Ent.refl | exact Ent.drop | exact Ent.appR | apply Ent.skip)))); (· (first | rfl | assumption))))) (by rfl)) ?_))
 | ((show SLl _ _ _ _ _ (⟨⟨_, .fieldAddr _ _ _, _, _, _, _⟩, _, _⟩ :: _) _ _ _); (first | refine SLl.pu rfl rfl rfl (Pu.fieldAddr rfl) ?_ | refine SLl.rdSeq rfl rfl (Rd.fieldAddrEl rfl (by (first | exact Len.nil | (apply Len.row; (· (repeat (first | apply Sel.here | apply Sel.there | apply Upd.here | apply Upd.there)))) | (apply Len.rs; exact Rs.mono (by assumption) (by (repeat' (first | exact Ent.refl | exact Ent.drop | exact Ent.appR | apply Ent.skip)))))) (by omega)) ?_))
 | ((show SLl _ _ _ _ _ (⟨⟨_, .indexAddr _ _ _, _, _, _, _⟩, _, _⟩ :: _) _ _ _); (refine SLl.rdSeq rfl rfl (Rd.indexAddr rfl rfl (by (first | exact Len.nil | (apply Len.row; (· (repeat (first | apply Sel.here | apply Sel.there | apply Upd.here | apply Upd.there)))) | (apply Len.rs; exact Rs.mono (by assumption) (by (repeat' (first | exact Ent.refl | exact Ent.drop | exact Ent.appR | apply Ent.skip)))))) (by (first | exact ij0 | exact ij1 | exact ij2 | exact ij3 | exact ij4 | exact ij5 | rfl | exact (Int.toNat_of_nonneg (by omega)).symm)) (by omega)) ?_))
 | ((show SLl _ _ _ _ _ (⟨⟨_, .call ⟨.builtin .len, _, _⟩, _, _, _, _⟩, _, _⟩ :: _) _ _ _); refine SLl.rdSeq rfl rfl (Rd.len rfl (by (first | exact Len.nil | (apply Len.row; (· (repeat (first | apply Sel.here | apply Sel.there | apply Upd.here | apply Upd.there)))) | (apply Len.rs; exact Rs.mono (by assumption) (by (repeat' (first | exact Ent.refl | exact Ent.drop | exact Ent.appR | apply Ent.skip))))))) ?_)
 | ((show SLl _ _ _ _ _ (⟨⟨_, .binOp _ _ _ _ _, _, _, _, _⟩, _, _⟩ :: _) _ _ _); (first
 | refine SLl.pu rfl rfl rfl (Pu.add rfl rfl (IntWalk.i64_in _ (by omega))) ?_
 | refine SLl.pu rfl rfl rfl (Pu.sub rfl rfl (IntWalk.i64_in _ (by omega))) ?_
 | (refine SLl.cmp rfl rfl rfl rfl rfl rfl ?_ ?_ <;> intro hq <;> simp only [cmpP] at hq <;> try (first
 | exact (hq trivial).elim
 | (exfalso; omega)))
 | refine SLl.pu rfl rfl rfl (Pu.eqNilT rfl rfl) ?_
 | refine SLl.pu rfl rfl rfl (Pu.neNilF rfl rfl) ?_
 | refine SLl.rdSeq rfl rfl (Rd.eqNilF rfl rfl (by (first | exact Len.nil | (apply Len.row; (· (repeat (first | apply Sel.here | apply Sel.there | apply Upd.here | apply Upd.there)))) | (apply Len.rs; exact Rs.mono (by assumption) (by (repeat' (first | exact Ent.refl | exact Ent.drop | exact Ent.appR | apply Ent.skip)))))) (by assumption)) ?_
 | refine SLl.rdSeq rfl rfl (Rd.neNilT rfl rfl (by (first | exact Len.nil | (apply Len.row; (· (repeat (first | apply Sel.here | apply Sel.there | apply Upd.here | apply Upd.there)))) | (apply Len.rs; exact Rs.mono (by assumption) (by (repeat' (first | exact Ent.refl | exact Ent.drop | exact Ent.appR | apply Ent.skip)))))) (by assumption)) ?_
 | refine SLl.pu rfl rfl rfl (Pu.eqPtrNil rfl rfl) ?_
 | refine SLl.pu rfl rfl rfl (Pu.eqBool rfl rfl) ?_
 | refine SLl.pu rfl rfl rfl (Pu.neBool rfl rfl) ?_))
 | ((show SLl _ _ _ _ _ (⟨⟨_, .store _ _ _, _, _, _, _⟩, _, _⟩ :: _) _ _ _); (first | (refine SLl.seq0 rfl (SLo.store rfl rfl rfl (by (first | exact One.lit rfl | exact One.lit (by assumption) | exact One.mono (by assumption) (by (repeat' (first | exact Ent.refl | exact Ent.drop | exact Ent.appR | apply Ent.skip))) | exact One.len (by (first | exact Len.nil | (apply Len.row; (· (repeat (first | apply Sel.here | apply Sel.there | apply Upd.here | apply Upd.there)))) | (apply Len.rs; exact Rs.mono (by assumption) (by (repeat' (first | exact Ent.refl | exact Ent.drop | exact Ent.appR | apply Ent.skip)))))))) (by (first | (apply Wr.blk; (· (repeat (first | apply Sel.here | apply Sel.there | apply Upd.here | apply Upd.there))); (· exact Nat.le_of_ble_eq_true rfl)) | (apply Wr.row; (· (first | rfl | assumption)); (· exact Nat.le_of_ble_eq_true rfl); (· (repeat (first | apply Sel.here | apply Sel.there | apply Upd.here | apply Upd.there)))))) ?_)) | (refine SLl.seq0 rfl (SLo.storeN rfl rfl rfl (by (repeat' (first | exact trivial | (apply And.intro; (· (first | exact One.lit rfl | exact One.lit (by assumption) | exact One.mono (by assumption) (by (repeat' (first | exact Ent.refl | exact Ent.drop | exact Ent.appR | apply Ent.skip))) | exact One.len (by (first | exact Len.nil | (apply Len.row; (· (repeat (first | apply Sel.here | apply Sel.there | apply Upd.here | apply Upd.there)))) | (apply Len.rs; exact Rs.mono (by assumption) (by (repeat' (first | exact Ent.refl | exact Ent.drop | exact Ent.appR | apply Ent.skip)))))))))))) (Nat.le_of_ble_eq_true rfl) (by (repeat (first | apply Sel.here | apply Sel.there | apply Upd.here | apply Upd.there))) ?_))))
 | ((show SLl _ _ _ _ _ (⟨⟨_, .box _ _, _, _, _, _⟩, _, _⟩ :: _) _ _ _); refine SLl.seq rfl rfl (SLo.boxC rfl (by (first | exact Cel.one (by (first | exact One.lit rfl | exact One.lit (by assumption) | exact One.mono (by assumption) (by (repeat' (first | exact Ent.refl | exact Ent.drop | exact Ent.appR | apply Ent.skip))) | exact One.len (by (first | exact Len.nil | (apply Len.row; (· (repeat (first | apply Sel.here | apply Sel.there | apply Upd.here | apply Upd.there)))) | (apply Len.rs; exact Rs.mono (by assumption) (by (repeat' (first | exact Ent.refl | exact Ent.drop | exact Ent.appR | apply Ent.skip)))))))) | exact Cel.agg)) ?_); intro b)
 | ((show SLl _ _ _ _ _ (⟨⟨_, .alloc _, _, _, _, _⟩, _, _⟩ :: _) _ _ _); refine SLl.seq rfl rfl (SLo.alloc ?_); intro b)
 | ((show SLl _ _ _ _ _ (⟨⟨_, .build _ _, _, _, _, _⟩, _, _⟩ :: _) _ _ _); first
 | refine SLl.rdSeq rfl rfl (Rd.build rfl (by (repeat (first | exact CellsW.nil | (apply CellsW.cons; (· (first | exact Cel.one (by (first | exact One.lit rfl | exact One.lit (by assumption) | exact One.mono (by assumption) (by (repeat' (first | exact Ent.refl | exact Ent.drop | exact Ent.appR | apply Ent.skip))) | exact One.len (by (first | exact Len.nil | (apply Len.row; (· (repeat (first | apply Sel.here | apply Sel.there | apply Upd.here | apply Upd.there)))) | (apply Len.rs; exact Rs.mono (by assumption) (by (repeat' (first | exact Ent.refl | exact Ent.drop | exact Ent.appR | apply Ent.skip)))))))) | exact Cel.agg)))))) (by rfl)) ?_
 | refine SLl.pu rfl rfl rfl (Pu.build rfl rfl) ?_)
 | refine SLl.skip rfl rfl ?_))
 | (first
 | refine SLc.seq ?_
 | refine SLc.region rfl ?_
 | refine SLc.condT rfl ?_
 | refine SLc.condF rfl ?_
 | refine SLc.block ?_
 | refine SLc.skip ?_
 | refine SLc.exit ?_
 | refine SLc.ret ?_)))
          refine And.intro rfl (Exists.intro (j + 1) (And.intro (by omega) (And.intro (by omega) (And.intro (by (repeat' (first | exact trivial | apply And.intro | rfl))) .refl))))
      · (repeat' (first
 | (first
 | refine SLl.nil ?_
 | ((show SLl _ _ _ _ _ (⟨⟨_, _, _, _, _, _⟩, _, _⟩ :: _) _ _ _); first
 | refine SLl.ev rfl rfl rfl rfl ?_
 | ((show SLl _ _ _ _ _ (⟨⟨_, .load _ _, _, _, _, _⟩, _, _⟩ :: _) _ _ _); (first | refine SLl.rdSeq rfl rfl (Rd.load rfl rfl (by (first | (apply Reads.blk; (· (repeat (first | apply Sel.here | apply Sel.there | apply Upd.here | apply Upd.there))); (· rfl)) | (apply Reads.row; (· (repeat (first | apply Sel.here | apply Sel.there | apply Upd.here | apply Upd.there))); (· (first | rfl | assumption)); (· rfl)) | (apply Reads.rs; (· exact Rs.mono (by assumption) (by (repeat' (first | exact Ent.refl | exact Ent.drop | exact Ent.appR | apply Ent.skip)))); (· (first | rfl | assumption)); (· rfl))))) ?_ | refine SLl.rdSeq rfl rfl (Rd.loadN rfl rfl (by (first | exact ReadsN.mono (by assumption) (by (repeat' (first | exact Ent.refl | exact Ent.drop | exact Ent.appR | apply Ent.skip))) | (apply ReadsN.blk0; (· (repeat (first | apply Sel.here | apply Sel.there | apply Upd.here | apply Upd.there)))) | (apply ReadsN.row0; (· (repeat (first | apply Sel.here | apply Sel.there | apply Upd.here | apply Upd.there))); (· (first | rfl | assumption))) | (apply ReadsN.rs0; (· exact Rs.mono (by assumption) (by (repeat' (first | exact Ent.refl | exact Ent.drop | exact Ent.appR | apply Ent.skip)))); (· (first | rfl | assumption))))) (by rfl)) ?_))
 | ((show SLl _ _ _ _ _ (⟨⟨_, .fieldAddr _ _ _, _, _, _, _⟩, _, _⟩ :: _) _ _ _); (first | refine SLl.pu rfl rfl rfl (Pu.fieldAddr rfl) ?_ | refine SLl.rdSeq rfl rfl (Rd.fieldAddrEl rfl (by (first | exact Len.nil | (apply Len.row; (· (repeat (first | apply Sel.here | apply Sel.there | apply Upd.here | apply Upd.there)))) | (apply Len.rs; exact Rs.mono (by assumption) (by (repeat' (first | exact Ent.refl | exact Ent.drop | exact Ent.appR | apply Ent.skip)))))) (by omega)) ?_))
 | ((show SLl _ _ _ _ _ (⟨⟨_, .indexAddr _ _ _, _, _, _, _⟩, _, _⟩ :: _) _ _ _); (refine SLl.rdSeq rfl rfl (Rd.indexAddr rfl rfl (by (first | exact Len.nil | (apply Len.row; (· (repeat (first | apply Sel.here | apply Sel.there | apply Upd.here | apply Upd.there)))) | (apply Len.rs; exact Rs.mono (by assumption) (by (repeat' (first | exact Ent.refl | exact Ent.drop | exact Ent.appR | apply Ent.skip)))))) (by (first | exact ij0 | exact ij1 | exact ij2 | exact ij3 | exact ij4 | exact ij5 | rfl | exact (Int.toNat_of_nonneg (by omega)).symm)) (by omega)) ?_))
 | ((show SLl _ _ _ _ _ (⟨⟨_, .call ⟨.builtin .len, _, _⟩, _, _, _, _⟩, _, _⟩ :: _) _ _ _); refine SLl.rdSeq rfl rfl (Rd.len rfl (by (first | exact Len.nil | (apply Len.row; (· (repeat (first | apply Sel.here | apply Sel.there | apply Upd.here | apply Upd.there)))) | (apply Len.rs; exact Rs.mono (by assumption) (by (repeat' (first | exact Ent.refl | exact Ent.drop | exact Ent.appR | apply Ent.skip))))))) ?_)
 | ((show SLl _ _ _ _ _ (⟨⟨_, .binOp _ _ _ _ _, _, _, _, _⟩, _, _⟩ :: _) _ _ _); (first
 | refine SLl.pu rfl rfl rfl (Pu.add rfl rfl (IntWalk.i64_in _ (by omega))) ?_
 | refine SLl.pu rfl rfl rfl (Pu.sub rfl rfl (IntWalk.i64_in _ (by omega))) ?_
 | (refine SLl.cmp rfl rfl rfl rfl rfl rfl ?_ ?_ <;> intro hq <;> simp only [cmpP] at hq <;> try (first
 | exact (hq trivial).elim
 | (exfalso; omega)))
 | refine SLl.pu rfl rfl rfl (Pu.eqNilT rfl rfl) ?_
 | refine SLl.pu rfl rfl rfl (Pu.neNilF rfl rfl) ?_
 | refine SLl.rdSeq rfl rfl (Rd.eqNilF rfl rfl (by (first | exact Len.nil | (apply Len.row; (· (repeat (first | apply Sel.here | apply Sel.there | apply Upd.here | apply Upd.there)))) | (apply Len.rs; exact Rs.mono (by assumption) (by (repeat' (first | exact Ent.refl | exact Ent.drop | exact Ent.appR | apply Ent.skip)))))) (by assumption)) ?_
 | refine SLl.rdSeq rfl rfl (Rd.neNilT rfl rfl (by (first | exact Len.nil | (apply Len.row; (· (repeat (first | apply Sel.here | apply Sel.there | apply Upd.here | apply Upd.there)))) | (apply Len.rs; exact Rs.mono (by assumption) (by (repeat' (first | exact Ent.refl | exact Ent.drop | exact Ent.appR | apply Ent.skip)))))) (by assumption)) ?_
 | refine SLl.pu rfl rfl rfl (Pu.eqPtrNil rfl rfl) ?_
 | refine SLl.pu rfl rfl rfl (Pu.eqBool rfl rfl) ?_
 | refine SLl.pu rfl rfl rfl (Pu.neBool rfl rfl) ?_))
 | ((show SLl _ _ _ _ _ (⟨⟨_, .store _ _ _, _, _, _, _⟩, _, _⟩ :: _) _ _ _); (first | (refine SLl.seq0 rfl (SLo.store rfl rfl rfl (by (first | exact One.lit rfl | exact One.lit (by assumption) | exact One.mono (by assumption) (by (repeat' (first | exact Ent.refl | exact Ent.drop | exact Ent.appR | apply Ent.skip))) | exact One.len (by (first | exact Len.nil | (apply Len.row; (· (repeat (first | apply Sel.here | apply Sel.there | apply Upd.here | apply Upd.there)))) | (apply Len.rs; exact Rs.mono (by assumption) (by (repeat' (first | exact Ent.refl | exact Ent.drop | exact Ent.appR | apply Ent.skip)))))))) (by (first | (apply Wr.blk; (· (repeat (first | apply Sel.here | apply Sel.there | apply Upd.here | apply Upd.there))); (· exact Nat.le_of_ble_eq_true rfl)) | (apply Wr.row; (· (first | rfl | assumption)); (· exact Nat.le_of_ble_eq_true rfl); (· (repeat (first | apply Sel.here | apply Sel.there | apply Upd.here | apply Upd.there)))))) ?_)) | (refine SLl.seq0 rfl (SLo.storeN rfl rfl rfl (by (repeat' (first | exact trivial | (apply And.intro; (· (first | exact One.lit rfl | exact One.lit (by assumption) | exact One.mono (by assumption) (by (repeat' (first | exact Ent.refl | exact Ent.drop | exact Ent.appR | apply Ent.skip))) | exact One.len (by (first | exact Len.nil | (apply Len.row; (· (repeat (first | apply Sel.here | apply Sel.there | apply Upd.here | apply Upd.there)))) | (apply Len.rs; exact Rs.mono (by assumption) (by (repeat' (first | exact Ent.refl | exact Ent.drop | exact Ent.appR | apply Ent.skip)))))))))))) (Nat.le_of_ble_eq_true rfl) (by (repeat (first | apply Sel.here | apply Sel.there | apply Upd.here | apply Upd.there))) ?_))))
 | ((show SLl _ _ _ _ _ (⟨⟨_, .box _ _, _, _, _, _⟩, _, _⟩ :: _) _ _ _); refine SLl.seq rfl rfl (SLo.boxC rfl (by (first | exact Cel.one (by (first | exact One.lit rfl | exact One.lit (by assumption) | exact One.mono (by assumption) (by (repeat' (first | exact Ent.refl | exact Ent.drop | exact Ent.appR | apply Ent.skip))) | exact One.len (by (first | exact Len.nil | (apply Len.row; (· (repeat (first | apply Sel.here | apply Sel.there | apply Upd.here | apply Upd.there)))) | (apply Len.rs; exact Rs.mono (by assumption) (by (repeat' (first | exact Ent.refl | exact Ent.drop | exact Ent.appR | apply Ent.skip)))))))) | exact Cel.agg)) ?_); intro b)
 | ((show SLl _ _ _ _ _ (⟨⟨_, .alloc _, _, _, _, _⟩, _, _⟩ :: _) _ _ _); refine SLl.seq rfl rfl (SLo.alloc ?_); intro b)
 | ((show SLl _ _ _ _ _ (⟨⟨_, .build _ _, _, _, _, _⟩, _, _⟩ :: _) _ _ _); first
 | refine SLl.rdSeq rfl rfl (Rd.build rfl (by (repeat (first | exact CellsW.nil | (apply CellsW.cons; (· (first | exact Cel.one (by (first | exact One.lit rfl | exact One.lit (by assumption) | exact One.mono (by assumption) (by (repeat' (first | exact Ent.refl | exact Ent.drop | exact Ent.appR | apply Ent.skip))) | exact One.len (by (first | exact Len.nil | (apply Len.row; (· (repeat (first | apply Sel.here | apply Sel.there | apply Upd.here | apply Upd.there)))) | (apply Len.rs; exact Rs.mono (by assumption) (by (repeat' (first | exact Ent.refl | exact Ent.drop | exact Ent.appR | apply Ent.skip)))))))) | exact Cel.agg)))))) (by rfl)) ?_
 | refine SLl.pu rfl rfl rfl (Pu.build rfl rfl) ?_)
 | refine SLl.skip rfl rfl ?_))
 | (first
 | refine SLc.seq ?_
 | refine SLc.region rfl ?_
 | refine SLc.condT rfl ?_
 | refine SLc.condF rfl ?_
 | refine SLc.block ?_
 | refine SLc.skip ?_
 | refine SLc.exit ?_
 | refine SLc.ret ?_)))
        refine And.intro rfl (Exists.intro _ (Exists.intro _ (And.intro rfl (And.intro .drop rfl))))
end Go.Sl
