/- backstitchlaw15: what the guard Small lets in. -/
import Derived.Test.YtloeicnadchkpaaTask15c
namespace Go.Sl
open Go.Proofs
attribute [local irreducible] SLc SLl SLo SLf Pu Rd

abbrev Prg := Value × List Deed
structure DeedX (W : World) (d : Deed) : Prop where
  rs : Rs W [] d.wv 1 (u8L d.wake)
  len : d.wake.length ≤ 140737488355328
  wake : ∀ n ∈ d.wake, n < 256
  ans : d.ans < 256
  one : d.wv.oneCell' = true
structure PrgX (W : World) (p : Prg) : Prop where
  rs : Rs W [] p.1 2 (p.2.map Deed.cells)
  len : p.2.length ≤ 140737488355328
  ds : ∀ d ∈ p.2, DeedX W d
  one : p.1.oneCell' = true
def pcells (D : List Prg) : List (List Value) := D.map fun p => [p.1]
theorem pcells_len {D : List Prg} : (pcells D).length = D.length := by simp [pcells]
theorem pcells_at {D : List Prg} {i : Nat} {p : Prg} (h : D[i]? = some p) : (pcells D)[i]? = some [p.1] := by simp [pcells, h]
def wsum (ds : List Deed) (k : Nat) : Nat := ((ds.take k).map fun d => d.wake.length).sum
theorem wsum_succ {ds : List Deed} {k : Nat} {d : Deed} (h : ds[k]? = some d) : wsum ds (k + 1) = wsum ds k + d.wake.length := by
  obtain ⟨hk, rfl⟩ := List.getElem?_eq_some_iff.1 h
  unfold wsum
  rw [List.take_succ_eq_append_getElem hk, List.map_append, List.sum_append]
  simp
def psize (p : Prg) : Nat := p.2.length + wsum p.2 p.2.length
def dsum (D : List Prg) (i : Nat) : Nat := ((D.take i).map psize).sum
theorem dsum_succ {D : List Prg} {i : Nat} {p : Prg} (h : D[i]? = some p) : dsum D (i + 1) = dsum D i + (p.2.length + wsum p.2 p.2.length) := by
  obtain ⟨hk, rfl⟩ := List.getElem?_eq_some_iff.1 h
  unfold dsum
  rw [List.take_succ_eq_append_getElem hk, List.map_append, List.sum_append]
  simp [psize]
set_option maxHeartbeats 1000000 in
theorem Small15_ok (W : World) (F : List Chunk) (lv : Value) (D : List Prg) (hl : Rs W [] lv 1 (pcells D)) (hD : ∀ p ∈ D, PrgX W p) (hlen : D.length ≤ 140737488355328) :
    SLf Try.prog W 50 [lv] F (fun v σ => (∃ b, v = .bool b ∧ (b = true → D.length ≤ 40 ∧ dsum D D.length ≤ 2000)) ∧ σ = F) := by
  have hpl := @pcells_len D
  refine SLf.enter Try.func50 rfl (Nat.le_of_ble_eq_true rfl) ?_
  (repeat' (first | (first | refine SLl.nil ?_ | ((show SLl _ _ _ _ _ (⟨⟨_, _, _, _, _, _⟩, _, _⟩ :: _) _ _ _); refine SLl.ev rfl rfl rfl rfl ?_)) | (first | refine SLc.seq ?_ | refine SLc.region rfl ?_ | refine SLc.block ?_)))
  refine SLc.loop (ι := Nat × Int) (fun s => [(4, .int .i64 s.1), (3, .int .i64 s.2), (0, lv)]) (fun _ => F) (fun s => s.1 ≤ D.length ∧ (D.length ≤ 40 → 0 ≤ s.2 ∧ s.2 ≤ s.1 * 281474976710656 ∧ (s.2 ≤ 2000 → (dsum D s.1 : Int) ≤ s.2))) (fun s => D.length - s.1) (0, 0) ⟨Nat.zero_le _, fun _ => ⟨by omega, by dsimp only; omega, fun _ => by simp [dsum]⟩⟩ (by (repeat' (first | exact trivial | apply And.intro | rfl))) .refl ?_
  rintro ⟨i, n⟩ ⟨hi, hn⟩
  dsimp only at hi hn ⊢
  by_cases hlt : i < D.length
  · have hp : D[i]? = some D[i] := List.getElem?_eq_getElem hlt
    have hX := hD _ (List.getElem_mem hlt)
    generalize D[i] = p at hp hX
    have hpc := pcells_at hp
    have hds := dsum_succ hp
    have hpr := hX.rs
    have hplen := hX.len
    have hcl : (p.2.map Deed.cells).length = p.2.length := List.length_map ..
    (repeat' (first | (first | refine SLl.nil ?_ | ((show SLl _ _ _ _ _ (⟨⟨_, _, _, _, _, _⟩, _, _⟩ :: _) _ _ _); first | refine SLl.ev rfl rfl rfl rfl ?_ | ((show SLl _ _ _ _ _ (⟨⟨_, .load _ _, _, _, _, _⟩, _, _⟩ :: _) _ _ _); (refine SLl.rdSeq rfl rfl (Rd.load rfl rfl (by ((apply Reads.rs; (· exact Rs.mono (by assumption) (by (repeat' (exact Ent.drop)))); (· (assumption)); (· rfl))))) ?_)) | ((show SLl _ _ _ _ _ (⟨⟨_, .indexAddr _ _ _, _, _, _, _⟩, _, _⟩ :: _) _ _ _); (refine SLl.rdSeq rfl rfl (Rd.indexAddr rfl rfl (by ((apply Len.rs; exact Rs.mono (by assumption) (by (repeat' (exact Ent.drop)))))) (by (rfl)) (by omega)) ?_)) | ((show SLl _ _ _ _ _ (⟨⟨_, .call ⟨.builtin .len, _, _⟩, _, _, _, _⟩, _, _⟩ :: _) _ _ _); refine SLl.rdSeq rfl rfl (Rd.len rfl (by ((apply Len.rs; exact Rs.mono (by assumption) (by (repeat' (exact Ent.drop))))))) ?_) | ((show SLl _ _ _ _ _ (⟨⟨_, .binOp _ _ _ _ _, _, _, _, _⟩, _, _⟩ :: _) _ _ _); ((refine SLl.cmp rfl rfl rfl rfl rfl rfl ?_ ?_ <;> intro hq <;> simp only [cmpP] at hq <;> try ((exfalso; omega))))))) | (first | refine SLc.seq ?_ | refine SLc.region rfl ?_ | refine SLc.condT rfl ?_ | refine SLc.block ?_ | refine SLc.skip ?_)))
    refine SLl.pu rfl rfl rfl (Pu.add rfl rfl rfl) ?_
    have hn1 : D.length ≤ 40 → IntKind.i64.wrap (n + ((p.2.map Deed.cells).length : Int)) = n + (p.2.length : Int) := fun h => by
      obtain ⟨a, b, _⟩ := hn h
      rw [hcl]
      exact IntWalk.i64_in _ (by omega)
    generalize IntKind.i64.wrap (n + ((p.2.map Deed.cells).length : Int)) = n1 at hn1 ⊢
    (repeat' (first | (first | refine SLl.nil ?_ | ((show SLl _ _ _ _ _ (⟨⟨_, _, _, _, _, _⟩, _, _⟩ :: _) _ _ _); refine SLl.ev rfl rfl rfl rfl ?_)) | (first | refine SLc.seq ?_ | refine SLc.region rfl ?_ | refine SLc.block ?_)))
    refine SLc.loop (ι := Nat × Int) (fun s => [(5, .int .i64 s.1), (3, .int .i64 s.2), (4, .int .i64 i), (0, lv)]) (fun _ => F) (fun s => s.1 ≤ p.2.length ∧ (D.length ≤ 40 → 0 ≤ s.2 ∧ s.2 ≤ ((i : Int) + 1) * 281474976710656 ∧ (s.2 ≤ 2000 → ((dsum D i + p.2.length + wsum p.2 s.1 : Nat) : Int) ≤ s.2))) (fun s => p.2.length - s.1) (0, n1) ⟨Nat.zero_le _, fun h => ?_⟩ (by (repeat' (first | exact trivial | apply And.intro | rfl))) .refl ?_
    · obtain ⟨a, b, c⟩ := hn h
      have := hn1 h
      refine ⟨by dsimp only; omega, by dsimp only; omega, fun h2 => ?_⟩
      dsimp only at h2 ⊢
      have h0 : wsum p.2 0 = 0 := by simp [wsum]
      omega
    rintro ⟨k, m⟩ ⟨hk, hm⟩
    dsimp only at hk hm ⊢
    by_cases hkl : k < p.2.length
    · have hd : p.2[k]? = some p.2[k] := List.getElem?_eq_getElem hkl
      have hdX := hX.ds _ (List.getElem_mem hkl)
      generalize p.2[k] = d at hd hdX
      have hws := wsum_succ hd
      have hdc : (p.2.map Deed.cells)[k]? = some [d.wv, .int .u8 (d.ans : Int)] := by rw [List.getElem?_map, hd]; rfl
      have hdr := hdX.rs
      have hdl := hdX.len
      have hul := @u8L_len d.wake
      (repeat' (first | (first | refine SLl.nil ?_ | ((show SLl _ _ _ _ _ (⟨⟨_, _, _, _, _, _⟩, _, _⟩ :: _) _ _ _); first | refine SLl.ev rfl rfl rfl rfl ?_ | ((show SLl _ _ _ _ _ (⟨⟨_, .load _ _, _, _, _, _⟩, _, _⟩ :: _) _ _ _); (refine SLl.rdSeq rfl rfl (Rd.load rfl rfl (by ((apply Reads.rs; (· exact Rs.mono (by assumption) (by (repeat' (exact Ent.drop)))); (· (assumption)); (· rfl))))) ?_)) | ((show SLl _ _ _ _ _ (⟨⟨_, .fieldAddr _ _ _, _, _, _, _⟩, _, _⟩ :: _) _ _ _); (refine SLl.rdSeq rfl rfl (Rd.fieldAddrEl rfl (by ((apply Len.rs; exact Rs.mono (by assumption) (by (repeat' (exact Ent.drop)))))) (by omega)) ?_)) | ((show SLl _ _ _ _ _ (⟨⟨_, .indexAddr _ _ _, _, _, _, _⟩, _, _⟩ :: _) _ _ _); (refine SLl.rdSeq rfl rfl (Rd.indexAddr rfl rfl (by ((apply Len.rs; exact Rs.mono (by assumption) (by (repeat' (exact Ent.drop)))))) (by (rfl)) (by omega)) ?_)) | ((show SLl _ _ _ _ _ (⟨⟨_, .call ⟨.builtin .len, _, _⟩, _, _, _, _⟩, _, _⟩ :: _) _ _ _); refine SLl.rdSeq rfl rfl (Rd.len rfl (by ((apply Len.rs; exact Rs.mono (by assumption) (by (repeat' (exact Ent.drop))))))) ?_) | ((show SLl _ _ _ _ _ (⟨⟨_, .binOp _ _ _ _ _, _, _, _, _⟩, _, _⟩ :: _) _ _ _); (first | refine SLl.pu rfl rfl rfl (Pu.add rfl rfl (IntWalk.i64_in _ (by omega))) ?_ | (refine SLl.cmp rfl rfl rfl rfl rfl rfl ?_ ?_ <;> intro hq <;> simp only [cmpP] at hq <;> try ((exfalso; omega))))))) | (first | refine SLc.seq ?_ | refine SLc.region rfl ?_ | refine SLc.condT rfl ?_ | refine SLc.condF rfl ?_ | refine SLc.block ?_ | refine SLc.skip ?_ | refine SLc.exit ?_)))
      · refine SLl.pu rfl rfl rfl (Pu.add rfl rfl rfl) ?_
        have hm1 : D.length ≤ 40 → IntKind.i64.wrap (m + ((u8L d.wake).length : Int)) = m + (d.wake.length : Int) := fun h => by
          obtain ⟨a, b, _⟩ := hm h
          rw [hul]
          exact IntWalk.i64_in _ (by omega)
        generalize IntKind.i64.wrap (m + ((u8L d.wake).length : Int)) = m1 at hm1 ⊢
        (repeat' (first | (first | refine SLl.nil ?_ | ((show SLl _ _ _ _ _ (⟨⟨_, _, _, _, _, _⟩, _, _⟩ :: _) _ _ _); first | refine SLl.ev rfl rfl rfl rfl ?_ | ((show SLl _ _ _ _ _ (⟨⟨_, .binOp _ _ _ _ _, _, _, _, _⟩, _, _⟩ :: _) _ _ _); (refine SLl.pu rfl rfl rfl (Pu.add rfl rfl (IntWalk.i64_in _ (by omega))) ?_)))) | (refine SLc.region rfl ?_)))
        refine And.intro rfl (Exists.intro (k + 1, m1) (And.intro ⟨by dsimp only; omega, fun h => ?_⟩ (And.intro (by dsimp only; omega) (And.intro (by (repeat' (first | exact trivial | apply And.intro | rfl))) .refl))))
        obtain ⟨a, b, c⟩ := hm h
        have := hm1 h
        refine ⟨by dsimp only; omega, by dsimp only; omega, fun h2 => ?_⟩
        dsimp only at h2 ⊢
        omega
      · refine And.intro rfl (Exists.intro (i + 1, m) (And.intro ⟨by dsimp only; omega, fun h => ?_⟩ (And.intro (by dsimp only; omega) (And.intro (by (repeat' (first | exact trivial | apply And.intro | rfl))) .refl))))
        obtain ⟨a, b, c⟩ := hm h
        refine ⟨by dsimp only; omega, by dsimp only; omega, fun h2 => ?_⟩
        dsimp only at h2
        omega
    · have hke : k = p.2.length := by omega
      subst hke
      (repeat' (first | (first | refine SLl.nil ?_ | ((show SLl _ _ _ _ _ (⟨⟨_, _, _, _, _, _⟩, _, _⟩ :: _) _ _ _); first | refine SLl.ev rfl rfl rfl rfl ?_ | ((show SLl _ _ _ _ _ (⟨⟨_, .load _ _, _, _, _, _⟩, _, _⟩ :: _) _ _ _); (refine SLl.rdSeq rfl rfl (Rd.load rfl rfl (by ((apply Reads.rs; (· exact Rs.mono (by assumption) (by (repeat' (exact Ent.drop)))); (· (assumption)); (· rfl))))) ?_)) | ((show SLl _ _ _ _ _ (⟨⟨_, .indexAddr _ _ _, _, _, _, _⟩, _, _⟩ :: _) _ _ _); (refine SLl.rdSeq rfl rfl (Rd.indexAddr rfl rfl (by ((apply Len.rs; exact Rs.mono (by assumption) (by (repeat' (exact Ent.drop)))))) (by (rfl)) (by omega)) ?_)) | ((show SLl _ _ _ _ _ (⟨⟨_, .call ⟨.builtin .len, _, _⟩, _, _, _, _⟩, _, _⟩ :: _) _ _ _); refine SLl.rdSeq rfl rfl (Rd.len rfl (by ((apply Len.rs; exact Rs.mono (by assumption) (by (repeat' (exact Ent.drop))))))) ?_) | ((show SLl _ _ _ _ _ (⟨⟨_, .binOp _ _ _ _ _, _, _, _, _⟩, _, _⟩ :: _) _ _ _); (first | refine SLl.pu rfl rfl rfl (Pu.add rfl rfl (IntWalk.i64_in _ (by omega))) ?_ | (refine SLl.cmp rfl rfl rfl rfl rfl rfl ?_ ?_ <;> intro hq <;> simp only [cmpP] at hq <;> try ((exfalso; omega))))) | refine SLl.skip rfl rfl ?_)) | (first | refine SLc.seq ?_ | refine SLc.region rfl ?_ | refine SLc.condF rfl ?_ | refine SLc.exit ?_)))
      refine And.intro rfl (Exists.intro (i + 1, m) (And.intro ⟨by dsimp only; omega, fun h => ?_⟩ (And.intro (by dsimp only; omega) (And.intro (by (repeat' (first | exact trivial | apply And.intro | rfl))) .refl))))
      obtain ⟨a, b, c⟩ := hm h
      refine ⟨by dsimp only; omega, by dsimp only; omega, fun h2 => ?_⟩
      dsimp only at h2 ⊢
      have := c h2
      omega
  · have hie : i = D.length := by omega
    subst hie
    (repeat' (first | (first | refine SLl.nil ?_ | ((show SLl _ _ _ _ _ (⟨⟨_, _, _, _, _, _⟩, _, _⟩ :: _) _ _ _); first | refine SLl.ev rfl rfl rfl rfl ?_ | ((show SLl _ _ _ _ _ (⟨⟨_, .call ⟨.builtin .len, _, _⟩, _, _, _, _⟩, _, _⟩ :: _) _ _ _); refine SLl.rdSeq rfl rfl (Rd.len rfl (by ((apply Len.rs; exact Rs.mono (by assumption) (by (repeat' (exact Ent.drop))))))) ?_) | ((show SLl _ _ _ _ _ (⟨⟨_, .binOp _ _ _ _ _, _, _, _, _⟩, _, _⟩ :: _) _ _ _); ((refine SLl.cmp rfl rfl rfl rfl rfl rfl ?_ ?_ <;> intro hq <;> simp only [cmpP] at hq <;> try ((exfalso; omega))))) | refine SLl.skip rfl rfl ?_)) | (first | refine SLc.seq ?_ | refine SLc.region rfl ?_ | refine SLc.condF rfl ?_ | refine SLc.exit ?_ | refine SLc.ret ?_)))
    all_goals
      refine And.intro rfl (Exists.intro _ (Exists.intro _ (And.intro rfl (And.intro .refl (And.intro (Exists.intro _ (And.intro rfl ?_)) rfl)))))
      intro hb
      first
        | (cases hb; done)
        | (obtain ⟨a, b, c⟩ := hn (by omega)
           exact ⟨by omega, by have := c (by omega); omega⟩)
end Go.Sl
