/- The reference's lock: Take, Leave. -/
import Derived.Test.YtloeicnadchkpaaSL13
import Derived.Test.YtloeicnadchkpaaLock
namespace Go.Sl
open Go.Proofs Go.RowKit
section
variable {P : Program} {W : World} {n : Nat} {e : Tm} {σ F : List Chunk}
variable {dst : Option Tmp} {ty : TypeId} {pos : String} {aft : Array Edge} {g : Option (Nat × Bool)}
/-- What a slice is behind its first elements. -/
def sliceV (v : Value) (lo size : Nat) : Value := match v with | .slice a n c => sliced a lo n c size | v => v
theorem rowSat.sliced {w : World} {v : Value} {ty lo size : Nat} {es : List (List Value)} (h : rowSat w v ty size es) (hlo : lo ≤ es.length) (hl0 : 0 < es.length) : rowSat w (sliceV v lo size) ty size (es.drop lo) ∧ sliceV v lo size ≠ .slice none 0 0 := by
  obtain ⟨hel, h2⟩ := h
  rcases h2 with ⟨_, h0⟩ | ⟨g', off, cap, cur, rfl, hg, hlc, hcm, hsz, ht⟩
  · rw [h0] at hl0; simp at hl0
  obtain ⟨off', hsl, hoff⟩ := sliced_eq (g := g') (off := off) (len := es.length) (cap := cap) (lo := lo) (size := size)
  have hv : sliceV (.slice (some ⟨g', off, none⟩) es.length cap) lo size = .slice (some ⟨g', off', none⟩) (es.length - lo) (cap - lo) := hsl
  rw [hv]
  refine ⟨⟨fun c hc => hel c (List.mem_of_mem_drop hc), .inr ⟨g', off', cap - lo, cur, by rw [List.length_drop], hg, by rw [List.length_drop]; omega, by omega, ?_, ?_⟩⟩, by simp⟩
  · rcases hoff with ⟨rfl, rfl⟩ | rfl
    · simp; exact Nat.le_trans (Nat.le_add_right _ _) hsz
    · rw [Nat.sub_mul]
      have : lo * size ≤ cap * size := Nat.mul_le_mul_right _ (by omega)
      omega
  · rw [List.length_drop]
    rcases hoff with ⟨rfl, rfl⟩ | rfl
    · have : es.length - lo = 0 := by omega
      have hd : es.drop lo = [] := List.drop_eq_nil_of_le (by omega)
      rw [hd, this]
      simp
    · have hfd : (es.drop lo).flatten = es.flatten.drop (lo * size) := by
        have h1 : es.flatten = (es.take lo).flatten ++ (es.drop lo).flatten := by rw [← List.flatten_append, List.take_append_drop]
        have h2 : (es.take lo).flatten.length = lo * size := by
          rw [flatten_len (fun c hc => hel c (List.mem_of_mem_take hc)), List.length_take, Nat.min_eq_left hlo]
        rw [h1, ← h2, List.drop_left]
      rw [hfd, ← ht, List.drop_take, List.drop_drop, Nat.sub_mul]
theorem Src.sat {v : Value} {ty size : Nat} {ys : List (List Value)} (h : ∀ w, St W σ w → rowSat w v ty size ys) (hl : ∀ c ∈ ys, c.length = size) : Src W σ v size ys := by
  refine ⟨hl, fun w hw => ?_⟩
  have hr := h w hw
  rcases hr.2 with h2 | ⟨g, off, cap, cur, hv, _⟩
  · exact .inl h2
  · refine .inr ⟨⟨g, off, none⟩, cap, hv, fun j x hj => ?_⟩
    obtain ⟨cs, hpos, h1, h2⟩ := flatten_at hl hj
    have := hr.cell h1 h2
    rw [hv, el_of_flat] at this
    rw [add_plain]
    have e : j / size * size + j % size = j := by rw [Nat.mul_comm]; exact Nat.div_add_mod j size
    rw [e] at this
    exact this
theorem Src.sliced {v : Value} {ty lo size : Nat} {es : List (List Value)} (hs : Sel (.row v ty size es) σ F) (hlo : lo ≤ es.length) (hl0 : 0 < es.length) (hl : ∀ c ∈ es, c.length = size) : Src W σ (sliceV v lo size) size (es.drop lo) :=
  Src.sat (ty := ty) (fun _ hw => (rowSat.sliced (sel_sat hs hw) hlo hl0).1) (fun c hc => hl c (List.mem_of_mem_drop hc))
theorem Rd.slice {t el : TypeId} {x y : Operand} {v : Value} {k' : IntKind} {lo size : Nat} {es : List (List Value)} {d : TypeDesc} {s b b' : Nat} {z z' : List Value} [h : Ty P t (.slice el) s b z] [h' : Ty P el d size b' z']
    (hx : Tm.ev e x = some v) (hy : Tm.ev e y = some (.int k' (lo : Int))) (hsel : Sel (.row v el size es) σ F) (hlo : lo ≤ es.length) (hl0 : 0 < es.length) : Rd P W n ⟨dst, .slice t x (some y) none none, ty, pos, aft, g⟩ e σ (sliceV v lo size) := by
  intro ds a ha w hs
  have hsat : rowSat w v el size es := sel_sat hsel hs
  obtain ⟨hel, h2⟩ := hsat
  rcases h2 with ⟨_, h0⟩ | ⟨g', off, cap, cur, rfl, hg, hlc, hcm, hsz, ht⟩
  · rw [h0] at hl0; simp at hl0
  have hpe : P.underlying t = some (.slice (P.elem t)) := by simp [Program.elem, h.u]
  have hee : P.elem t = el := by simp [Program.elem, h.u]
  have h1 := run_slice_l (P := P) (w := w) t (some ⟨g', off, none⟩) es.length cap hpe k' (lo : Int) (by omega) (by omega)
  rw [hee, h'.sizeOf] at h1
  simp only [Result.andThen_ok, Int.toNat_natCast] at h1
  simp only [execOp, ha.ev hx, Option.map_some, Option.map_none, ha.ev hy, run_sliceAt_slice (P := P) (w := w) t _ _ _ _ hpe, h1, Sem.run_bind, Result.andThen_ok, Sem.run_pure]
  rfl
end
attribute [local irreducible] SLc SLl SLo SLf Pu Rd

/-- The memory of the reference's lock. -/
def refC (rb : Nat) (qv : Value) (o : Int) (q : List Int) : List Chunk := [.blk rb 124 [.int .i64 o, qv], .row qv 3 1 (ints q)]
def rtakeM (o : Int) (q : List Int) (id : Int) : Bool × Int × List Int := if o < 0 ∨ o = id then (true, id, q) else if id ∈ q then (false, o, q) else (false, o, q ++ [id])
theorem RTake_ok (W : World) (F : List Chunk) (rb : Nat) (qv : Value) (o : Int) (q : List Int) (id : Int) (hl : q.length ≤ 100000) :
    SLf Try.prog W 77 [ptr rb, .int .i64 id] (refC rb qv o q ++ F) (fun r σ => ∃ qv', r = .bool (rtakeM o q id).1 ∧ σ = refC rb qv' (rtakeM o q id).2.1 (rtakeM o q id).2.2 ++ F) := by
  have hil := @ints_len q
  refine SLf.enter Try.func77 rfl (Nat.le_of_ble_eq_true rfl) ?_
  simp only [refC, List.cons_append, List.nil_append]
  by_cases ho : o < 0 ∨ o = id
  · have ht : rtakeM o q id = (true, id, q) := by simp [rtakeM, ho]
    rw [ht]
    by_cases h0 : o < 0
    all_goals
      (repeat' (first | (first | refine SLl.nil ?_ | ((show SLl _ _ _ _ _ (⟨⟨_, _, _, _, _, _⟩, _, _⟩ :: _) _ _ _); first | refine SLl.ev rfl rfl rfl rfl ?_ | ((show SLl _ _ _ _ _ (⟨⟨_, .load _ _, _, _, _, _⟩, _, _⟩ :: _) _ _ _); (refine SLl.rdSeq rfl rfl (Rd.load rfl rfl (by ((apply Reads.blk; (· (repeat (apply Sel.here))); (· rfl))))) ?_)) | ((show SLl _ _ _ _ _ (⟨⟨_, .fieldAddr _ _ _, _, _, _, _⟩, _, _⟩ :: _) _ _ _); (refine SLl.pu rfl rfl rfl (Pu.fieldAddr rfl) ?_)) | ((show SLl _ _ _ _ _ (⟨⟨_, .binOp _ _ _ _ _, _, _, _, _⟩, _, _⟩ :: _) _ _ _); ((refine SLl.cmp rfl rfl rfl rfl rfl rfl ?_ ?_ <;> intro hq <;> simp only [cmpP] at hq <;> try ((exfalso; omega))))) | ((show SLl _ _ _ _ _ (⟨⟨_, .store _ _ _, _, _, _, _⟩, _, _⟩ :: _) _ _ _); ((refine SLl.seq0 rfl (SLo.store rfl rfl rfl (by (exact One.lit rfl)) (by ((apply Wr.blk; (· (repeat (apply Upd.here))); (· exact Nat.le_of_ble_eq_true rfl)))) ?_)))) | refine SLl.skip rfl rfl ?_)) | (first | refine SLc.seq ?_ | refine SLc.region rfl ?_ | refine SLc.condT rfl ?_ | refine SLc.ret ?_)))
      exact And.intro rfl (Exists.intro _ (Exists.intro _ (And.intro rfl (And.intro .refl (Exists.intro qv (And.intro rfl rfl))))))
  · have h0 : ¬ o < 0 := fun h => ho (.inl h)
    have h1 : ¬ o = id := fun h => ho (.inr h)
    (repeat' (first | (first | refine SLl.nil ?_ | ((show SLl _ _ _ _ _ (⟨⟨_, _, _, _, _, _⟩, _, _⟩ :: _) _ _ _); first | refine SLl.ev rfl rfl rfl rfl ?_ | ((show SLl _ _ _ _ _ (⟨⟨_, .load _ _, _, _, _, _⟩, _, _⟩ :: _) _ _ _); (refine SLl.rdSeq rfl rfl (Rd.load rfl rfl (by ((apply Reads.blk; (· (repeat (apply Sel.here))); (· rfl))))) ?_)) | ((show SLl _ _ _ _ _ (⟨⟨_, .fieldAddr _ _ _, _, _, _, _⟩, _, _⟩ :: _) _ _ _); (refine SLl.pu rfl rfl rfl (Pu.fieldAddr rfl) ?_)) | ((show SLl _ _ _ _ _ (⟨⟨_, .binOp _ _ _ _ _, _, _, _, _⟩, _, _⟩ :: _) _ _ _); ((refine SLl.cmp rfl rfl rfl rfl rfl rfl ?_ ?_ <;> intro hq <;> simp only [cmpP] at hq <;> try ((exfalso; omega))))))) | (first | refine SLc.seq ?_ | refine SLc.region rfl ?_ | refine SLc.condF rfl ?_ | refine SLc.block ?_ | refine SLc.skip ?_)))
    refine SLc.loop (ι := Nat) (fun k => [(5, .int .i64 k), (1, .int .i64 id), (0, ptr rb)]) (fun _ => .blk rb 124 [.int .i64 o, qv] :: .row qv 3 1 (ints q) :: F) (fun k => k ≤ q.length ∧ ∀ j x, j < k → q[j]? = some x → x ≠ id) (fun k => q.length - k) 0 ⟨Nat.zero_le _, by omega⟩ (by (repeat' (first | exact trivial | apply And.intro | rfl))) .refl ?_
    rintro k ⟨hk, hno⟩
    by_cases hlt : k < q.length
    · have hx : q[k]? = some q[k] := List.getElem?_eq_getElem hlt
      generalize q[k] = x at hx
      have hxc := ints_at hx
      by_cases hxi : x = id
      · have hm : id ∈ q := hxi ▸ List.mem_of_getElem? hx
        have ht : rtakeM o q id = (false, o, q) := by simp [rtakeM, h0, h1, hm]
        rw [ht]
        (repeat' (first | (first | refine SLl.nil ?_ | ((show SLl _ _ _ _ _ (⟨⟨_, _, _, _, _, _⟩, _, _⟩ :: _) _ _ _); first | refine SLl.ev rfl rfl rfl rfl ?_ | ((show SLl _ _ _ _ _ (⟨⟨_, .load _ _, _, _, _, _⟩, _, _⟩ :: _) _ _ _); (refine SLl.rdSeq rfl rfl (Rd.load rfl rfl (by (first | (apply Reads.blk; (· (repeat (apply Sel.here))); (· rfl)) | (apply Reads.row; (· (repeat (first | apply Sel.here | apply Sel.there))); (· (assumption)); (· rfl))))) ?_)) | ((show SLl _ _ _ _ _ (⟨⟨_, .fieldAddr _ _ _, _, _, _, _⟩, _, _⟩ :: _) _ _ _); (refine SLl.pu rfl rfl rfl (Pu.fieldAddr rfl) ?_)) | ((show SLl _ _ _ _ _ (⟨⟨_, .indexAddr _ _ _, _, _, _, _⟩, _, _⟩ :: _) _ _ _); (refine SLl.rdSeq rfl rfl (Rd.indexAddr rfl rfl (by ((apply Len.row; (· (repeat (first | apply Sel.here | apply Sel.there)))))) (by (rfl)) (by omega)) ?_)) | ((show SLl _ _ _ _ _ (⟨⟨_, .call ⟨.builtin .len, _, _⟩, _, _, _, _⟩, _, _⟩ :: _) _ _ _); refine SLl.rdSeq rfl rfl (Rd.len rfl (by ((apply Len.row; (· (repeat (first | apply Sel.here | apply Sel.there))))))) ?_) | ((show SLl _ _ _ _ _ (⟨⟨_, .binOp _ _ _ _ _, _, _, _, _⟩, _, _⟩ :: _) _ _ _); ((refine SLl.cmp rfl rfl rfl rfl rfl rfl ?_ ?_ <;> intro hq <;> simp only [cmpP] at hq <;> try ((exfalso; omega))))))) | (first | refine SLc.seq ?_ | refine SLc.region rfl ?_ | refine SLc.condT rfl ?_ | refine SLc.block ?_ | refine SLc.skip ?_ | refine SLc.ret ?_)))
        exact And.intro rfl (Exists.intro _ (Exists.intro _ (And.intro rfl (And.intro .refl (Exists.intro qv (And.intro rfl rfl))))))
      · (repeat' (first | (first | refine SLl.nil ?_ | ((show SLl _ _ _ _ _ (⟨⟨_, _, _, _, _, _⟩, _, _⟩ :: _) _ _ _); first | refine SLl.ev rfl rfl rfl rfl ?_ | ((show SLl _ _ _ _ _ (⟨⟨_, .load _ _, _, _, _, _⟩, _, _⟩ :: _) _ _ _); (refine SLl.rdSeq rfl rfl (Rd.load rfl rfl (by (first | (apply Reads.blk; (· (repeat (apply Sel.here))); (· rfl)) | (apply Reads.row; (· (repeat (first | apply Sel.here | apply Sel.there))); (· (assumption)); (· rfl))))) ?_)) | ((show SLl _ _ _ _ _ (⟨⟨_, .fieldAddr _ _ _, _, _, _, _⟩, _, _⟩ :: _) _ _ _); (refine SLl.pu rfl rfl rfl (Pu.fieldAddr rfl) ?_)) | ((show SLl _ _ _ _ _ (⟨⟨_, .indexAddr _ _ _, _, _, _, _⟩, _, _⟩ :: _) _ _ _); (refine SLl.rdSeq rfl rfl (Rd.indexAddr rfl rfl (by ((apply Len.row; (· (repeat (first | apply Sel.here | apply Sel.there)))))) (by (rfl)) (by omega)) ?_)) | ((show SLl _ _ _ _ _ (⟨⟨_, .call ⟨.builtin .len, _, _⟩, _, _, _, _⟩, _, _⟩ :: _) _ _ _); refine SLl.rdSeq rfl rfl (Rd.len rfl (by ((apply Len.row; (· (repeat (first | apply Sel.here | apply Sel.there))))))) ?_) | ((show SLl _ _ _ _ _ (⟨⟨_, .binOp _ _ _ _ _, _, _, _, _⟩, _, _⟩ :: _) _ _ _); (first | refine SLl.pu rfl rfl rfl (Pu.add rfl rfl (IntWalk.i64_in _ (by omega))) ?_ | (refine SLl.cmp rfl rfl rfl rfl rfl rfl ?_ ?_ <;> intro hq <;> simp only [cmpP] at hq <;> try ((exfalso; omega))))))) | (first | refine SLc.seq ?_ | refine SLc.region rfl ?_ | refine SLc.condT rfl ?_ | refine SLc.condF rfl ?_ | refine SLc.block ?_ | refine SLc.skip ?_)))
        refine And.intro rfl (Exists.intro (k + 1) (And.intro ⟨by omega, ?_⟩ (And.intro (by omega) (And.intro (by (repeat' (first | exact trivial | apply And.intro | rfl))) .refl))))
        intro j y hj hy
        by_cases hjk : j = k
        · subst hjk; rw [hx] at hy; cases hy; exact hxi
        · exact hno j y (by omega) hy
    · have hm : id ∉ q := fun h => by
        obtain ⟨j, hj⟩ := List.mem_iff_getElem?.1 h
        exact absurd rfl (hno j id (by have := (List.getElem?_eq_some_iff.1 hj).1; omega) hj)
      have ht : rtakeM o q id = (false, o, q ++ [id]) := by simp [rtakeM, h0, h1, hm]
      rw [ht]
      (repeat' (first | (first | refine SLl.nil ?_ | ((show SLl _ _ _ _ _ (⟨⟨_, _, _, _, _, _⟩, _, _⟩ :: _) _ _ _); first | refine SLl.ev rfl rfl rfl rfl ?_ | ((show SLl _ _ _ _ _ (⟨⟨_, .load _ _, _, _, _, _⟩, _, _⟩ :: _) _ _ _); (refine SLl.rdSeq rfl rfl (Rd.load rfl rfl (by ((apply Reads.blk; (· (repeat (apply Sel.here))); (· rfl))))) ?_)) | ((show SLl _ _ _ _ _ (⟨⟨_, .fieldAddr _ _ _, _, _, _, _⟩, _, _⟩ :: _) _ _ _); (refine SLl.pu rfl rfl rfl (Pu.fieldAddr rfl) ?_)) | ((show SLl _ _ _ _ _ (⟨⟨_, .call ⟨.builtin .len, _, _⟩, _, _, _, _⟩, _, _⟩ :: _) _ _ _); refine SLl.rdSeq rfl rfl (Rd.len rfl (by ((apply Len.row; (· (repeat (first | apply Sel.here | apply Sel.there))))))) ?_) | ((show SLl _ _ _ _ _ (⟨⟨_, .binOp _ _ _ _ _, _, _, _, _⟩, _, _⟩ :: _) _ _ _); ((refine SLl.cmp rfl rfl rfl rfl rfl rfl ?_ ?_ <;> intro hq <;> simp only [cmpP] at hq <;> try ((exfalso; omega))))))) | (first | refine SLc.seq ?_ | refine SLc.region rfl ?_ | refine SLc.condF rfl ?_ | refine SLc.exit ?_)))
      refine SLl.seq rfl rfl (SLo.buildSliceE (ints [id]) (by decide) (by decide) rfl (by (repeat (first | exact CellsW.nil | (apply CellsW.cons; (· (exact Cel.one (by (exact One.lit rfl)))))))) (by simp [ints]) rfl (by rfl) ?_)
      intro nv hnv
      refine SLl.seq rfl rfl (SLo.append (es := ints q) (ys := ints [id]) (by rfl) (by omega) rfl rfl (by (repeat (first | apply Sel.here | apply Sel.there))) (Src.row .here intsL_one) intsL_ones (by simp only [ints_len, List.length_singleton] at *; omega) (by simp only [ints_len, List.length_singleton] at *; omega) ?_)
      intro qv' hqv'
      (repeat' (first | (first | refine SLl.nil ?_ | ((show SLl _ _ _ _ _ (⟨⟨_, _, _, _, _, _⟩, _, _⟩ :: _) _ _ _); first | refine SLl.ev rfl rfl rfl rfl ?_ | ((show SLl _ _ _ _ _ (⟨⟨_, .fieldAddr _ _ _, _, _, _, _⟩, _, _⟩ :: _) _ _ _); (refine SLl.pu rfl rfl rfl (Pu.fieldAddr rfl) ?_)) | ((show SLl _ _ _ _ _ (⟨⟨_, .store _ _ _, _, _, _, _⟩, _, _⟩ :: _) _ _ _); ((refine SLl.seq0 rfl (SLo.store rfl rfl rfl (by (exact One.len (by ((apply Len.row; (· (repeat (apply Sel.here)))))))) (by ((apply Wr.blk; (· (repeat (first | apply Upd.here | apply Upd.there))); (· exact Nat.le_of_ble_eq_true rfl)))) ?_)))))) | (first | refine SLc.seq ?_ | refine SLc.region rfl ?_ | refine SLc.ret ?_)))
      refine And.intro rfl (Exists.intro _ (Exists.intro _ (And.intro rfl (And.intro ?_ (Exists.intro qv' (And.intro rfl rfl))))))
      exact .cons (by (repeat (first | apply Sel.here | apply Sel.there))) (Ent.row (by simp [ints]) (.skip .refl))
def rleaveM (o : Int) (q : List Int) (id : Int) : Bool × Int × List Int := if o ≠ id ∨ id < 0 then (false, o, q) else match q with
  | [] => (true, -1, [])
  | x :: r => (true, x, r)
theorem RLeave_ok (W : World) (F : List Chunk) (rb : Nat) (qv : Value) (o : Int) (q : List Int) (id : Int) (hl : q.length ≤ 100000) :
    SLf Try.prog W 78 [ptr rb, .int .i64 id] (refC rb qv o q ++ F) (fun r σ => ∃ qv', r = .bool (rleaveM o q id).1 ∧ σ = refC rb qv' (rleaveM o q id).2.1 (rleaveM o q id).2.2 ++ F) := by
  have hil := @ints_len q
  refine SLf.enter Try.func78 rfl (Nat.le_of_ble_eq_true rfl) ?_
  simp only [refC, List.cons_append, List.nil_append]
  by_cases ho : o ≠ id ∨ id < 0
  · have ht : rleaveM o q id = (false, o, q) := by simp only [rleaveM]; rw [if_pos ho]
    rw [ht]
    by_cases h0 : o = id
    · have h1 : id < 0 := by rcases ho with h | h; (exact absurd h0 h); exact h
      (repeat' (first | (first | refine SLl.nil ?_ | ((show SLl _ _ _ _ _ (⟨⟨_, _, _, _, _, _⟩, _, _⟩ :: _) _ _ _); first | refine SLl.ev rfl rfl rfl rfl ?_ | ((show SLl _ _ _ _ _ (⟨⟨_, .load _ _, _, _, _, _⟩, _, _⟩ :: _) _ _ _); (refine SLl.rdSeq rfl rfl (Rd.load rfl rfl (by ((apply Reads.blk; (· (repeat (apply Sel.here))); (· rfl))))) ?_)) | ((show SLl _ _ _ _ _ (⟨⟨_, .fieldAddr _ _ _, _, _, _, _⟩, _, _⟩ :: _) _ _ _); (refine SLl.pu rfl rfl rfl (Pu.fieldAddr rfl) ?_)) | ((show SLl _ _ _ _ _ (⟨⟨_, .binOp _ _ _ _ _, _, _, _, _⟩, _, _⟩ :: _) _ _ _); ((refine SLl.cmp rfl rfl rfl rfl rfl rfl ?_ ?_ <;> intro hq <;> simp only [cmpP] at hq <;> try ((exfalso; omega))))))) | (first | refine SLc.seq ?_ | refine SLc.region rfl ?_ | refine SLc.condT rfl ?_ | refine SLc.ret ?_)))
      exact And.intro rfl (Exists.intro _ (Exists.intro _ (And.intro rfl (And.intro .refl (Exists.intro qv (And.intro rfl rfl))))))
    · (repeat' (first | (first | refine SLl.nil ?_ | ((show SLl _ _ _ _ _ (⟨⟨_, _, _, _, _, _⟩, _, _⟩ :: _) _ _ _); first | refine SLl.ev rfl rfl rfl rfl ?_ | ((show SLl _ _ _ _ _ (⟨⟨_, .load _ _, _, _, _, _⟩, _, _⟩ :: _) _ _ _); (refine SLl.rdSeq rfl rfl (Rd.load rfl rfl (by ((apply Reads.blk; (· (repeat (apply Sel.here))); (· rfl))))) ?_)) | ((show SLl _ _ _ _ _ (⟨⟨_, .fieldAddr _ _ _, _, _, _, _⟩, _, _⟩ :: _) _ _ _); (refine SLl.pu rfl rfl rfl (Pu.fieldAddr rfl) ?_)) | ((show SLl _ _ _ _ _ (⟨⟨_, .binOp _ _ _ _ _, _, _, _, _⟩, _, _⟩ :: _) _ _ _); ((refine SLl.cmp rfl rfl rfl rfl rfl rfl ?_ ?_ <;> intro hq <;> simp only [cmpP] at hq <;> try ((exfalso; omega))))) | refine SLl.skip rfl rfl ?_)) | (first | refine SLc.seq ?_ | refine SLc.region rfl ?_ | refine SLc.condT rfl ?_ | refine SLc.ret ?_)))
      exact And.intro rfl (Exists.intro _ (Exists.intro _ (And.intro rfl (And.intro .refl (Exists.intro qv (And.intro rfl rfl))))))
  · have h0 : o = id := Decidable.byContradiction fun h => ho (.inl h)
    have h1 : ¬ id < 0 := fun h => ho (.inr h)
    cases q with
    | nil =>
      have ht : rleaveM o [] id = (true, -1, []) := by simp only [rleaveM]; rw [if_neg ho]
      rw [ht]
      have hin : (ints []).length = 0 := rfl
      (repeat' (first | (first | refine SLl.nil ?_ | ((show SLl _ _ _ _ _ (⟨⟨_, _, _, _, _, _⟩, _, _⟩ :: _) _ _ _); first | refine SLl.ev rfl rfl rfl rfl ?_ | ((show SLl _ _ _ _ _ (⟨⟨_, .load _ _, _, _, _, _⟩, _, _⟩ :: _) _ _ _); (refine SLl.rdSeq rfl rfl (Rd.load rfl rfl (by ((apply Reads.blk; (· (repeat (apply Sel.here))); (· rfl))))) ?_)) | ((show SLl _ _ _ _ _ (⟨⟨_, .fieldAddr _ _ _, _, _, _, _⟩, _, _⟩ :: _) _ _ _); (refine SLl.pu rfl rfl rfl (Pu.fieldAddr rfl) ?_)) | ((show SLl _ _ _ _ _ (⟨⟨_, .call ⟨.builtin .len, _, _⟩, _, _, _, _⟩, _, _⟩ :: _) _ _ _); refine SLl.rdSeq rfl rfl (Rd.len rfl (by ((apply Len.row; (· (repeat (first | apply Sel.here | apply Sel.there))))))) ?_) | ((show SLl _ _ _ _ _ (⟨⟨_, .binOp _ _ _ _ _, _, _, _, _⟩, _, _⟩ :: _) _ _ _); ((refine SLl.cmp rfl rfl rfl rfl rfl rfl ?_ ?_ <;> intro hq <;> simp only [cmpP] at hq <;> try ((exfalso; omega))))) | ((show SLl _ _ _ _ _ (⟨⟨_, .store _ _ _, _, _, _, _⟩, _, _⟩ :: _) _ _ _); ((refine SLl.seq0 rfl (SLo.store rfl rfl rfl (by (exact One.lit rfl)) (by ((apply Wr.blk; (· (repeat (apply Upd.here))); (· exact Nat.le_of_ble_eq_true rfl)))) ?_)))))) | (first | refine SLc.seq ?_ | refine SLc.region rfl ?_ | refine SLc.condF rfl ?_ | refine SLc.skip ?_ | refine SLc.ret ?_)))
      exact And.intro rfl (Exists.intro _ (Exists.intro _ (And.intro rfl (And.intro .refl (Exists.intro qv (And.intro rfl rfl))))))
    | cons x r =>
      have ht : rleaveM o (x :: r) id = (true, x, r) := by simp only [rleaveM]; rw [if_neg ho]
      rw [ht]
      have hin : (ints (x :: r)).length = r.length + 1 := by simp [ints]
      have hrl := @ints_len r
      have hx0 : (ints (x :: r))[0]? = some [.int .i64 x] := rfl
      have hdr : (ints (x :: r)).drop 1 = ints r := rfl
      have hone := @intsL_one (x :: r)
      generalize ints (x :: r) = C at *
      (repeat' (first | (first | refine SLl.nil ?_ | ((show SLl _ _ _ _ _ (⟨⟨_, _, _, _, _, _⟩, _, _⟩ :: _) _ _ _); first | refine SLl.ev rfl rfl rfl rfl ?_ | ((show SLl _ _ _ _ _ (⟨⟨_, .load _ _, _, _, _, _⟩, _, _⟩ :: _) _ _ _); (refine SLl.rdSeq rfl rfl (Rd.load rfl rfl (by ((apply Reads.blk; (· (repeat (apply Sel.here))); (· rfl))))) ?_)) | ((show SLl _ _ _ _ _ (⟨⟨_, .fieldAddr _ _ _, _, _, _, _⟩, _, _⟩ :: _) _ _ _); (refine SLl.pu rfl rfl rfl (Pu.fieldAddr rfl) ?_)) | ((show SLl _ _ _ _ _ (⟨⟨_, .call ⟨.builtin .len, _, _⟩, _, _, _, _⟩, _, _⟩ :: _) _ _ _); refine SLl.rdSeq rfl rfl (Rd.len rfl (by ((apply Len.row; (· (repeat (first | apply Sel.here | apply Sel.there))))))) ?_) | ((show SLl _ _ _ _ _ (⟨⟨_, .binOp _ _ _ _ _, _, _, _, _⟩, _, _⟩ :: _) _ _ _); ((refine SLl.cmp rfl rfl rfl rfl rfl rfl ?_ ?_ <;> intro hq <;> simp only [cmpP] at hq <;> try ((exfalso; omega))))) | ((show SLl _ _ _ _ _ (⟨⟨_, .store _ _ _, _, _, _, _⟩, _, _⟩ :: _) _ _ _); ((refine SLl.seq0 rfl (SLo.store rfl rfl rfl (by (exact One.lit rfl)) (by ((apply Wr.blk; (· (repeat (apply Upd.here))); (· exact Nat.le_of_ble_eq_true rfl)))) ?_)))))) | (first | refine SLc.seq ?_ | refine SLc.region rfl ?_ | refine SLc.condT rfl ?_ | refine SLc.condF rfl ?_ | refine SLc.skip ?_)))
      refine SLc.drawsQ [.blk rb 124 [.int .i64 (-1), qv], .row qv 3 1 C] [(0, .free), (1, .free), (2, .free), (3, .free), (4, .free), (5, .take), (6, .take), (7, .take), (8, .free), (9, .free), (10, .free), (11, .take), (12, .eff true), (13, .eff true), (14, .free), (15, .free), (16, .eff false), (17, .free), (18, .free), (19, .eff false)] mixed (by kernel_rfl) (.cons .here (.cons .here .drop)) ?_
      (repeat' ((((show SLl _ _ _ _ _ (⟨⟨_, _, _, _, _, _⟩, _, _⟩ :: _) _ _ _); first | refine SLl.ev rfl rfl rfl rfl ?_ | ((show SLl _ _ _ _ _ (⟨⟨_, .load _ _, _, _, _, _⟩, _, _⟩ :: _) _ _ _); (refine SLl.rdTake rfl rfl (Rd.load rfl rfl (by (first | (apply Reads.blk; (· (repeat (apply Sel.here))); (· rfl)) | (apply Reads.row; (· (repeat (first | apply Sel.here | apply Sel.there))); (· (assumption)); (· rfl))))) ?_)) | ((show SLl _ _ _ _ _ (⟨⟨_, .fieldAddr _ _ _, _, _, _, _⟩, _, _⟩ :: _) _ _ _); (refine SLl.pu rfl rfl rfl (Pu.fieldAddr rfl) ?_)) | ((show SLl _ _ _ _ _ (⟨⟨_, .indexAddr _ _ _, _, _, _, _⟩, _, _⟩ :: _) _ _ _); (refine SLl.rdTake rfl rfl (Rd.indexAddr rfl rfl (by ((apply Len.row; (· (repeat (first | apply Sel.here | apply Sel.there)))))) (by (exact ij0)) (by omega)) ?_))))))
      refine SLl.eff rfl rfl (Rd.slo (Rd.slice (lo := 1) (es := C) rfl rfl (.there .here) (by omega) (by omega)) ?_)
      refine And.intro (fun _ => .cons .here (.cons .here .drop)) ?_
      refine SLl.eff rfl rfl (SLo.nilRow 3 1 (SLo.append (es := []) (ys := ints r) (by rfl) (by omega) rfl rfl .here (by rw [← hdr]; exact Src.sliced (.there (.there .here)) (by omega) (by omega) hone) intsL_ones (by simp only [List.length_nil, List.length_cons] at *; omega) (by simp only [List.length_nil, List.length_cons] at *; omega) ?_))
      intro qv' hqv'
      refine And.intro (fun _ => .cons (.there .here) (.cons (.there .here) .drop)) ?_
      (repeat' ((((show SLl _ _ _ _ _ (⟨⟨_, _, _, _, _, _⟩, _, _⟩ :: _) _ _ _); first | refine SLl.ev rfl rfl rfl rfl ?_ | ((show SLl _ _ _ _ _ (⟨⟨_, .fieldAddr _ _ _, _, _, _, _⟩, _, _⟩ :: _) _ _ _); (refine SLl.pu rfl rfl rfl (Pu.fieldAddr rfl) ?_))))))
      refine SLl.eff0 rfl (SLo.store rfl rfl rfl (One.lit rfl) (Wr.blk (by (repeat (first | apply Upd.here | apply Upd.there))) (Nat.le_of_ble_eq_true rfl)) ?_)
      refine And.intro (fun h => by cases h) ?_
      (repeat' ((((show SLl _ _ _ _ _ (⟨⟨_, _, _, _, _, _⟩, _, _⟩ :: _) _ _ _); first | refine SLl.ev rfl rfl rfl rfl ?_ | ((show SLl _ _ _ _ _ (⟨⟨_, .fieldAddr _ _ _, _, _, _, _⟩, _, _⟩ :: _) _ _ _); (refine SLl.pu rfl rfl rfl (Pu.fieldAddr rfl) ?_))))))
      refine SLl.eff0 rfl (SLo.store rfl rfl rfl (One.len (Len.row .here)) (Wr.blk (by (repeat (first | apply Upd.here | apply Upd.there))) (Nat.le_of_ble_eq_true rfl)) ?_)
      refine And.intro (fun h => by cases h) ?_
      (repeat' (first | (first | refine SLl.nil ?_ | ((show SLl _ _ _ _ _ (⟨⟨_, _, _, _, _, _⟩, _, _⟩ :: _) _ _ _); refine SLl.ev rfl rfl rfl rfl ?_)) | (first | refine SLc.seq ?_ | refine SLc.region rfl ?_ | refine SLc.ret ?_)))
      refine And.intro rfl (Exists.intro _ (Exists.intro _ (And.intro rfl (And.intro ?_ (Exists.intro qv' (And.intro rfl rfl))))))
      exact .cons (.there .here) (Ent.row (List.nil_append _) (.skip .refl))
end Go.Sl
