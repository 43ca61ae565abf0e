/- backstitchlaw16.LockWorks: the law's walk. -/
import Derived.Test.YtloeicnadchkpaaLaw16v
namespace Go.Sl
open Go.Proofs
attribute [local irreducible] SLc SLl SLo SLf Pu Rd

def wkP (sb lb ib okb eb : Nat) (p : Nat × WS) : Chunk := wkC sb lb ib okb eb p.1 (p.2.left : Int) (p.2.at_ : Int)
def kC (ib okb eb lb sb : Nat) (B : List Nat) (a : KA) : List Chunk :=
  .blk ib 3 [.int .i64 (a.inn : Int)] :: .blk okb 4 [.bool true] :: .blk eb 3 [.int .i64 (a.ends : Int)] :: (lockC lb sb a.qv a.L ++ (List.zipWith Prod.mk B a.ws).map (wkP sb lb ib okb eb))
theorem wk_same {sb lb ib okb eb : Nat} : ∀ {B : List Nat} {l l' : List WS}, l'.map (fun w => (w.left, w.at_)) = l.map (fun w => (w.left, w.at_)) → (List.zipWith Prod.mk B l').map (wkP sb lb ib okb eb) = (List.zipWith Prod.mk B l).map (wkP sb lb ib okb eb)
  | [], _, _, _ => by simp
  | _ :: _, [], [], _ => rfl
  | _ :: _, [], _ :: _, h => by simp at h
  | _ :: _, _ :: _, [], h => by simp at h
  | b :: B, w :: l, w' :: l', h => by
    simp only [List.map_cons, List.cons.injEq, Prod.mk.injEq] at h
    have ih := wk_same (sb := sb) (lb := lb) (ib := ib) (okb := okb) (eb := eb) (B := B) h.2
    simp only [List.zipWith_cons_cons, List.map_cons]
    rw [ih]
    simp only [wkP, h.1.1, h.1.2]
theorem wakeW_same (ws : List WS) (q : List Int) : (wakeW ws q).map (fun w => (w.left, w.at_)) = ws.map fun w => (w.left, w.at_) := by
  unfold wakeW
  split
  · rfl
  · rename_i x r
    split
    · rename_i w hw
      rw [List.map_set]
      exact set_same (by rw [List.getElem?_map, hw]; rfl)
    · rfl
section
variable {sb lb ib okb eb : Nat} {S Lk F : List Chunk} {B : List Nat} {ws ws' : List WS} {i b : Nat} {w w' : WS} {c1 c2 c3 : Chunk}
theorem k_out (hb : B[i]? = some b) (hw : ws[i]? = some w) : Ent (S ++ ((c1 :: c2 :: c3 :: (Lk ++ (List.zipWith Prod.mk B ws).map (wkP sb lb ib okb eb))) ++ F)) (wkC sb lb ib okb eb b (w.left : Int) (w.at_ : Int) :: c1 :: c2 :: c3 :: (Lk ++ (S ++ (((List.zipWith Prod.mk B ws).eraseIdx i).map (wkP sb lb ib okb eb) ++ F)))) := by
  have hp : (List.zipWith Prod.mk B ws)[i]? = some (b, w) := zip_at hb hw
  refine .trans (b := S ++ (c1 :: c2 :: c3 :: (Lk ++ ((List.zipWith Prod.mk B ws).map (wkP sb lb ib okb eb) ++ F)))) (.left _ (.perm ?_)) (.trans .out3 ?_)
  · simp only [List.cons_append, List.append_assoc]
    exact .refl _
  · exact .cons (.there (.there (.there (Sel.right _ (Sel.right _ (Sel.app (Sel.many (f := wkP sb lb ib okb eb) hp))))))) (.cons .here (.cons .here (.cons .here .swp)))
theorem k_back (hb : B[i]? = some b) (hw : ws[i]? = some w) (he : ws'.map (fun w => (w.left, w.at_)) = (ws.set i w').map fun w => (w.left, w.at_)) : Ent (wkC sb lb ib okb eb b (w'.left : Int) (w'.at_ : Int) :: c1 :: c2 :: c3 :: (Lk ++ (S ++ (((List.zipWith Prod.mk B ws).eraseIdx i).map (wkP sb lb ib okb eb) ++ F)))) (S ++ ((c1 :: c2 :: c3 :: (Lk ++ (List.zipWith Prod.mk B ws').map (wkP sb lb ib okb eb))) ++ F)) := by
  have hp : (List.zipWith Prod.mk B ws)[i]? = some (b, w) := zip_at hb hw
  have hpl := (List.getElem?_eq_some_iff.1 hp).1
  rw [wk_same he, ← zip_set (f := Prod.mk) (b := w') hb]
  refine .trans (b := S ++ (c1 :: c2 :: c3 :: (Lk ++ (((List.zipWith Prod.mk B ws).set i (b, w')).map (wkP sb lb ib okb eb) ++ F)))) ?_ (.left _ (.perm ?_))
  · refine .trans (.cons (.there .here) (.cons (.there .here) (.cons (.there .here) (.trans .into (.left _ (.trans .into (.left _ (.perm ((perm_many (f := wkP sb lb ib okb eb) (p' := (b, w')) hpl).append_right F)))))))))
      (.trans (.cons .here (.cons .here (.cons .here .swp))) .in3)
  · simp only [List.cons_append, List.append_assoc]
    exact .refl _
end
theorem k_spec (W : World) (ib okb eb lb sb : Nat) (pv : Value) (P B : List Nat) (t : Nat) (F : List Chunk) :
    StepSpec W sb pv (fun a => kC ib okb eb lb sb B a ++ F) (KI P B t) kS := by
  intro m a lv i tk h hpi hti htr
  have hlen := h.len
  have hil : i < B.length := by have := (List.getElem?_eq_some_iff.1 hti).1; rw [k_len h] at this; exact this
  have hb : B[i]? = some B[i] := List.getElem?_eq_getElem hil
  have hw : a.ws[i]? = some (a.ws[i]'(by omega)) := List.getElem?_eq_getElem (by omega)
  generalize B[i] = b at hb
  generalize a.ws[i]'(by omega) = w at hw
  have htk : tk = mkK b w := by
    rw [h.m] at hti
    simp only [kM] at hti
    rw [zip_at hb hw] at hti
    simpa using hti.symm
  subst htk
  have hwt : w.waits = false ∧ w.done = false := by simp [runsT, mkK] at htr; exact htr
  obtain ⟨hwt, hwd⟩ := hwt
  have hok := h.wok i w hw
  have hat := hok.at_
  have hql := h.ql
  have hmade := k_made h
  have hends : a.ends ≤ 1000 := by
    have h1 := map_sum_le (f := WS.e) (b := 1) (ws := a.ws) fun w _ => by unfold WS.e; split <;> omega
    have h2 := h.ends
    have h3 := h.few
    omega
  have hleft := hok.le
  have ht5 := h.t5
  refine ⟨76, [ptr b], [], rfl, plain76, ?_⟩
  refine SLf.ent (k_out (sb := sb) (lb := lb) (ib := ib) (okb := okb) (eb := eb) hb hw) ?_
  rcases (by omega : w.at_ = 0 ∨ w.at_ = 1 ∨ w.at_ = 2) with h0 | h1 | h2
  · by_cases hl : w.left = 0
    · have e : wkC sb lb ib okb eb b (w.left : Int) (w.at_ : Int) = wkC sb lb ib okb eb b 0 0 := by rw [h0, hl]; rfl
      rw [e]
      refine SLf.to (Wk_end W _ sb lb ib okb eb b a.qv pv lv a.L (setNow m i) a.ends (a.inn : Int) (by omega)) ?_
      rintro v σ ⟨rfl, rfl⟩
      refine ⟨_, ?_, 3, lv, setNow m i, { a with ends := a.ends + 1, ws := a.ws.set i { w with done := true }, made := a.made + 1 }, rfl, rfl, w, hw, hwt, hwd, .inl ⟨h0, hl, rfl, rfl, rfl⟩⟩
      rw [← e]
      exact k_back (w' := { w with done := true }) hb hw rfl
    · rw [h0]
      refine SLf.to (Wk_take W _ sb lb ib okb eb b a.qv pv lv a.L (setNow m i) w.left _ _ _ i rfl (by omega) h.qn (by omega)) ?_
      rintro v σ ⟨q', rfl, hq', rfl⟩
      refine ⟨_, ?_, _, lv, setNow m i, { a with qv := q', L := (takeM a.L i).2, ws := a.ws.set i { w with at_ := 1, waits := !(takeM a.L i).1 }, made := a.made + 1 }, rfl, rfl, w, hw, hwt, hwd, .inr (.inl ⟨h0, by omega, rfl, rfl, q', hq', rfl⟩)⟩
      exact k_back (w' := { w with at_ := 1, waits := !(takeM a.L i).1 }) hb hw rfl
  · obtain ⟨g1, g2, g3, g4, g5, g6, g7, g8⟩ := k_holder h hw (by omega) hwt
    have hin : a.inn = 0 := by rw [g7, h1]; rfl
    have how : ownerM a.L = (i : Int) := by simp [ownerM, g1, g2]
    rw [h1, hin]
    refine SLf.to (Wk_in W _ sb lb ib okb eb b a.qv pv lv a.L (setNow m i) (w.left : Int) _ i rfl how) ?_
    rintro v σ ⟨rfl, rfl⟩
    refine ⟨_, ?_, 1, lv, setNow m i, { a with inn := 1, ws := a.ws.set i { w with at_ := 2 }, made := a.made + 1 }, rfl, rfl, w, hw, hwt, hwd, .inr (.inr (.inl ⟨h1, rfl, rfl, rfl⟩))⟩
    exact k_back (w' := { w with at_ := 2 }) hb hw rfl
  · obtain ⟨g1, g2, g3, g4, g5, g6, g7, g8⟩ := k_holder h hw (by omega) hwt
    have hin : a.inn = 1 := by rw [g7, h2]; rfl
    have hlv : (leaveM a.L (setNow m i) (i : Int)).1 = true := by
      cases hq : a.L.queue <;> simp [leaveM, g1, g2, hq]
    have hpos := hok.pos (by omega)
    rw [h2, hin, show w.left = (w.left - 1) + 1 by omega]
    refine SLf.to (Wk_out W _ sb lb ib okb eb b a.qv pv lv a.L (setNow m i) (w.left - 1) _ i rfl (by omega) hlv h.qn (by omega)) ?_
    rintro v σ ⟨q', rfl, hq', rfl⟩
    refine ⟨_, ?_, 1, lv, _, { a with qv := q', L := (leaveM a.L (setNow m i) i).2.1, inn := 0, ws := wakeW (a.ws.set i { w with left := w.left - 1, at_ := 0 }) a.L.queue, made := a.made + 1 }, rfl, rfl, w, hw, hwt, hwd, .inr (.inr (.inr ⟨h2, rfl, rfl, q', hq', rfl⟩))⟩
    exact k_back (w' := { w with left := w.left - 1, at_ := 0 }) hb hw (wakeW_same _ _)
theorem zip_repK {y : WS} : ∀ (B : List Nat), List.zipWith Prod.mk B (List.replicate B.length y) = B.map fun b => (b, y)
  | [] => rfl
  | b :: r => by
    rw [List.length_cons, List.replicate_succ, List.zipWith_cons_cons, zip_repK r]
    rfl
theorem zip_repM {t : Nat} : ∀ (B : List Nat), List.zipWith mkK B (List.replicate B.length ⟨t, 0, false, false⟩) = B.map fun b => ⟨wkV b, false, false, false⟩
  | [] => rfl
  | b :: r => by
    rw [List.length_cons, List.replicate_succ, List.zipWith_cons_cons, zip_repM r]
    rfl
def iniK (P B : List Nat) : Sch := ⟨P, B.map fun b => ⟨wkV b, false, false, false⟩, 0, -1, false⟩
theorem RunK (W : World) (F : List Chunk) (ib okb eb lb sb : Nat) (pv lv : Value) (P B : List Nat) (t : Nat) (hB : B.length ≤ 12) (ht5 : t ≤ 5) (hP : ∀ n ∈ P, n < 256) :
    SLf Try.prog W 45 [ptr sb, .int .i64 10000] (.blk ib 3 [.int .i64 0] :: .blk okb 4 [.bool true] :: .blk eb 3 [.int .i64 0] :: (lockC lb sb (.slice none 0 0) ⟨false, 0, []⟩ ++ ((B.map fun b => (b, (⟨t, 0, false, false⟩ : WS))).map (wkP sb lb ib okb eb) ++ (schC sb pv lv (iniK P B) ++ F))))
      (fun r σ => ∃ q L n, ownerM L = -1 ∧ L.queue = [] ∧ 3 * (B.length * t) ≤ n ∧ r = .tuple #[.int .i64 (n : Nat), .int .i64 0] ∧ σ = .blk ib 3 [.int .i64 0] :: .blk okb 4 [.bool true] :: .blk eb 3 [.int .i64 (B.length : Int)] :: (lockC lb sb q L ++ F)) := by
  generalize ha : (⟨.slice none 0 0, ⟨false, 0, []⟩, 0, 0, List.replicate B.length ⟨t, 0, false, false⟩, 0⟩ : KA) = a0
  have hwall : ∀ (i : Nat) w, a0.ws[i]? = some w → w = ⟨t, 0, false, false⟩ := by
    subst ha
    intro i w hw
    rw [List.getElem?_replicate] at hw
    split at hw
    · simpa using hw.symm
    · cases hw
  have hI : KI P B t (setRuns (iniK P B) true) a0 := by
    refine ⟨?_, by subst ha; simp, hB, hP, ht5, ?_, ?_, (by subst ha; intro x hx; cases hx), by subst ha; exact List.nodup_nil, ?_, ?_, ?_, by subst ha; exact Nat.zero_le _, by subst ha; exact fun _ => rfl⟩
    · subst ha
      simp only [setRuns, iniK, kM]
      rw [zip_repM]
    · intro i w hw
      rw [hwall i w hw]
      exact ⟨Nat.le_refl _, Nat.zero_le _, fun hc => absurd rfl hc, fun hc => by simp at hc, fun hc => by simp at hc⟩
    · intro i w hw
      rw [hwall i w hw]
      subst ha
      simp
    · refine .inl ⟨by subst ha; rfl, by subst ha; rfl, by subst ha; rfl, fun i w hw => by rw [hwall i w hw]⟩
    · subst ha
      simp [WS.e]
    · subst ha
      simp [WS.work, WS.e]
  refine SLf.ent (σ' := schC sb pv lv (iniK P B) ++ (kC ib okb eb lb sb B a0 ++ F)) ?_ (SLf.to (Run_ok W F sb pv lv (kC ib okb eb lb sb B) (KI P B t) kS (k_spec W ib okb eb lb sb pv P B t) k_client (iniK P B) a0 10000 hI rfl (by decide)) ?_)
  · subst ha
    refine .trans (.cons .here (.cons .here (.cons .here (.trans (.left _ .swp) .swp)))) (.trans .in3 (.left _ (.perm ?_)))
    simp only [kC, zip_repK, List.cons_append, List.append_assoc]
    exact .refl _
  rintro r σ ⟨n, lv', m, a, hrun, hIm, hend, hn, rfl, rfl⟩
  have hat := k_runs hrun
  have hm2 := k_made hIm
  have h00 : a0.made = 0 := by subst ha; rfl
  have hcan : canN m = [] := by
    rcases hend with h | h
    · exact h
    · omega
  obtain ⟨e1, e2, e3, e4, e5, e6⟩ := k_ends hIm hcan
  have hmul : B.length * (3 * t + 1) = 3 * (B.length * t) + B.length := by
    rw [Nat.mul_add, Nat.mul_one, Nat.mul_left_comm]
  refine ⟨_, ?_, a.qv, a.L, n, e4, e5, by omega, by rw [e6], rfl⟩
  refine .trans (b := schC sb pv lv' (setRuns m false) ++ (.blk ib 3 [.int .i64 0] :: .blk okb 4 [.bool true] :: .blk eb 3 [.int .i64 (B.length : Int)] :: (lockC lb sb a.qv a.L ++ ((List.zipWith Prod.mk B a.ws).map (wkP sb lb ib okb eb) ++ F)))) (.left _ (.perm ?_)) (.trans .appR (.cons .here (.cons .here (.cons .here (.left _ .appR)))))
  simp only [kC, e1, e3, List.cons_append, List.append_assoc]
  exact .refl _
theorem Go_4H (W : World) (c1 c2 c3 c4 : Chunk) (G H F : List Chunk) (b : Nat) (pv lv : Value) (m : Sch) (fn : Fn) (a1 a2 : Array Value) (hn : m.tasks.length < 128) :
    SLf Try.prog W 36 [ptr b, .func fn a1 a2] (c1 :: c2 :: c3 :: c4 :: (G ++ (H ++ (schC b pv lv m ++ F)))) (fun r σ => ∃ lv', r = .tuple #[.int .i64 (m.tasks.length : Int), .int .i64 0] ∧ σ = c1 :: c2 :: c3 :: c4 :: (G ++ (H ++ (schC b pv lv' (addTask m ⟨.func fn a1 a2, false, false, false⟩) ++ F)))) := by
  refine SLf.ent (.cons .here (.cons .here (.cons .here (.cons .here (.perm (List.append_assoc G H _ ▸ .refl _)))))) (SLf.to (Go_mid W (c1 :: c2 :: c3 :: c4 :: (G ++ H)) F b pv lv m fn a1 a2 hn) ?_)
  rintro v σ ⟨lv', rfl, rfl⟩
  exact ⟨_, .cons .here (.cons .here (.cons .here (.cons .here (.perm (List.append_assoc G H _ ▸ .refl _))))), lv', rfl, rfl⟩
theorem Owner_k3 (W : World) (c1 c2 c3 : Chunk) (F : List Chunk) (lb sb : Nat) (qv : Value) (L : Lck) : SLf Try.prog W 40 [ptr lb] (c1 :: c2 :: c3 :: (lockC lb sb qv L ++ F)) (fun r σ => r = .int .i64 (ownerM L) ∧ σ = c1 :: c2 :: c3 :: (lockC lb sb qv L ++ F)) := by
  refine SLf.ent .in3 (SLf.to (Owner_ok W (c1 :: c2 :: c3 :: F) lb sb qv L) ?_)
  rintro v σ ⟨rfl, rfl⟩
  exact ⟨_, .out3, rfl, rfl⟩
theorem Queue_k3 (W : World) (c1 c2 c3 : Chunk) (F : List Chunk) (lb sb : Nat) (qv : Value) (L : Lck) (hn : L.queue = []) :
    SLf Try.prog W 42 [ptr lb] (c1 :: c2 :: c3 :: (lockC lb sb qv L ++ F)) (fun r σ => σ = [.row r 3 1 (ints [])]) := by
  refine SLf.ent .in3 (SLf.to (Queue_ok W (c1 :: c2 :: c3 :: F) lb sb qv L (fun _ => hn) (by rw [hn]; exact Nat.zero_le _)) ?_)
  rintro v σ rfl
  rw [hn]
  exact ⟨_, .cons .here .drop, rfl⟩
set_option pp.maxSteps 1000000 in
set_option pp.deepTerms true in
set_option maxHeartbeats 2000000 in
theorem Works16 (W : World) (n tn : Nat) (pv : Value) (P : List Nat) (hn : n < 256) (htn : tn < 256) (hp : Rs W [] pv 1 (u8L P)) (hP : ∀ n ∈ P, n < 256) (hpl : P.length ≤ 140737488355328) :
    SLf Try.prog W 25 [.int .u8 (n : Int), .int .u8 (tn : Int), pv] [] (fun v _ => v = .bool true) := by
  have hul := @u8L_len P
  refine SLf.enter Try.func25 rfl (Nat.le_of_ble_eq_true rfl) ?_
  (repeat' (first | (first | refine SLl.nil ?_ | ((show SLl _ _ _ _ _ (⟨⟨_, _, _, _, _, _⟩, _, _⟩ :: _) _ _ _); refine SLl.ev rfl rfl rfl rfl ?_)) | (first | refine SLc.seq ?_ | refine SLc.region rfl ?_)))
  refine SLl.seq rfl rfl (SLo.call plain34 rfl (SLf.mono (Awake16 W []) ?_))
  rintro v σ ⟨rfl, rfl⟩
  (repeat' (first | (first | refine SLl.nil ?_ | ((show SLl _ _ _ _ _ (⟨⟨_, _, _, _, _, _⟩, _, _⟩ :: _) _ _ _); first | refine SLl.ev rfl rfl rfl rfl ?_ | ((show SLl _ _ _ _ _ (⟨⟨_, .call ⟨.builtin .len, _, _⟩, _, _, _, _⟩, _, _⟩ :: _) _ _ _); refine SLl.rdSeq rfl rfl (Rd.len rfl (by ((apply Len.rs; exact Rs.mono (by assumption) (by (repeat' (exact Ent.refl))))))) ?_) | ((show SLl _ _ _ _ _ (⟨⟨_, .binOp _ _ _ _ _, _, _, _, _⟩, _, _⟩ :: _) _ _ _); ((refine SLl.cmp rfl rfl rfl rfl rfl rfl ?_ ?_ <;> intro hq <;> simp only [cmpP] at hq <;> try (fail)))))) | (first | refine SLc.seq ?_ | refine SLc.region rfl ?_ | refine SLc.condT rfl ?_ | refine SLc.condF rfl ?_ | refine SLc.skip ?_ | refine SLc.ret ?_)))
  · exact And.intro rfl (Exists.intro _ (Exists.intro [] (And.intro rfl (And.intro .drop rfl))))
  refine SLl.pu rfl rfl rfl (Pu.convInt rfl (IntWalk.i64_in _ (by omega))) ?_
  refine SLl.pu rfl rfl rfl (Pu.remN (j := 12) rfl rfl (by omega)) ?_
  refine SLl.pu rfl rfl rfl (Pu.add (r := ((1 + n % 12 : Nat) : Int)) rfl rfl (by rw [IntWalk.i64_in _ (by omega)]; omega)) ?_
  (repeat' ((((show SLl _ _ _ _ _ (⟨⟨_, _, _, _, _, _⟩, _, _⟩ :: _) _ _ _); refine SLl.ev rfl rfl rfl rfl ?_))))
  refine SLl.pu rfl rfl rfl (Pu.convInt rfl (IntWalk.i64_in _ (by omega))) ?_
  refine SLl.pu rfl rfl rfl (Pu.remN (j := 5) rfl rfl (by omega)) ?_
  refine SLl.pu rfl rfl rfl (Pu.add (r := ((1 + tn % 5 : Nat) : Int)) rfl rfl (by rw [IntWalk.i64_in _ (by omega)]; omega)) ?_
  have hk2 : 1 + n % 12 ≤ 12 := by omega
  have ht2 : 1 + tn % 5 ≤ 5 := by omega
  generalize 1 + n % 12 = k at hk2
  generalize 1 + tn % 5 = t at ht2
  have hkt : k * t ≤ 60 := Nat.mul_le_mul hk2 ht2
  (repeat' (first | (first | refine SLl.nil ?_ | ((show SLl _ _ _ _ _ (⟨⟨_, _, _, _, _, _⟩, _, _⟩ :: _) _ _ _); refine SLl.ev rfl rfl rfl rfl ?_)) | (first | refine SLc.seq ?_ | refine SLc.region rfl ?_)))
  refine SLl.seq rfl rfl (SLo.call plain35 rfl (SLf.mono (New_ok W [] pv P hp hpl) ?_))
  rintro v σ ⟨sb, qv, rfl, rfl⟩
  (repeat' (first | (first | refine SLl.nil ?_ | ((show SLl _ _ _ _ _ (⟨⟨_, _, _, _, _, _⟩, _, _⟩ :: _) _ _ _); refine SLl.ev rfl rfl rfl rfl ?_)) | (first | refine SLc.seq ?_ | refine SLc.region rfl ?_)))
  refine SLl.seq rfl rfl (SLo.call plain38 rfl (SLf.mono (LNew_ok W _ sb) ?_))
  rintro v σ ⟨lb, rfl, rfl⟩
  (repeat' (first | (first | refine SLl.nil ?_ | ((show SLl _ _ _ _ _ (⟨⟨_, _, _, _, _, _⟩, _, _⟩ :: _) _ _ _); first | refine SLl.ev rfl rfl rfl rfl ?_ | ((show SLl _ _ _ _ _ (⟨⟨_, .binOp _ _ _ _ _, _, _, _, _⟩, _, _⟩ :: _) _ _ _); (refine SLl.pu rfl rfl rfl (Pu.eqPtrNil rfl rfl) ?_)) | ((show SLl _ _ _ _ _ (⟨⟨_, .store _ _ _, _, _, _, _⟩, _, _⟩ :: _) _ _ _); ((refine SLl.seq0 rfl (SLo.store rfl rfl rfl (by (exact One.lit rfl)) (by ((apply Wr.blk; (· (repeat (first | apply Upd.here | apply Upd.there))); (· exact Nat.le_of_ble_eq_true rfl)))) ?_)))) | ((show SLl _ _ _ _ _ (⟨⟨_, .alloc _, _, _, _, _⟩, _, _⟩ :: _) _ _ _); refine SLl.seq rfl rfl (SLo.alloc ?_); intro b))) | (first | refine SLc.seq ?_ | refine SLc.region rfl ?_ | refine SLc.condF rfl ?_ | refine SLc.block ?_ | refine SLc.skip ?_)))
  rename_i ib okb
  rename Nat => eb
  refine SLc.loop (ι := Nat × Value × List Nat) (fun s => [(14, .int .i64 s.1), (7, .int .i64 k), (8, .int .i64 t), (9, ptr sb), (10, ptr lb), (11, ptr ib), (12, ptr okb), (13, ptr eb)])
    (fun s => .blk ib 3 [.int .i64 0] :: .blk okb 4 [.bool true] :: .blk eb 3 [.int .i64 0] :: (lockC lb sb (.slice none 0 0) ⟨false, 0, []⟩ ++ ((s.2.2.map fun b => (b, (⟨t, 0, false, false⟩ : WS))).map (wkP sb lb ib okb eb) ++ (schC sb qv s.2.1 (iniK P s.2.2) ++ []))))
    (fun s => s.1 ≤ k ∧ s.2.2.length = s.1) (fun s => k - s.1) (0, .slice none 0 0, []) ⟨Nat.zero_le _, rfl⟩ (by (repeat' (first | exact trivial | apply And.intro | rfl))) ?_ ?_
  · exact .cons (.there (.there .here)) (.cons (.there .here) (.cons .here .refl))
  rintro ⟨i, lw, B⟩ ⟨hi, hBl⟩
  dsimp only at hi hBl ⊢
  by_cases hlt : i < k
  · (repeat' (first | (first | refine SLl.nil ?_ | ((show SLl _ _ _ _ _ (⟨⟨_, _, _, _, _, _⟩, _, _⟩ :: _) _ _ _); first | refine SLl.ev rfl rfl rfl rfl ?_ | ((show SLl _ _ _ _ _ (⟨⟨_, .binOp _ _ _ _ _, _, _, _, _⟩, _, _⟩ :: _) _ _ _); ((refine SLl.cmp rfl rfl rfl rfl rfl rfl ?_ ?_ <;> intro hq <;> simp only [cmpP] at hq <;> try ((exfalso; omega))))) | ((show SLl _ _ _ _ _ (⟨⟨_, .box _ _, _, _, _, _⟩, _, _⟩ :: _) _ _ _); refine SLl.seq rfl rfl (SLo.boxC rfl (by (exact Cel.agg)) ?_); intro b) | ((show SLl _ _ _ _ _ (⟨⟨_, .build _ _, _, _, _, _⟩, _, _⟩ :: _) _ _ _); refine SLl.rdSeq rfl rfl (Rd.build rfl (by (repeat (first | exact CellsW.nil | (apply CellsW.cons; (· (exact Cel.one (by (exact One.lit rfl)))))))) (by rfl)) ?_))) | (first | refine SLc.seq ?_ | refine SLc.region rfl ?_ | refine SLc.condT rfl ?_ | refine SLc.block ?_ | refine SLc.skip ?_)))
    refine SLl.seq rfl rfl (SLo.call plain36 rfl (SLf.mono (Go_4H W _ _ _ _ _ _ [] sb qv lw (iniK P B) (.func 76) #[ptr b] #[] (by simp only [iniK, List.length_map]; omega)) ?_))
    rintro v σ ⟨lw', _, rfl⟩
    have hadd : addTask (iniK P B) ⟨.func (.func 76) #[ptr b] #[], false, false, false⟩ = iniK P (B ++ [b]) := by simp [addTask, iniK, wkV]
    rw [hadd]
    (repeat' (first | (first | refine SLl.nil ?_ | ((show SLl _ _ _ _ _ (⟨⟨_, _, _, _, _, _⟩, _, _⟩ :: _) _ _ _); first | refine SLl.ev rfl rfl rfl rfl ?_ | ((show SLl _ _ _ _ _ (⟨⟨_, .binOp _ _ _ _ _, _, _, _, _⟩, _, _⟩ :: _) _ _ _); (refine SLl.pu rfl rfl rfl (Pu.add rfl rfl (IntWalk.i64_in _ (by omega))) ?_)))) | (refine SLc.region rfl ?_)))
    refine And.intro rfl (Exists.intro (i + 1, lw', B ++ [b]) (And.intro ⟨by dsimp only; omega, by simp; omega⟩ (And.intro (by dsimp only; omega) (And.intro (by (repeat' (first | exact trivial | apply And.intro | rfl))) ?_))))
    dsimp only
    have e : ((B ++ [b]).map fun b => (b, (⟨t, 0, false, false⟩ : WS))).map (wkP sb lb ib okb eb) ++ (schC sb qv lw' (iniK P (B ++ [b])) ++ []) = (B.map fun b => (b, (⟨t, 0, false, false⟩ : WS))).map (wkP sb lb ib okb eb) ++ (wkP sb lb ib okb eb (b, ⟨t, 0, false, false⟩) :: (schC sb qv lw' (iniK P (B ++ [b])) ++ [])) := by simp
    rw [e]
    exact .cons (.there .here) (.cons (.there .here) (.cons (.there .here) (.trans .into (.left _ .into))))
  obtain rfl : i = k := by omega
  subst hBl
  have hmul1 : IntKind.i64.wrap (3 * (B.length : Int)) = 3 * (B.length : Int) := IntWalk.i64_in _ (by omega)
  have hmul2 : IntKind.i64.wrap (3 * (B.length : Int) * (t : Int)) = ((3 * (B.length * t) : Nat) : Int) := by
    have e : 3 * (B.length : Int) * (t : Int) = ((3 * (B.length * t) : Nat) : Int) := by
      rw [Int.mul_assoc]
      rfl
    rw [e]
    exact IntWalk.i64_in _ (by omega)
  (repeat' (first | (first | refine SLl.nil ?_ | ((show SLl _ _ _ _ _ (⟨⟨_, _, _, _, _, _⟩, _, _⟩ :: _) _ _ _); first | refine SLl.ev rfl rfl rfl rfl ?_ | ((show SLl _ _ _ _ _ (⟨⟨_, .binOp _ _ _ _ _, _, _, _, _⟩, _, _⟩ :: _) _ _ _); ((refine SLl.cmp rfl rfl rfl rfl rfl rfl ?_ ?_ <;> intro hq <;> simp only [cmpP] at hq <;> try ((exfalso; omega))))))) | (first | refine SLc.seq ?_ | refine SLc.region rfl ?_ | refine SLc.condF rfl ?_ | refine SLc.exit ?_)))
  refine SLl.seq rfl rfl (SLo.call plain45 rfl (SLf.mono (RunK W [] ib okb eb lb sb qv lw P B t hk2 ht2 hP) ?_))
  rintro v σ ⟨q, L, nn, hown, hqu, hnn, rfl, rfl⟩
  (repeat' (first | (first | refine SLl.nil ?_ | ((show SLl _ _ _ _ _ (⟨⟨_, _, _, _, _, _⟩, _, _⟩ :: _) _ _ _); first | refine SLl.ev rfl rfl rfl rfl ?_ | ((show SLl _ _ _ _ _ (⟨⟨_, .load _ _, _, _, _, _⟩, _, _⟩ :: _) _ _ _); (refine SLl.rdSeq rfl rfl (Rd.load rfl rfl (by ((apply Reads.blk; (· (repeat (first | apply Sel.here | apply Sel.there))); (· rfl))))) ?_)) | ((show SLl _ _ _ _ _ (⟨⟨_, .binOp _ _ _ _ _, _, _, _, _⟩, _, _⟩ :: _) _ _ _); ((refine SLl.cmp rfl rfl rfl rfl rfl rfl ?_ ?_ <;> intro hq <;> simp only [cmpP] at hq <;> try (exact (hq trivial).elim)))))) | (first | refine SLc.seq ?_ | refine SLc.region rfl ?_)))
  refine SLl.pu rfl rfl rfl (Pu.mul rfl rfl hmul1) ?_
  (repeat' ((((show SLl _ _ _ _ _ (⟨⟨_, _, _, _, _, _⟩, _, _⟩ :: _) _ _ _); refine SLl.ev rfl rfl rfl rfl ?_))))
  refine SLl.pu rfl rfl rfl (Pu.mul rfl rfl hmul2) ?_
  (repeat' ((((show SLl _ _ _ _ _ (⟨⟨_, _, _, _, _, _⟩, _, _⟩ :: _) _ _ _); first | refine SLl.ev rfl rfl rfl rfl ?_ | ((show SLl _ _ _ _ _ (⟨⟨_, .binOp _ _ _ _ _, _, _, _, _⟩, _, _⟩ :: _) _ _ _); ((refine SLl.cmp rfl rfl rfl rfl rfl rfl ?_ ?_ <;> intro hq <;> simp only [cmpP] at hq <;> try ((exfalso; omega)))))))))
  refine SLl.seq rfl rfl (SLo.call plain40 rfl (SLf.mono (Owner_k3 W _ _ _ _ lb sb q L) ?_))
  rintro v σ ⟨rfl, rfl⟩
  rw [hown]
  (repeat' ((((show SLl _ _ _ _ _ (⟨⟨_, _, _, _, _, _⟩, _, _⟩ :: _) _ _ _); first | refine SLl.ev rfl rfl rfl rfl ?_ | ((show SLl _ _ _ _ _ (⟨⟨_, .binOp _ _ _ _ _, _, _, _, _⟩, _, _⟩ :: _) _ _ _); ((refine SLl.cmp rfl rfl rfl rfl rfl rfl ?_ ?_ <;> intro hq <;> simp only [cmpP] at hq <;> try (exact (hq trivial).elim))))))))
  refine SLl.seq rfl rfl (SLo.call plain42 rfl (SLf.mono (Queue_k3 W _ _ _ _ lb sb q L hqu) ?_))
  rintro v σ rfl
  have hi0 : (ints []).length = 0 := rfl
  (repeat' (first | (first | refine SLl.nil ?_ | ((show SLl _ _ _ _ _ (⟨⟨_, _, _, _, _, _⟩, _, _⟩ :: _) _ _ _); first | refine SLl.ev rfl rfl rfl rfl ?_ | ((show SLl _ _ _ _ _ (⟨⟨_, .call ⟨.builtin .len, _, _⟩, _, _, _, _⟩, _, _⟩ :: _) _ _ _); refine SLl.rdSeq rfl rfl (Rd.len rfl (by ((apply Len.row; (· (repeat (apply Sel.here))))))) ?_) | ((show SLl _ _ _ _ _ (⟨⟨_, .binOp _ _ _ _ _, _, _, _, _⟩, _, _⟩ :: _) _ _ _); ((refine SLl.cmp rfl rfl rfl rfl rfl rfl ?_ ?_ <;> intro hq <;> simp only [cmpP] at hq <;> try ((exfalso; omega))))))) | (refine SLc.ret ?_)))
  exact And.intro rfl (Exists.intro _ (Exists.intro [] (And.intro rfl (And.intro .drop rfl))))
end Go.Sl
