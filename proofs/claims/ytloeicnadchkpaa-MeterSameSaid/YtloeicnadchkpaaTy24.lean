/- Facts on the types and functions of this seat's program, laid by a program (gen.py). -/
import Derived.Test.YtloeicnadchkpaaSL7
import Derived.Test.YtloeicnadchkpaaProg
import Derived.KernelRfl
set_option maxRecDepth 100000
namespace Go.Sl
open Go.Proofs
theorem Ty.mk2 {P : Program} {t : TypeId} {d : TypeDesc} {s b : Nat} {z : Value} {zs : List Value} (hu : P.underlying t = some d)
    (hi : (P.info? t).map (fun i => (i.size, i.bytes, i.zero)) = some (s, b, some z)) (hz : z.cells.toList = zs) : Ty P t d s b zs := by
  cases h : P.info? t with
  | none => simp [h] at hi
  | some i => simp [h] at hi; exact ⟨hu, i, z, h, hi.1, hi.2.1, hi.2.2, hz⟩
theorem Fld.mk2 {P : Program} {t : TypeId} {i off : Nat} {ft : TypeId} {fs : Array Field} {f : Field} (hu : P.underlying t = some (.struct fs)) (hf : fs[i]? = some f) (ho : f.offset = off) (ht : f.type = ft)
    (m : Nat) (hc : (P.info? ft).map (·.size) = some (m + 1)) : Fld P t i off ft := by
  refine ⟨fs, f, hu, hf, ho, ht, ?_, ?_⟩
  · simp [Program.cellsOf, hc]
  · cases h : P.info? ft with
    | none => simp [h] at hc
    | some i => rfl
theorem Places.mk2 {P : Program} {t : TypeId} {fs : Array Field} {pl : List (Nat × Nat)} (hu : P.underlying t = some (.struct fs))
    (h : fs.toList.map (fun f => (f.offset, (P.info? f.type).map (·.size))) = pl.map (fun p => (p.1, some p.2))) : Places P t pl := by
  refine ⟨fs, hu, fun w => ?_⟩
  have key : ∀ (l : List Field) (pl : List (Nat × Nat)), l.map (fun f => (f.offset, (P.info? f.type).map (·.size))) = pl.map (fun p => (p.1, some p.2)) →
      (l.mapM fun f => (do pure (f.offset, ← sizeOf f.type) : Sem (Nat × Nat))).run P w = .ok pl w := by
    intro l
    induction l with
    | nil => intro pl h; cases pl with
      | nil => rfl
      | cons _ _ => simp at h
    | cons f l ih => intro pl h; cases pl with
      | nil => simp at h
      | cons p pl =>
        simp only [List.map_cons, List.cons.injEq, Prod.mk.injEq] at h
        obtain ⟨⟨h1, h2⟩, h3⟩ := h
        have hs : (sizeOf f.type).run P w = .ok p.2 w := by
          cases hi : P.info? f.type with
          | none => simp [hi] at h2
          | some i => simp [hi] at h2; simp [sizeOf, typeInfo, hi, h2]
        have hp : (f.offset, p.2) = p := by rw [h1]
        simp only [List.mapM_cons, Sem.run_bind, hs, Result.andThen_ok, Sem.run_pure, ih pl h3, hp]
  rw [Array.mapM_eq_mapM_toList]
  have hk := key fs.toList pl h
  simp only [Sem.run_map]
  refine (congrArg (fun r : Result (List (Nat × Nat)) => r.andThen fun a w' => Result.ok a.toArray w') hk).trans ?_
  rfl
theorem mixed : Try.prog.follows .mixedOrders = true := by kernel_rfl

instance ty1 : Ty Try.prog 1 (.func #[] #[] false) 1 8 [.nilFunc] := Ty.mk2 (z := .nilFunc) Try.underlying1 (by kernel_rfl) rfl
instance ty2 : Ty Try.prog 2 (.int .i64) 1 8 [.int .i64 0] := Ty.mk2 (z := .int .i64 0) Try.underlying2 (by kernel_rfl) rfl
instance ty3 : Ty Try.prog 3 (.int .i64) 1 8 [.int .i64 0] := Ty.mk2 (z := .int .i64 0) Try.underlying3 (by kernel_rfl) rfl
instance ty4 : Ty Try.prog 4 (.bool) 1 1 [.bool false] := Ty.mk2 (z := .bool false) Try.underlying4 (by kernel_rfl) rfl
instance ty5 : Ty Try.prog 5 (.int .u8) 1 1 [.int .u8 0] := Ty.mk2 (z := .int .u8 0) Try.underlying5 (by kernel_rfl) rfl
instance ty6 : Ty Try.prog 6 (.int .u8) 1 1 [.int .u8 0] := Ty.mk2 (z := .int .u8 0) Try.underlying6 (by kernel_rfl) rfl
noncomputable def fs7 : Array Field := match Try.prog.underlying 7 with | some (.struct f) => f | _ => #[]
theorem fs7_eq : Try.prog.underlying 7 = some (.struct fs7) := by kernel_rfl
instance ty7 : Ty Try.prog 7 (.struct fs7) 4 24 [.int .i64 0, .int .i64 0, .bool false, .int .u8 0] := Ty.mk2 (z := .agg #[.int .i64 0, .int .i64 0, .bool false, .int .u8 0]) fs7_eq (by kernel_rfl) rfl
instance fld7_0 : Fld Try.prog 7 0 0 2 := Fld.mk2 Try.underlying7 rfl rfl rfl 0 (by kernel_rfl)
instance fld7_1 : Fld Try.prog 7 1 1 3 := Fld.mk2 Try.underlying7 rfl rfl rfl 0 (by kernel_rfl)
instance fld7_2 : Fld Try.prog 7 2 2 4 := Fld.mk2 Try.underlying7 rfl rfl rfl 0 (by kernel_rfl)
instance fld7_3 : Fld Try.prog 7 3 3 6 := Fld.mk2 Try.underlying7 rfl rfl rfl 0 (by kernel_rfl)
instance pl7 : Places Try.prog 7 [(0, 1), (1, 1), (2, 1), (3, 1)] := Places.mk2 Try.underlying7 (by kernel_rfl)
noncomputable def fs8 : Array Field := match Try.prog.underlying 8 with | some (.struct f) => f | _ => #[]
theorem fs8_eq : Try.prog.underlying 8 = some (.struct fs8) := by kernel_rfl
instance ty8 : Ty Try.prog 8 (.struct fs8) 4 24 [.int .i64 0, .int .i64 0, .bool false, .int .u8 0] := Ty.mk2 (z := .agg #[.int .i64 0, .int .i64 0, .bool false, .int .u8 0]) fs8_eq (by kernel_rfl) rfl
instance fld8_0 : Fld Try.prog 8 0 0 2 := Fld.mk2 Try.underlying8 rfl rfl rfl 0 (by kernel_rfl)
instance fld8_1 : Fld Try.prog 8 1 1 3 := Fld.mk2 Try.underlying8 rfl rfl rfl 0 (by kernel_rfl)
instance fld8_2 : Fld Try.prog 8 2 2 4 := Fld.mk2 Try.underlying8 rfl rfl rfl 0 (by kernel_rfl)
instance fld8_3 : Fld Try.prog 8 3 3 6 := Fld.mk2 Try.underlying8 rfl rfl rfl 0 (by kernel_rfl)
instance pl8 : Places Try.prog 8 [(0, 1), (1, 1), (2, 1), (3, 1)] := Places.mk2 Try.underlying8 (by kernel_rfl)
instance ty9 : Ty Try.prog 9 (.string) 1 16 [.string ⟨#[]⟩] := Ty.mk2 (z := .string ⟨#[]⟩) Try.underlying9 (by kernel_rfl) rfl
instance ty10 : Ty Try.prog 10 (.string) 1 16 [.string ⟨#[]⟩] := Ty.mk2 (z := .string ⟨#[]⟩) Try.underlying10 (by kernel_rfl) rfl
instance ty11 : Ty Try.prog 11 (.string) 1 16 [.string ⟨#[]⟩] := Ty.mk2 (z := .string ⟨#[]⟩) Try.underlying11 (by kernel_rfl) rfl
instance ty12 : Ty Try.prog 12 (.int .u64) 1 8 [.int .u64 0] := Ty.mk2 (z := .int .u64 0) Try.underlying12 (by kernel_rfl) rfl
noncomputable def fs13 : Array Field := match Try.prog.underlying 13 with | some (.struct f) => f | _ => #[]
theorem fs13_eq : Try.prog.underlying 13 = some (.struct fs13) := by kernel_rfl
instance ty13 : Ty Try.prog 13 (.struct fs13) 2 24 [.string ⟨#[]⟩, .int .u64 0] := Ty.mk2 (z := .agg #[.string ⟨#[]⟩, .int .u64 0]) fs13_eq (by kernel_rfl) rfl
instance fld13_0 : Fld Try.prog 13 0 0 9 := Fld.mk2 Try.underlying13 rfl rfl rfl 0 (by kernel_rfl)
instance fld13_1 : Fld Try.prog 13 1 1 12 := Fld.mk2 Try.underlying13 rfl rfl rfl 0 (by kernel_rfl)
instance pl13 : Places Try.prog 13 [(0, 1), (1, 1)] := Places.mk2 Try.underlying13 (by kernel_rfl)
noncomputable def fs14 : Array Field := match Try.prog.underlying 14 with | some (.struct f) => f | _ => #[]
theorem fs14_eq : Try.prog.underlying 14 = some (.struct fs14) := by kernel_rfl
instance ty14 : Ty Try.prog 14 (.struct fs14) 2 24 [.string ⟨#[]⟩, .int .u64 0] := Ty.mk2 (z := .agg #[.string ⟨#[]⟩, .int .u64 0]) fs14_eq (by kernel_rfl) rfl
instance fld14_0 : Fld Try.prog 14 0 0 9 := Fld.mk2 Try.underlying14 rfl rfl rfl 0 (by kernel_rfl)
instance fld14_1 : Fld Try.prog 14 1 1 12 := Fld.mk2 Try.underlying14 rfl rfl rfl 0 (by kernel_rfl)
instance pl14 : Places Try.prog 14 [(0, 1), (1, 1)] := Places.mk2 Try.underlying14 (by kernel_rfl)
instance ty15 : Ty Try.prog 15 (.pointer 160) 1 8 [.pointer none] := Ty.mk2 (z := .pointer none) Try.underlying15 (by kernel_rfl) rfl
instance ty16 : Ty Try.prog 16 (.pointer 163) 1 8 [.pointer none] := Ty.mk2 (z := .pointer none) Try.underlying16 (by kernel_rfl) rfl
instance ty17 : Ty Try.prog 17 (.pointer 172) 1 8 [.pointer none] := Ty.mk2 (z := .pointer none) Try.underlying17 (by kernel_rfl) rfl
noncomputable def fs18 : Array Field := match Try.prog.underlying 18 with | some (.struct f) => f | _ => #[]
theorem fs18_eq : Try.prog.underlying 18 = some (.struct fs18) := by kernel_rfl
instance ty18 : Ty Try.prog 18 (.struct fs18) 1 8 [.pointer none] := Ty.mk2 (z := .agg #[.pointer none]) fs18_eq (by kernel_rfl) rfl
instance fld18_0 : Fld Try.prog 18 0 0 17 := Fld.mk2 Try.underlying18 rfl rfl rfl 0 (by kernel_rfl)
instance pl18 : Places Try.prog 18 [(0, 1)] := Places.mk2 Try.underlying18 (by kernel_rfl)
noncomputable def fs19 : Array Field := match Try.prog.underlying 19 with | some (.struct f) => f | _ => #[]
theorem fs19_eq : Try.prog.underlying 19 = some (.struct fs19) := by kernel_rfl
instance ty19 : Ty Try.prog 19 (.struct fs19) 1 8 [.pointer none] := Ty.mk2 (z := .agg #[.pointer none]) fs19_eq (by kernel_rfl) rfl
instance fld19_0 : Fld Try.prog 19 0 0 17 := Fld.mk2 Try.underlying19 rfl rfl rfl 0 (by kernel_rfl)
instance pl19 : Places Try.prog 19 [(0, 1)] := Places.mk2 Try.underlying19 (by kernel_rfl)
instance ty21 : Ty Try.prog 21 (.int .i32) 1 4 [.int .i32 0] := Ty.mk2 (z := .int .i32 0) Try.underlying21 (by kernel_rfl) rfl
instance ty22 : Ty Try.prog 22 (.slice 47) 1 24 [.slice none 0 0] := Ty.mk2 (z := .slice none 0 0) Try.underlying22 (by kernel_rfl) rfl
noncomputable def fs23 : Array Field := match Try.prog.underlying 23 with | some (.struct f) => f | _ => #[]
theorem fs23_eq : Try.prog.underlying 23 = some (.struct fs23) := by kernel_rfl
instance ty23 : Ty Try.prog 23 (.struct fs23) 1 24 [.slice none 0 0] := Ty.mk2 (z := .agg #[.slice none 0 0]) fs23_eq (by kernel_rfl) rfl
instance fld23_0 : Fld Try.prog 23 0 0 22 := Fld.mk2 Try.underlying23 rfl rfl rfl 0 (by kernel_rfl)
instance pl23 : Places Try.prog 23 [(0, 1)] := Places.mk2 Try.underlying23 (by kernel_rfl)
noncomputable def fs24 : Array Field := match Try.prog.underlying 24 with | some (.struct f) => f | _ => #[]
theorem fs24_eq : Try.prog.underlying 24 = some (.struct fs24) := by kernel_rfl
instance ty24 : Ty Try.prog 24 (.struct fs24) 1 24 [.slice none 0 0] := Ty.mk2 (z := .agg #[.slice none 0 0]) fs24_eq (by kernel_rfl) rfl
instance fld24_0 : Fld Try.prog 24 0 0 22 := Fld.mk2 Try.underlying24 rfl rfl rfl 0 (by kernel_rfl)
instance pl24 : Places Try.prog 24 [(0, 1)] := Places.mk2 Try.underlying24 (by kernel_rfl)
instance ty25 : Ty Try.prog 25 (.func #[] #[4] false) 1 8 [.nilFunc] := Ty.mk2 (z := .nilFunc) Try.underlying25 (by kernel_rfl) rfl
instance ty26 : Ty Try.prog 26 (.func #[27] #[4] false) 1 8 [.nilFunc] := Ty.mk2 (z := .nilFunc) Try.underlying26 (by kernel_rfl) rfl
instance ty27 : Ty Try.prog 27 (.slice 24) 1 24 [.slice none 0 0] := Ty.mk2 (z := .slice none 0 0) Try.underlying27 (by kernel_rfl) rfl
instance ty28 : Ty Try.prog 28 (.slice 4) 1 24 [.slice none 0 0] := Ty.mk2 (z := .slice none 0 0) Try.underlying28 (by kernel_rfl) rfl
instance ty29 : Ty Try.prog 29 (.func #[24, 3] #[28] false) 1 8 [.nilFunc] := Ty.mk2 (z := .nilFunc) Try.underlying29 (by kernel_rfl) rfl
instance ty30 : Ty Try.prog 30 (.slice 36) 1 24 [.slice none 0 0] := Ty.mk2 (z := .slice none 0 0) Try.underlying30 (by kernel_rfl) rfl
instance ty31 : Ty Try.prog 31 (.func #[24, 3] #[30] false) 1 8 [.nilFunc] := Ty.mk2 (z := .nilFunc) Try.underlying31 (by kernel_rfl) rfl
instance ty32 : Ty Try.prog 32 (.slice 3) 1 24 [.slice none 0 0] := Ty.mk2 (z := .slice none 0 0) Try.underlying32 (by kernel_rfl) rfl
instance ty33 : Ty Try.prog 33 (.func #[24, 3] #[32] false) 1 8 [.nilFunc] := Ty.mk2 (z := .nilFunc) Try.underlying33 (by kernel_rfl) rfl
instance ty34 : Ty Try.prog 34 (.slice 37) 1 24 [.slice none 0 0] := Ty.mk2 (z := .slice none 0 0) Try.underlying34 (by kernel_rfl) rfl
instance ty35 : Ty Try.prog 35 (.func #[24, 3] #[34] false) 1 8 [.nilFunc] := Ty.mk2 (z := .nilFunc) Try.underlying35 (by kernel_rfl) rfl
instance ty36 : Ty Try.prog 36 (.slice 39) 1 24 [.slice none 0 0] := Ty.mk2 (z := .slice none 0 0) Try.underlying36 (by kernel_rfl) rfl
instance ty37 : Ty Try.prog 37 (.slice 40) 1 24 [.slice none 0 0] := Ty.mk2 (z := .slice none 0 0) Try.underlying37 (by kernel_rfl) rfl
noncomputable def fs38 : Array Field := match Try.prog.underlying 38 with | some (.struct f) => f | _ => #[]
theorem fs38_eq : Try.prog.underlying 38 = some (.struct fs38) := by kernel_rfl
instance ty38 : Ty Try.prog 38 (.struct fs38) 2 16 [.int .i64 0, .int .i64 0] := Ty.mk2 (z := .agg #[.int .i64 0, .int .i64 0]) fs38_eq (by kernel_rfl) rfl
instance fld38_0 : Fld Try.prog 38 0 0 3 := Fld.mk2 Try.underlying38 rfl rfl rfl 0 (by kernel_rfl)
instance fld38_1 : Fld Try.prog 38 1 1 3 := Fld.mk2 Try.underlying38 rfl rfl rfl 0 (by kernel_rfl)
instance pl38 : Places Try.prog 38 [(0, 1), (1, 1)] := Places.mk2 Try.underlying38 (by kernel_rfl)
noncomputable def fs39 : Array Field := match Try.prog.underlying 39 with | some (.struct f) => f | _ => #[]
theorem fs39_eq : Try.prog.underlying 39 = some (.struct fs39) := by kernel_rfl
instance ty39 : Ty Try.prog 39 (.struct fs39) 2 16 [.int .i64 0, .int .i64 0] := Ty.mk2 (z := .agg #[.int .i64 0, .int .i64 0]) fs39_eq (by kernel_rfl) rfl
instance fld39_0 : Fld Try.prog 39 0 0 3 := Fld.mk2 Try.underlying39 rfl rfl rfl 0 (by kernel_rfl)
instance fld39_1 : Fld Try.prog 39 1 1 3 := Fld.mk2 Try.underlying39 rfl rfl rfl 0 (by kernel_rfl)
instance pl39 : Places Try.prog 39 [(0, 1), (1, 1)] := Places.mk2 Try.underlying39 (by kernel_rfl)
noncomputable def fs40 : Array Field := match Try.prog.underlying 40 with | some (.struct f) => f | _ => #[]
theorem fs40_eq : Try.prog.underlying 40 = some (.struct fs40) := by kernel_rfl
instance ty40 : Ty Try.prog 40 (.struct fs40) 2 16 [.int .i64 0, .int .i64 0] := Ty.mk2 (z := .agg #[.int .i64 0, .int .i64 0]) fs40_eq (by kernel_rfl) rfl
instance fld40_0 : Fld Try.prog 40 0 0 3 := Fld.mk2 Try.underlying40 rfl rfl rfl 0 (by kernel_rfl)
instance fld40_1 : Fld Try.prog 40 1 1 3 := Fld.mk2 Try.underlying40 rfl rfl rfl 0 (by kernel_rfl)
instance pl40 : Places Try.prog 40 [(0, 1), (1, 1)] := Places.mk2 Try.underlying40 (by kernel_rfl)
instance ty41 : Ty Try.prog 41 (.func #[24, 3] #[4] false) 1 8 [.nilFunc] := Ty.mk2 (z := .nilFunc) Try.underlying41 (by kernel_rfl) rfl
instance ty42 : Ty Try.prog 42 (.slice 154) 1 24 [.slice none 0 0] := Ty.mk2 (z := .slice none 0 0) Try.underlying42 (by kernel_rfl) rfl
noncomputable def fs43 : Array Field := match Try.prog.underlying 43 with | some (.struct f) => f | _ => #[]
theorem fs43_eq : Try.prog.underlying 43 = some (.struct fs43) := by kernel_rfl
instance ty43 : Ty Try.prog 43 (.struct fs43) 2 48 [.slice none 0 0, .slice none 0 0] := Ty.mk2 (z := .agg #[.slice none 0 0, .slice none 0 0]) fs43_eq (by kernel_rfl) rfl
instance fld43_0 : Fld Try.prog 43 0 0 32 := Fld.mk2 Try.underlying43 rfl rfl rfl 0 (by kernel_rfl)
instance fld43_1 : Fld Try.prog 43 1 1 42 := Fld.mk2 Try.underlying43 rfl rfl rfl 0 (by kernel_rfl)
instance pl43 : Places Try.prog 43 [(0, 1), (1, 1)] := Places.mk2 Try.underlying43 (by kernel_rfl)
noncomputable def fs44 : Array Field := match Try.prog.underlying 44 with | some (.struct f) => f | _ => #[]
theorem fs44_eq : Try.prog.underlying 44 = some (.struct fs44) := by kernel_rfl
instance ty44 : Ty Try.prog 44 (.struct fs44) 2 48 [.slice none 0 0, .slice none 0 0] := Ty.mk2 (z := .agg #[.slice none 0 0, .slice none 0 0]) fs44_eq (by kernel_rfl) rfl
instance fld44_0 : Fld Try.prog 44 0 0 32 := Fld.mk2 Try.underlying44 rfl rfl rfl 0 (by kernel_rfl)
instance fld44_1 : Fld Try.prog 44 1 1 42 := Fld.mk2 Try.underlying44 rfl rfl rfl 0 (by kernel_rfl)
instance pl44 : Places Try.prog 44 [(0, 1), (1, 1)] := Places.mk2 Try.underlying44 (by kernel_rfl)
instance ty45 : Ty Try.prog 45 (.slice 174) 1 24 [.slice none 0 0] := Ty.mk2 (z := .slice none 0 0) Try.underlying45 (by kernel_rfl) rfl
noncomputable def fs46 : Array Field := match Try.prog.underlying 46 with | some (.struct f) => f | _ => #[]
theorem fs46_eq : Try.prog.underlying 46 = some (.struct fs46) := by kernel_rfl
instance ty46 : Ty Try.prog 46 (.struct fs46) 7 136 [.int .i64 0, .slice none 0 0, .slice none 0 0, .int .i64 0, .slice none 0 0, .slice none 0 0, .slice none 0 0] := Ty.mk2 (z := .agg #[.int .i64 0, .slice none 0 0, .slice none 0 0, .int .i64 0, .slice none 0 0, .slice none 0 0, .slice none 0 0]) fs46_eq (by kernel_rfl) rfl
instance fld46_0 : Fld Try.prog 46 0 0 3 := Fld.mk2 Try.underlying46 rfl rfl rfl 0 (by kernel_rfl)
instance fld46_1 : Fld Try.prog 46 1 1 32 := Fld.mk2 Try.underlying46 rfl rfl rfl 0 (by kernel_rfl)
instance fld46_2 : Fld Try.prog 46 2 2 32 := Fld.mk2 Try.underlying46 rfl rfl rfl 0 (by kernel_rfl)
instance fld46_3 : Fld Try.prog 46 3 3 3 := Fld.mk2 Try.underlying46 rfl rfl rfl 0 (by kernel_rfl)
instance fld46_4 : Fld Try.prog 46 4 4 44 := Fld.mk2 Try.underlying46 rfl rfl rfl 1 (by kernel_rfl)
instance fld46_5 : Fld Try.prog 46 5 6 45 := Fld.mk2 Try.underlying46 rfl rfl rfl 0 (by kernel_rfl)
instance pl46 : Places Try.prog 46 [(0, 1), (1, 1), (2, 1), (3, 1), (4, 2), (6, 1)] := Places.mk2 Try.underlying46 (by kernel_rfl)
noncomputable def fs47 : Array Field := match Try.prog.underlying 47 with | some (.struct f) => f | _ => #[]
theorem fs47_eq : Try.prog.underlying 47 = some (.struct fs47) := by kernel_rfl
instance ty47 : Ty Try.prog 47 (.struct fs47) 7 136 [.int .i64 0, .slice none 0 0, .slice none 0 0, .int .i64 0, .slice none 0 0, .slice none 0 0, .slice none 0 0] := Ty.mk2 (z := .agg #[.int .i64 0, .slice none 0 0, .slice none 0 0, .int .i64 0, .slice none 0 0, .slice none 0 0, .slice none 0 0]) fs47_eq (by kernel_rfl) rfl
instance fld47_0 : Fld Try.prog 47 0 0 3 := Fld.mk2 Try.underlying47 rfl rfl rfl 0 (by kernel_rfl)
instance fld47_1 : Fld Try.prog 47 1 1 32 := Fld.mk2 Try.underlying47 rfl rfl rfl 0 (by kernel_rfl)
instance fld47_2 : Fld Try.prog 47 2 2 32 := Fld.mk2 Try.underlying47 rfl rfl rfl 0 (by kernel_rfl)
instance fld47_3 : Fld Try.prog 47 3 3 3 := Fld.mk2 Try.underlying47 rfl rfl rfl 0 (by kernel_rfl)
instance fld47_4 : Fld Try.prog 47 4 4 44 := Fld.mk2 Try.underlying47 rfl rfl rfl 1 (by kernel_rfl)
instance fld47_5 : Fld Try.prog 47 5 6 45 := Fld.mk2 Try.underlying47 rfl rfl rfl 0 (by kernel_rfl)
instance pl47 : Places Try.prog 47 [(0, 1), (1, 1), (2, 1), (3, 1), (4, 2), (6, 1)] := Places.mk2 Try.underlying47 (by kernel_rfl)
instance ty48 : Ty Try.prog 48 (.func #[5, 28, 5] #[4] false) 1 8 [.nilFunc] := Ty.mk2 (z := .nilFunc) Try.underlying48 (by kernel_rfl) rfl
instance ty49 : Ty Try.prog 49 (.pointer 130) 1 8 [.pointer none] := Ty.mk2 (z := .pointer none) Try.underlying49 (by kernel_rfl) rfl
instance ty50 : Ty Try.prog 50 (.func #[59] #[49] false) 1 8 [.nilFunc] := Ty.mk2 (z := .nilFunc) Try.underlying50 (by kernel_rfl) rfl
instance ty51 : Ty Try.prog 51 (.int .i64) 1 8 [.int .i64 0] := Ty.mk2 (z := .int .i64 0) Try.underlying51 (by kernel_rfl) rfl
instance ty53 : Ty Try.prog 53 (.func #[54] #[3, 51] false) 1 8 [.nilFunc] := Ty.mk2 (z := .nilFunc) Try.underlying53 (by kernel_rfl) rfl
instance ty54 : Ty Try.prog 54 (.func #[] #[3] false) 1 8 [.nilFunc] := Ty.mk2 (z := .nilFunc) Try.underlying54 (by kernel_rfl) rfl
instance ty55 : Ty Try.prog 55 (.pointer 134) 1 8 [.pointer none] := Ty.mk2 (z := .pointer none) Try.underlying55 (by kernel_rfl) rfl
instance ty56 : Ty Try.prog 56 (.func #[49] #[55] false) 1 8 [.nilFunc] := Ty.mk2 (z := .nilFunc) Try.underlying56 (by kernel_rfl) rfl
instance ty57 : Ty Try.prog 57 (.func #[3] #[4] false) 1 8 [.nilFunc] := Ty.mk2 (z := .nilFunc) Try.underlying57 (by kernel_rfl) rfl
instance ty58 : Ty Try.prog 58 (.func #[] #[32] false) 1 8 [.nilFunc] := Ty.mk2 (z := .nilFunc) Try.underlying58 (by kernel_rfl) rfl
instance ty59 : Ty Try.prog 59 (.slice 5) 1 24 [.slice none 0 0] := Ty.mk2 (z := .slice none 0 0) Try.underlying59 (by kernel_rfl) rfl
instance ty60 : Ty Try.prog 60 (.func #[3] #[3, 51] false) 1 8 [.nilFunc] := Ty.mk2 (z := .nilFunc) Try.underlying60 (by kernel_rfl) rfl
instance ty61 : Ty Try.prog 61 (.func #[59, 59] #[4] false) 1 8 [.nilFunc] := Ty.mk2 (z := .nilFunc) Try.underlying61 (by kernel_rfl) rfl
instance ty62 : Ty Try.prog 62 (.func #[5] #[4] false) 1 8 [.nilFunc] := Ty.mk2 (z := .nilFunc) Try.underlying62 (by kernel_rfl) rfl
instance ty63 : Ty Try.prog 63 (.slice 66) 1 24 [.slice none 0 0] := Ty.mk2 (z := .slice none 0 0) Try.underlying63 (by kernel_rfl) rfl
instance ty64 : Ty Try.prog 64 (.func #[63] #[4] false) 1 8 [.nilFunc] := Ty.mk2 (z := .nilFunc) Try.underlying64 (by kernel_rfl) rfl
instance ty65 : Ty Try.prog 65 (.pointer 69) 1 8 [.pointer none] := Ty.mk2 (z := .pointer none) Try.underlying65 (by kernel_rfl) rfl
instance ty66 : Ty Try.prog 66 (.slice 140) 1 24 [.slice none 0 0] := Ty.mk2 (z := .slice none 0 0) Try.underlying66 (by kernel_rfl) rfl
instance ty67 : Ty Try.prog 67 (.pointer 32) 1 8 [.pointer none] := Ty.mk2 (z := .pointer none) Try.underlying67 (by kernel_rfl) rfl
noncomputable def fs68 : Array Field := match Try.prog.underlying 68 with | some (.struct f) => f | _ => #[]
theorem fs68_eq : Try.prog.underlying 68 = some (.struct fs68) := by kernel_rfl
instance ty68 : Ty Try.prog 68 (.struct fs68) 4 48 [.pointer none, .slice none 0 0, .int .i64 0, .pointer none] := Ty.mk2 (z := .agg #[.pointer none, .slice none 0 0, .int .i64 0, .pointer none]) fs68_eq (by kernel_rfl) rfl
instance fld68_0 : Fld Try.prog 68 0 0 49 := Fld.mk2 Try.underlying68 rfl rfl rfl 0 (by kernel_rfl)
instance fld68_1 : Fld Try.prog 68 1 1 66 := Fld.mk2 Try.underlying68 rfl rfl rfl 0 (by kernel_rfl)
instance fld68_2 : Fld Try.prog 68 2 2 3 := Fld.mk2 Try.underlying68 rfl rfl rfl 0 (by kernel_rfl)
instance fld68_3 : Fld Try.prog 68 3 3 67 := Fld.mk2 Try.underlying68 rfl rfl rfl 0 (by kernel_rfl)
instance pl68 : Places Try.prog 68 [(0, 1), (1, 1), (2, 1), (3, 1)] := Places.mk2 Try.underlying68 (by kernel_rfl)
noncomputable def fs69 : Array Field := match Try.prog.underlying 69 with | some (.struct f) => f | _ => #[]
theorem fs69_eq : Try.prog.underlying 69 = some (.struct fs69) := by kernel_rfl
instance ty69 : Ty Try.prog 69 (.struct fs69) 4 48 [.pointer none, .slice none 0 0, .int .i64 0, .pointer none] := Ty.mk2 (z := .agg #[.pointer none, .slice none 0 0, .int .i64 0, .pointer none]) fs69_eq (by kernel_rfl) rfl
instance fld69_0 : Fld Try.prog 69 0 0 49 := Fld.mk2 Try.underlying69 rfl rfl rfl 0 (by kernel_rfl)
instance fld69_1 : Fld Try.prog 69 1 1 66 := Fld.mk2 Try.underlying69 rfl rfl rfl 0 (by kernel_rfl)
instance fld69_2 : Fld Try.prog 69 2 2 3 := Fld.mk2 Try.underlying69 rfl rfl rfl 0 (by kernel_rfl)
instance fld69_3 : Fld Try.prog 69 3 3 67 := Fld.mk2 Try.underlying69 rfl rfl rfl 0 (by kernel_rfl)
instance pl69 : Places Try.prog 69 [(0, 1), (1, 1), (2, 1), (3, 1)] := Places.mk2 Try.underlying69 (by kernel_rfl)
instance ty70 : Ty Try.prog 70 (.func #[63, 59, 59] #[4] false) 1 8 [.nilFunc] := Ty.mk2 (z := .nilFunc) Try.underlying70 (by kernel_rfl) rfl
instance ty71 : Ty Try.prog 71 (.slice 78) 1 24 [.slice none 0 0] := Ty.mk2 (z := .slice none 0 0) Try.underlying71 (by kernel_rfl) rfl
instance ty72 : Ty Try.prog 72 (.pointer 75) 1 8 [.pointer none] := Ty.mk2 (z := .pointer none) Try.underlying72 (by kernel_rfl) rfl
instance ty73 : Ty Try.prog 73 (.slice 82) 1 24 [.slice none 0 0] := Ty.mk2 (z := .slice none 0 0) Try.underlying73 (by kernel_rfl) rfl
noncomputable def fs74 : Array Field := match Try.prog.underlying 74 with | some (.struct f) => f | _ => #[]
theorem fs74_eq : Try.prog.underlying 74 = some (.struct fs74) := by kernel_rfl
instance ty74 : Ty Try.prog 74 (.struct fs74) 4 80 [.slice none 0 0, .slice none 0 0, .int .i64 0, .slice none 0 0] := Ty.mk2 (z := .agg #[.slice none 0 0, .slice none 0 0, .int .i64 0, .slice none 0 0]) fs74_eq (by kernel_rfl) rfl
instance fld74_0 : Fld Try.prog 74 0 0 59 := Fld.mk2 Try.underlying74 rfl rfl rfl 0 (by kernel_rfl)
instance fld74_1 : Fld Try.prog 74 1 1 73 := Fld.mk2 Try.underlying74 rfl rfl rfl 0 (by kernel_rfl)
instance fld74_2 : Fld Try.prog 74 2 2 3 := Fld.mk2 Try.underlying74 rfl rfl rfl 0 (by kernel_rfl)
instance fld74_3 : Fld Try.prog 74 3 3 32 := Fld.mk2 Try.underlying74 rfl rfl rfl 0 (by kernel_rfl)
instance pl74 : Places Try.prog 74 [(0, 1), (1, 1), (2, 1), (3, 1)] := Places.mk2 Try.underlying74 (by kernel_rfl)
noncomputable def fs75 : Array Field := match Try.prog.underlying 75 with | some (.struct f) => f | _ => #[]
theorem fs75_eq : Try.prog.underlying 75 = some (.struct fs75) := by kernel_rfl
instance ty75 : Ty Try.prog 75 (.struct fs75) 4 80 [.slice none 0 0, .slice none 0 0, .int .i64 0, .slice none 0 0] := Ty.mk2 (z := .agg #[.slice none 0 0, .slice none 0 0, .int .i64 0, .slice none 0 0]) fs75_eq (by kernel_rfl) rfl
instance fld75_0 : Fld Try.prog 75 0 0 59 := Fld.mk2 Try.underlying75 rfl rfl rfl 0 (by kernel_rfl)
instance fld75_1 : Fld Try.prog 75 1 1 73 := Fld.mk2 Try.underlying75 rfl rfl rfl 0 (by kernel_rfl)
instance fld75_2 : Fld Try.prog 75 2 2 3 := Fld.mk2 Try.underlying75 rfl rfl rfl 0 (by kernel_rfl)
instance fld75_3 : Fld Try.prog 75 3 3 32 := Fld.mk2 Try.underlying75 rfl rfl rfl 0 (by kernel_rfl)
instance pl75 : Places Try.prog 75 [(0, 1), (1, 1), (2, 1), (3, 1)] := Places.mk2 Try.underlying75 (by kernel_rfl)
instance ty77 : Ty Try.prog 77 (.func #[66] #[3, 3] false) 1 8 [.nilFunc] := Ty.mk2 (z := .nilFunc) Try.underlying77 (by kernel_rfl) rfl
instance ty78 : Ty Try.prog 78 (.int .u16) 1 2 [.int .u16 0] := Ty.mk2 (z := .int .u16 0) Try.underlying78 (by kernel_rfl) rfl
instance ty79 : Ty Try.prog 79 (.func #[3] #[3, 3] false) 1 8 [.nilFunc] := Ty.mk2 (z := .nilFunc) Try.underlying79 (by kernel_rfl) rfl
noncomputable def fs80 : Array Field := match Try.prog.underlying 80 with | some (.struct f) => f | _ => #[]
theorem fs80_eq : Try.prog.underlying 80 = some (.struct fs80) := by kernel_rfl
instance ty80 : Ty Try.prog 80 (.struct fs80) 4 48 [.slice none 0 0, .int .i64 0, .int .i64 0, .bool false] := Ty.mk2 (z := .agg #[.slice none 0 0, .int .i64 0, .int .i64 0, .bool false]) fs80_eq (by kernel_rfl) rfl
instance fld80_0 : Fld Try.prog 80 0 0 66 := Fld.mk2 Try.underlying80 rfl rfl rfl 0 (by kernel_rfl)
instance fld80_1 : Fld Try.prog 80 1 1 3 := Fld.mk2 Try.underlying80 rfl rfl rfl 0 (by kernel_rfl)
instance fld80_2 : Fld Try.prog 80 2 2 3 := Fld.mk2 Try.underlying80 rfl rfl rfl 0 (by kernel_rfl)
instance fld80_3 : Fld Try.prog 80 3 3 4 := Fld.mk2 Try.underlying80 rfl rfl rfl 0 (by kernel_rfl)
instance pl80 : Places Try.prog 80 [(0, 1), (1, 1), (2, 1), (3, 1)] := Places.mk2 Try.underlying80 (by kernel_rfl)
noncomputable def fs81 : Array Field := match Try.prog.underlying 81 with | some (.struct f) => f | _ => #[]
theorem fs81_eq : Try.prog.underlying 81 = some (.struct fs81) := by kernel_rfl
instance ty81 : Ty Try.prog 81 (.struct fs81) 4 48 [.slice none 0 0, .int .i64 0, .int .i64 0, .bool false] := Ty.mk2 (z := .agg #[.slice none 0 0, .int .i64 0, .int .i64 0, .bool false]) fs81_eq (by kernel_rfl) rfl
instance fld81_0 : Fld Try.prog 81 0 0 66 := Fld.mk2 Try.underlying81 rfl rfl rfl 0 (by kernel_rfl)
instance fld81_1 : Fld Try.prog 81 1 1 3 := Fld.mk2 Try.underlying81 rfl rfl rfl 0 (by kernel_rfl)
instance fld81_2 : Fld Try.prog 81 2 2 3 := Fld.mk2 Try.underlying81 rfl rfl rfl 0 (by kernel_rfl)
instance fld81_3 : Fld Try.prog 81 3 3 4 := Fld.mk2 Try.underlying81 rfl rfl rfl 0 (by kernel_rfl)
instance pl81 : Places Try.prog 81 [(0, 1), (1, 1), (2, 1), (3, 1)] := Places.mk2 Try.underlying81 (by kernel_rfl)
instance ty82 : Ty Try.prog 82 (.pointer 81) 1 8 [.pointer none] := Ty.mk2 (z := .pointer none) Try.underlying82 (by kernel_rfl) rfl
instance ty83 : Ty Try.prog 83 (.func #[63, 59, 71] #[4] false) 1 8 [.nilFunc] := Ty.mk2 (z := .nilFunc) Try.underlying83 (by kernel_rfl) rfl
instance ty84 : Ty Try.prog 84 (.array 2 3) 2 16 [.int .i64 0, .int .i64 0] := Ty.mk2 (z := .agg #[.int .i64 0, .int .i64 0]) Try.underlying84 (by kernel_rfl) rfl
noncomputable def fs85 : Array Field := match Try.prog.underlying 85 with | some (.struct f) => f | _ => #[]
theorem fs85_eq : Try.prog.underlying 85 = some (.struct fs85) := by kernel_rfl
instance ty85 : Ty Try.prog 85 (.struct fs85) 6 64 [.int .i64 0, .int .i64 0, .int .i64 0, .int .i64 0, .int .i64 0, .slice none 0 0] := Ty.mk2 (z := .agg #[.int .i64 0, .int .i64 0, .int .i64 0, .int .i64 0, .int .i64 0, .slice none 0 0]) fs85_eq (by kernel_rfl) rfl
instance fld85_0 : Fld Try.prog 85 0 0 3 := Fld.mk2 Try.underlying85 rfl rfl rfl 0 (by kernel_rfl)
instance fld85_1 : Fld Try.prog 85 1 1 3 := Fld.mk2 Try.underlying85 rfl rfl rfl 0 (by kernel_rfl)
instance fld85_2 : Fld Try.prog 85 2 2 3 := Fld.mk2 Try.underlying85 rfl rfl rfl 0 (by kernel_rfl)
instance fld85_3 : Fld Try.prog 85 3 3 3 := Fld.mk2 Try.underlying85 rfl rfl rfl 0 (by kernel_rfl)
instance fld85_4 : Fld Try.prog 85 4 4 3 := Fld.mk2 Try.underlying85 rfl rfl rfl 0 (by kernel_rfl)
instance fld85_5 : Fld Try.prog 85 5 5 32 := Fld.mk2 Try.underlying85 rfl rfl rfl 0 (by kernel_rfl)
instance pl85 : Places Try.prog 85 [(0, 1), (1, 1), (2, 1), (3, 1), (4, 1), (5, 1)] := Places.mk2 Try.underlying85 (by kernel_rfl)
noncomputable def fs86 : Array Field := match Try.prog.underlying 86 with | some (.struct f) => f | _ => #[]
theorem fs86_eq : Try.prog.underlying 86 = some (.struct fs86) := by kernel_rfl
instance ty86 : Ty Try.prog 86 (.struct fs86) 6 64 [.int .i64 0, .int .i64 0, .int .i64 0, .int .i64 0, .int .i64 0, .slice none 0 0] := Ty.mk2 (z := .agg #[.int .i64 0, .int .i64 0, .int .i64 0, .int .i64 0, .int .i64 0, .slice none 0 0]) fs86_eq (by kernel_rfl) rfl
instance fld86_0 : Fld Try.prog 86 0 0 3 := Fld.mk2 Try.underlying86 rfl rfl rfl 0 (by kernel_rfl)
instance fld86_1 : Fld Try.prog 86 1 1 3 := Fld.mk2 Try.underlying86 rfl rfl rfl 0 (by kernel_rfl)
instance fld86_2 : Fld Try.prog 86 2 2 3 := Fld.mk2 Try.underlying86 rfl rfl rfl 0 (by kernel_rfl)
instance fld86_3 : Fld Try.prog 86 3 3 3 := Fld.mk2 Try.underlying86 rfl rfl rfl 0 (by kernel_rfl)
instance fld86_4 : Fld Try.prog 86 4 4 3 := Fld.mk2 Try.underlying86 rfl rfl rfl 0 (by kernel_rfl)
instance fld86_5 : Fld Try.prog 86 5 5 32 := Fld.mk2 Try.underlying86 rfl rfl rfl 0 (by kernel_rfl)
instance pl86 : Places Try.prog 86 [(0, 1), (1, 1), (2, 1), (3, 1), (4, 1), (5, 1)] := Places.mk2 Try.underlying86 (by kernel_rfl)
instance ty88 : Ty Try.prog 88 (.func #[27, 3, 3] #[86, 51] false) 1 8 [.nilFunc] := Ty.mk2 (z := .nilFunc) Try.underlying88 (by kernel_rfl) rfl
instance ty89 : Ty Try.prog 89 (.func #[27, 84] #[4] false) 1 8 [.nilFunc] := Ty.mk2 (z := .nilFunc) Try.underlying89 (by kernel_rfl) rfl
instance ty90 : Ty Try.prog 90 (.slice 44) 1 24 [.slice none 0 0] := Ty.mk2 (z := .slice none 0 0) Try.underlying90 (by kernel_rfl) rfl
noncomputable def fs91 : Array Field := match Try.prog.underlying 91 with | some (.struct f) => f | _ => #[]
theorem fs91_eq : Try.prog.underlying 91 = some (.struct fs91) := by kernel_rfl
instance ty91 : Ty Try.prog 91 (.struct fs91) 5 88 [.slice none 0 0, .slice none 0 0, .slice none 0 0, .int .i64 0, .int .i64 0] := Ty.mk2 (z := .agg #[.slice none 0 0, .slice none 0 0, .slice none 0 0, .int .i64 0, .int .i64 0]) fs91_eq (by kernel_rfl) rfl
instance fld91_0 : Fld Try.prog 91 0 0 90 := Fld.mk2 Try.underlying91 rfl rfl rfl 0 (by kernel_rfl)
instance fld91_1 : Fld Try.prog 91 1 1 44 := Fld.mk2 Try.underlying91 rfl rfl rfl 1 (by kernel_rfl)
instance fld91_2 : Fld Try.prog 91 2 3 3 := Fld.mk2 Try.underlying91 rfl rfl rfl 0 (by kernel_rfl)
instance fld91_3 : Fld Try.prog 91 3 4 3 := Fld.mk2 Try.underlying91 rfl rfl rfl 0 (by kernel_rfl)
instance pl91 : Places Try.prog 91 [(0, 1), (1, 2), (3, 1), (4, 1)] := Places.mk2 Try.underlying91 (by kernel_rfl)
noncomputable def fs92 : Array Field := match Try.prog.underlying 92 with | some (.struct f) => f | _ => #[]
theorem fs92_eq : Try.prog.underlying 92 = some (.struct fs92) := by kernel_rfl
instance ty92 : Ty Try.prog 92 (.struct fs92) 5 88 [.slice none 0 0, .slice none 0 0, .slice none 0 0, .int .i64 0, .int .i64 0] := Ty.mk2 (z := .agg #[.slice none 0 0, .slice none 0 0, .slice none 0 0, .int .i64 0, .int .i64 0]) fs92_eq (by kernel_rfl) rfl
instance fld92_0 : Fld Try.prog 92 0 0 90 := Fld.mk2 Try.underlying92 rfl rfl rfl 0 (by kernel_rfl)
instance fld92_1 : Fld Try.prog 92 1 1 44 := Fld.mk2 Try.underlying92 rfl rfl rfl 1 (by kernel_rfl)
instance fld92_2 : Fld Try.prog 92 2 3 3 := Fld.mk2 Try.underlying92 rfl rfl rfl 0 (by kernel_rfl)
instance fld92_3 : Fld Try.prog 92 3 4 3 := Fld.mk2 Try.underlying92 rfl rfl rfl 0 (by kernel_rfl)
instance pl92 : Places Try.prog 92 [(0, 1), (1, 2), (3, 1), (4, 1)] := Places.mk2 Try.underlying92 (by kernel_rfl)
noncomputable def fs93 : Array Field := match Try.prog.underlying 93 with | some (.struct f) => f | _ => #[]
theorem fs93_eq : Try.prog.underlying 93 = some (.struct fs93) := by kernel_rfl
instance ty93 : Ty Try.prog 93 (.struct fs93) 5 88 [.slice none 0 0, .slice none 0 0, .slice none 0 0, .int .i64 0, .int .i64 0] := Ty.mk2 (z := .agg #[.slice none 0 0, .slice none 0 0, .slice none 0 0, .int .i64 0, .int .i64 0]) fs93_eq (by kernel_rfl) rfl
instance fld93_0 : Fld Try.prog 93 0 0 90 := Fld.mk2 Try.underlying93 rfl rfl rfl 0 (by kernel_rfl)
instance fld93_1 : Fld Try.prog 93 1 1 44 := Fld.mk2 Try.underlying93 rfl rfl rfl 1 (by kernel_rfl)
instance fld93_2 : Fld Try.prog 93 2 3 3 := Fld.mk2 Try.underlying93 rfl rfl rfl 0 (by kernel_rfl)
instance fld93_3 : Fld Try.prog 93 3 4 51 := Fld.mk2 Try.underlying93 rfl rfl rfl 0 (by kernel_rfl)
instance pl93 : Places Try.prog 93 [(0, 1), (1, 2), (3, 1), (4, 1)] := Places.mk2 Try.underlying93 (by kernel_rfl)
noncomputable def fs94 : Array Field := match Try.prog.underlying 94 with | some (.struct f) => f | _ => #[]
theorem fs94_eq : Try.prog.underlying 94 = some (.struct fs94) := by kernel_rfl
instance ty94 : Ty Try.prog 94 (.struct fs94) 5 88 [.slice none 0 0, .slice none 0 0, .slice none 0 0, .int .i64 0, .int .i64 0] := Ty.mk2 (z := .agg #[.slice none 0 0, .slice none 0 0, .slice none 0 0, .int .i64 0, .int .i64 0]) fs94_eq (by kernel_rfl) rfl
instance fld94_0 : Fld Try.prog 94 0 0 90 := Fld.mk2 Try.underlying94 rfl rfl rfl 0 (by kernel_rfl)
instance fld94_1 : Fld Try.prog 94 1 1 44 := Fld.mk2 Try.underlying94 rfl rfl rfl 1 (by kernel_rfl)
instance fld94_2 : Fld Try.prog 94 2 3 3 := Fld.mk2 Try.underlying94 rfl rfl rfl 0 (by kernel_rfl)
instance fld94_3 : Fld Try.prog 94 3 4 51 := Fld.mk2 Try.underlying94 rfl rfl rfl 0 (by kernel_rfl)
instance pl94 : Places Try.prog 94 [(0, 1), (1, 2), (3, 1), (4, 1)] := Places.mk2 Try.underlying94 (by kernel_rfl)
instance ty95 : Ty Try.prog 95 (.func #[94, 94] #[4] false) 1 8 [.nilFunc] := Ty.mk2 (z := .nilFunc) Try.underlying95 (by kernel_rfl) rfl
instance ty96 : Ty Try.prog 96 (.func #[92, 92] #[4] false) 1 8 [.nilFunc] := Ty.mk2 (z := .nilFunc) Try.underlying96 (by kernel_rfl) rfl
instance ty97 : Ty Try.prog 97 (.func #[94] #[92] false) 1 8 [.nilFunc] := Ty.mk2 (z := .nilFunc) Try.underlying97 (by kernel_rfl) rfl
instance ty98 : Ty Try.prog 98 (.slice 101) 1 24 [.slice none 0 0] := Ty.mk2 (z := .slice none 0 0) Try.underlying98 (by kernel_rfl) rfl
instance ty99 : Ty Try.prog 99 (.slice 105) 1 24 [.slice none 0 0] := Ty.mk2 (z := .slice none 0 0) Try.underlying99 (by kernel_rfl) rfl
instance ty100 : Ty Try.prog 100 (.int .i16) 1 2 [.int .i16 0] := Ty.mk2 (z := .int .i16 0) Try.underlying100 (by kernel_rfl) rfl
instance ty101 : Ty Try.prog 101 (.array 2 100) 2 4 [.int .i16 0, .int .i16 0] := Ty.mk2 (z := .agg #[.int .i16 0, .int .i16 0]) Try.underlying101 (by kernel_rfl) rfl
noncomputable def fs102 : Array Field := match Try.prog.underlying 102 with | some (.struct f) => f | _ => #[]
theorem fs102_eq : Try.prog.underlying 102 = some (.struct fs102) := by kernel_rfl
instance ty102 : Ty Try.prog 102 (.struct fs102) 4 64 [.int .i64 0, .int .i64 0, .slice none 0 0, .slice none 0 0] := Ty.mk2 (z := .agg #[.int .i64 0, .int .i64 0, .slice none 0 0, .slice none 0 0]) fs102_eq (by kernel_rfl) rfl
instance fld102_0 : Fld Try.prog 102 0 0 51 := Fld.mk2 Try.underlying102 rfl rfl rfl 0 (by kernel_rfl)
instance fld102_1 : Fld Try.prog 102 1 1 3 := Fld.mk2 Try.underlying102 rfl rfl rfl 0 (by kernel_rfl)
instance fld102_2 : Fld Try.prog 102 2 2 44 := Fld.mk2 Try.underlying102 rfl rfl rfl 1 (by kernel_rfl)
instance pl102 : Places Try.prog 102 [(0, 1), (1, 1), (2, 2)] := Places.mk2 Try.underlying102 (by kernel_rfl)
noncomputable def fs103 : Array Field := match Try.prog.underlying 103 with | some (.struct f) => f | _ => #[]
theorem fs103_eq : Try.prog.underlying 103 = some (.struct fs103) := by kernel_rfl
instance ty103 : Ty Try.prog 103 (.struct fs103) 4 64 [.int .i64 0, .int .i64 0, .slice none 0 0, .slice none 0 0] := Ty.mk2 (z := .agg #[.int .i64 0, .int .i64 0, .slice none 0 0, .slice none 0 0]) fs103_eq (by kernel_rfl) rfl
instance fld103_0 : Fld Try.prog 103 0 0 51 := Fld.mk2 Try.underlying103 rfl rfl rfl 0 (by kernel_rfl)
instance fld103_1 : Fld Try.prog 103 1 1 3 := Fld.mk2 Try.underlying103 rfl rfl rfl 0 (by kernel_rfl)
instance fld103_2 : Fld Try.prog 103 2 2 44 := Fld.mk2 Try.underlying103 rfl rfl rfl 1 (by kernel_rfl)
instance pl103 : Places Try.prog 103 [(0, 1), (1, 1), (2, 2)] := Places.mk2 Try.underlying103 (by kernel_rfl)
noncomputable def fs104 : Array Field := match Try.prog.underlying 104 with | some (.struct f) => f | _ => #[]
theorem fs104_eq : Try.prog.underlying 104 = some (.struct fs104) := by kernel_rfl
instance ty104 : Ty Try.prog 104 (.struct fs104) 8 96 [.int .i64 0, .int .i64 0, .int .i64 0, .int .i64 0, .int .i64 0, .int .i64 0, .slice none 0 0, .slice none 0 0] := Ty.mk2 (z := .agg #[.int .i64 0, .int .i64 0, .int .i64 0, .int .i64 0, .int .i64 0, .int .i64 0, .slice none 0 0, .slice none 0 0]) fs104_eq (by kernel_rfl) rfl
instance fld104_0 : Fld Try.prog 104 0 0 3 := Fld.mk2 Try.underlying104 rfl rfl rfl 0 (by kernel_rfl)
instance fld104_1 : Fld Try.prog 104 1 1 3 := Fld.mk2 Try.underlying104 rfl rfl rfl 0 (by kernel_rfl)
instance fld104_2 : Fld Try.prog 104 2 2 3 := Fld.mk2 Try.underlying104 rfl rfl rfl 0 (by kernel_rfl)
instance fld104_3 : Fld Try.prog 104 3 3 3 := Fld.mk2 Try.underlying104 rfl rfl rfl 0 (by kernel_rfl)
instance fld104_4 : Fld Try.prog 104 4 4 103 := Fld.mk2 Try.underlying104 rfl rfl rfl 3 (by kernel_rfl)
instance pl104 : Places Try.prog 104 [(0, 1), (1, 1), (2, 1), (3, 1), (4, 4)] := Places.mk2 Try.underlying104 (by kernel_rfl)
noncomputable def fs105 : Array Field := match Try.prog.underlying 105 with | some (.struct f) => f | _ => #[]
theorem fs105_eq : Try.prog.underlying 105 = some (.struct fs105) := by kernel_rfl
instance ty105 : Ty Try.prog 105 (.struct fs105) 8 96 [.int .i64 0, .int .i64 0, .int .i64 0, .int .i64 0, .int .i64 0, .int .i64 0, .slice none 0 0, .slice none 0 0] := Ty.mk2 (z := .agg #[.int .i64 0, .int .i64 0, .int .i64 0, .int .i64 0, .int .i64 0, .int .i64 0, .slice none 0 0, .slice none 0 0]) fs105_eq (by kernel_rfl) rfl
instance fld105_0 : Fld Try.prog 105 0 0 3 := Fld.mk2 Try.underlying105 rfl rfl rfl 0 (by kernel_rfl)
instance fld105_1 : Fld Try.prog 105 1 1 3 := Fld.mk2 Try.underlying105 rfl rfl rfl 0 (by kernel_rfl)
instance fld105_2 : Fld Try.prog 105 2 2 3 := Fld.mk2 Try.underlying105 rfl rfl rfl 0 (by kernel_rfl)
instance fld105_3 : Fld Try.prog 105 3 3 3 := Fld.mk2 Try.underlying105 rfl rfl rfl 0 (by kernel_rfl)
instance fld105_4 : Fld Try.prog 105 4 4 103 := Fld.mk2 Try.underlying105 rfl rfl rfl 3 (by kernel_rfl)
instance pl105 : Places Try.prog 105 [(0, 1), (1, 1), (2, 1), (3, 1), (4, 4)] := Places.mk2 Try.underlying105 (by kernel_rfl)
instance ty106 : Ty Try.prog 106 (.func #[99] #[3] false) 1 8 [.nilFunc] := Ty.mk2 (z := .nilFunc) Try.underlying106 (by kernel_rfl) rfl
instance ty107 : Ty Try.prog 107 (.func #[98] #[4] false) 1 8 [.nilFunc] := Ty.mk2 (z := .nilFunc) Try.underlying107 (by kernel_rfl) rfl
instance ty108 : Ty Try.prog 108 (.pointer 149) 1 8 [.pointer none] := Ty.mk2 (z := .pointer none) Try.underlying108 (by kernel_rfl) rfl
instance ty109 : Ty Try.prog 109 (.func #[49, 3] #[108] false) 1 8 [.nilFunc] := Ty.mk2 (z := .nilFunc) Try.underlying109 (by kernel_rfl) rfl
instance ty110 : Ty Try.prog 110 (.func #[5, 5, 59] #[4] false) 1 8 [.nilFunc] := Ty.mk2 (z := .nilFunc) Try.underlying110 (by kernel_rfl) rfl
instance ty111 : Ty Try.prog 111 (.array 20 4) 20 20 [.bool false, .bool false, .bool false, .bool false, .bool false, .bool false, .bool false, .bool false, .bool false, .bool false, .bool false, .bool false, .bool false, .bool false, .bool false, .bool false, .bool false, .bool false, .bool false, .bool false] := Ty.mk2 (z := .agg #[.bool false, .bool false, .bool false, .bool false, .bool false, .bool false, .bool false, .bool false, .bool false, .bool false, .bool false, .bool false, .bool false, .bool false, .bool false, .bool false, .bool false, .bool false, .bool false, .bool false]) Try.underlying111 (by kernel_rfl) rfl
instance ty112 : Ty Try.prog 112 (.func #[59] #[4] false) 1 8 [.nilFunc] := Ty.mk2 (z := .nilFunc) Try.underlying112 (by kernel_rfl) rfl
instance ty113 : Ty Try.prog 113 (.array 9 4) 9 9 [.bool false, .bool false, .bool false, .bool false, .bool false, .bool false, .bool false, .bool false, .bool false] := Ty.mk2 (z := .agg #[.bool false, .bool false, .bool false, .bool false, .bool false, .bool false, .bool false, .bool false, .bool false]) Try.underlying113 (by kernel_rfl) rfl
instance ty114 : Ty Try.prog 114 (.int .u64) 1 8 [.int .u64 0] := Ty.mk2 (z := .int .u64 0) Try.underlying114 (by kernel_rfl) rfl
instance ty115 : Ty Try.prog 115 (.func #[3, 32] #[4] false) 1 8 [.nilFunc] := Ty.mk2 (z := .nilFunc) Try.underlying115 (by kernel_rfl) rfl
instance ty116 : Ty Try.prog 116 (.func #[5, 59] #[4] false) 1 8 [.nilFunc] := Ty.mk2 (z := .nilFunc) Try.underlying116 (by kernel_rfl) rfl
instance ty117 : Ty Try.prog 117 (.pointer 121) 1 8 [.pointer none] := Ty.mk2 (z := .pointer none) Try.underlying117 (by kernel_rfl) rfl
instance ty118 : Ty Try.prog 118 (.pointer 3) 1 8 [.pointer none] := Ty.mk2 (z := .pointer none) Try.underlying118 (by kernel_rfl) rfl
instance ty119 : Ty Try.prog 119 (.pointer 4) 1 8 [.pointer none] := Ty.mk2 (z := .pointer none) Try.underlying119 (by kernel_rfl) rfl
noncomputable def fs120 : Array Field := match Try.prog.underlying 120 with | some (.struct f) => f | _ => #[]
theorem fs120_eq : Try.prog.underlying 120 = some (.struct fs120) := by kernel_rfl
instance ty120 : Ty Try.prog 120 (.struct fs120) 7 56 [.pointer none, .pointer none, .int .i64 0, .int .i64 0, .pointer none, .pointer none, .pointer none] := Ty.mk2 (z := .agg #[.pointer none, .pointer none, .int .i64 0, .int .i64 0, .pointer none, .pointer none, .pointer none]) fs120_eq (by kernel_rfl) rfl
instance fld120_0 : Fld Try.prog 120 0 0 49 := Fld.mk2 Try.underlying120 rfl rfl rfl 0 (by kernel_rfl)
instance fld120_1 : Fld Try.prog 120 1 1 55 := Fld.mk2 Try.underlying120 rfl rfl rfl 0 (by kernel_rfl)
instance fld120_2 : Fld Try.prog 120 2 2 3 := Fld.mk2 Try.underlying120 rfl rfl rfl 0 (by kernel_rfl)
instance fld120_3 : Fld Try.prog 120 3 3 3 := Fld.mk2 Try.underlying120 rfl rfl rfl 0 (by kernel_rfl)
instance fld120_4 : Fld Try.prog 120 4 4 118 := Fld.mk2 Try.underlying120 rfl rfl rfl 0 (by kernel_rfl)
instance fld120_5 : Fld Try.prog 120 5 5 119 := Fld.mk2 Try.underlying120 rfl rfl rfl 0 (by kernel_rfl)
instance fld120_6 : Fld Try.prog 120 6 6 118 := Fld.mk2 Try.underlying120 rfl rfl rfl 0 (by kernel_rfl)
instance pl120 : Places Try.prog 120 [(0, 1), (1, 1), (2, 1), (3, 1), (4, 1), (5, 1), (6, 1)] := Places.mk2 Try.underlying120 (by kernel_rfl)
noncomputable def fs121 : Array Field := match Try.prog.underlying 121 with | some (.struct f) => f | _ => #[]
theorem fs121_eq : Try.prog.underlying 121 = some (.struct fs121) := by kernel_rfl
instance ty121 : Ty Try.prog 121 (.struct fs121) 7 56 [.pointer none, .pointer none, .int .i64 0, .int .i64 0, .pointer none, .pointer none, .pointer none] := Ty.mk2 (z := .agg #[.pointer none, .pointer none, .int .i64 0, .int .i64 0, .pointer none, .pointer none, .pointer none]) fs121_eq (by kernel_rfl) rfl
instance fld121_0 : Fld Try.prog 121 0 0 49 := Fld.mk2 Try.underlying121 rfl rfl rfl 0 (by kernel_rfl)
instance fld121_1 : Fld Try.prog 121 1 1 55 := Fld.mk2 Try.underlying121 rfl rfl rfl 0 (by kernel_rfl)
instance fld121_2 : Fld Try.prog 121 2 2 3 := Fld.mk2 Try.underlying121 rfl rfl rfl 0 (by kernel_rfl)
instance fld121_3 : Fld Try.prog 121 3 3 3 := Fld.mk2 Try.underlying121 rfl rfl rfl 0 (by kernel_rfl)
instance fld121_4 : Fld Try.prog 121 4 4 118 := Fld.mk2 Try.underlying121 rfl rfl rfl 0 (by kernel_rfl)
instance fld121_5 : Fld Try.prog 121 5 5 119 := Fld.mk2 Try.underlying121 rfl rfl rfl 0 (by kernel_rfl)
instance fld121_6 : Fld Try.prog 121 6 6 118 := Fld.mk2 Try.underlying121 rfl rfl rfl 0 (by kernel_rfl)
instance pl121 : Places Try.prog 121 [(0, 1), (1, 1), (2, 1), (3, 1), (4, 1), (5, 1), (6, 1)] := Places.mk2 Try.underlying121 (by kernel_rfl)
instance ty122 : Ty Try.prog 122 (.pointer 124) 1 8 [.pointer none] := Ty.mk2 (z := .pointer none) Try.underlying122 (by kernel_rfl) rfl
noncomputable def fs123 : Array Field := match Try.prog.underlying 123 with | some (.struct f) => f | _ => #[]
theorem fs123_eq : Try.prog.underlying 123 = some (.struct fs123) := by kernel_rfl
instance ty123 : Ty Try.prog 123 (.struct fs123) 2 32 [.int .i64 0, .slice none 0 0] := Ty.mk2 (z := .agg #[.int .i64 0, .slice none 0 0]) fs123_eq (by kernel_rfl) rfl
instance fld123_0 : Fld Try.prog 123 0 0 3 := Fld.mk2 Try.underlying123 rfl rfl rfl 0 (by kernel_rfl)
instance fld123_1 : Fld Try.prog 123 1 1 32 := Fld.mk2 Try.underlying123 rfl rfl rfl 0 (by kernel_rfl)
instance pl123 : Places Try.prog 123 [(0, 1), (1, 1)] := Places.mk2 Try.underlying123 (by kernel_rfl)
noncomputable def fs124 : Array Field := match Try.prog.underlying 124 with | some (.struct f) => f | _ => #[]
theorem fs124_eq : Try.prog.underlying 124 = some (.struct fs124) := by kernel_rfl
instance ty124 : Ty Try.prog 124 (.struct fs124) 2 32 [.int .i64 0, .slice none 0 0] := Ty.mk2 (z := .agg #[.int .i64 0, .slice none 0 0]) fs124_eq (by kernel_rfl) rfl
instance fld124_0 : Fld Try.prog 124 0 0 3 := Fld.mk2 Try.underlying124 rfl rfl rfl 0 (by kernel_rfl)
instance fld124_1 : Fld Try.prog 124 1 1 32 := Fld.mk2 Try.underlying124 rfl rfl rfl 0 (by kernel_rfl)
instance pl124 : Places Try.prog 124 [(0, 1), (1, 1)] := Places.mk2 Try.underlying124 (by kernel_rfl)
instance ty125 : Ty Try.prog 125 (.func #[32] #[4] false) 1 8 [.nilFunc] := Ty.mk2 (z := .nilFunc) Try.underlying125 (by kernel_rfl) rfl
instance ty126 : Ty Try.prog 126 (.func #[44] #[4] false) 1 8 [.nilFunc] := Ty.mk2 (z := .nilFunc) Try.underlying126 (by kernel_rfl) rfl
instance ty127 : Ty Try.prog 127 (.func #[24] #[4] false) 1 8 [.nilFunc] := Ty.mk2 (z := .nilFunc) Try.underlying127 (by kernel_rfl) rfl
instance ty128 : Ty Try.prog 128 (.slice 132) 1 24 [.slice none 0 0] := Ty.mk2 (z := .slice none 0 0) Try.underlying128 (by kernel_rfl) rfl
noncomputable def fs129 : Array Field := match Try.prog.underlying 129 with | some (.struct f) => f | _ => #[]
theorem fs129_eq : Try.prog.underlying 129 = some (.struct fs129) := by kernel_rfl
instance ty129 : Ty Try.prog 129 (.struct fs129) 5 72 [.slice none 0 0, .slice none 0 0, .int .i64 0, .int .i64 0, .bool false] := Ty.mk2 (z := .agg #[.slice none 0 0, .slice none 0 0, .int .i64 0, .int .i64 0, .bool false]) fs129_eq (by kernel_rfl) rfl
instance fld129_0 : Fld Try.prog 129 0 0 59 := Fld.mk2 Try.underlying129 rfl rfl rfl 0 (by kernel_rfl)
instance fld129_1 : Fld Try.prog 129 1 1 128 := Fld.mk2 Try.underlying129 rfl rfl rfl 0 (by kernel_rfl)
instance fld129_2 : Fld Try.prog 129 2 2 3 := Fld.mk2 Try.underlying129 rfl rfl rfl 0 (by kernel_rfl)
instance fld129_3 : Fld Try.prog 129 3 3 3 := Fld.mk2 Try.underlying129 rfl rfl rfl 0 (by kernel_rfl)
instance fld129_4 : Fld Try.prog 129 4 4 4 := Fld.mk2 Try.underlying129 rfl rfl rfl 0 (by kernel_rfl)
instance pl129 : Places Try.prog 129 [(0, 1), (1, 1), (2, 1), (3, 1), (4, 1)] := Places.mk2 Try.underlying129 (by kernel_rfl)
noncomputable def fs130 : Array Field := match Try.prog.underlying 130 with | some (.struct f) => f | _ => #[]
theorem fs130_eq : Try.prog.underlying 130 = some (.struct fs130) := by kernel_rfl
instance ty130 : Ty Try.prog 130 (.struct fs130) 5 72 [.slice none 0 0, .slice none 0 0, .int .i64 0, .int .i64 0, .bool false] := Ty.mk2 (z := .agg #[.slice none 0 0, .slice none 0 0, .int .i64 0, .int .i64 0, .bool false]) fs130_eq (by kernel_rfl) rfl
instance fld130_0 : Fld Try.prog 130 0 0 59 := Fld.mk2 Try.underlying130 rfl rfl rfl 0 (by kernel_rfl)
instance fld130_1 : Fld Try.prog 130 1 1 128 := Fld.mk2 Try.underlying130 rfl rfl rfl 0 (by kernel_rfl)
instance fld130_2 : Fld Try.prog 130 2 2 3 := Fld.mk2 Try.underlying130 rfl rfl rfl 0 (by kernel_rfl)
instance fld130_3 : Fld Try.prog 130 3 3 3 := Fld.mk2 Try.underlying130 rfl rfl rfl 0 (by kernel_rfl)
instance fld130_4 : Fld Try.prog 130 4 4 4 := Fld.mk2 Try.underlying130 rfl rfl rfl 0 (by kernel_rfl)
instance pl130 : Places Try.prog 130 [(0, 1), (1, 1), (2, 1), (3, 1), (4, 1)] := Places.mk2 Try.underlying130 (by kernel_rfl)
noncomputable def fs131 : Array Field := match Try.prog.underlying 131 with | some (.struct f) => f | _ => #[]
theorem fs131_eq : Try.prog.underlying 131 = some (.struct fs131) := by kernel_rfl
instance ty131 : Ty Try.prog 131 (.struct fs131) 4 16 [.nilFunc, .bool false, .bool false, .bool false] := Ty.mk2 (z := .agg #[.nilFunc, .bool false, .bool false, .bool false]) fs131_eq (by kernel_rfl) rfl
instance fld131_0 : Fld Try.prog 131 0 0 54 := Fld.mk2 Try.underlying131 rfl rfl rfl 0 (by kernel_rfl)
instance fld131_1 : Fld Try.prog 131 1 1 4 := Fld.mk2 Try.underlying131 rfl rfl rfl 0 (by kernel_rfl)
instance fld131_2 : Fld Try.prog 131 2 2 4 := Fld.mk2 Try.underlying131 rfl rfl rfl 0 (by kernel_rfl)
instance fld131_3 : Fld Try.prog 131 3 3 4 := Fld.mk2 Try.underlying131 rfl rfl rfl 0 (by kernel_rfl)
instance pl131 : Places Try.prog 131 [(0, 1), (1, 1), (2, 1), (3, 1)] := Places.mk2 Try.underlying131 (by kernel_rfl)
noncomputable def fs132 : Array Field := match Try.prog.underlying 132 with | some (.struct f) => f | _ => #[]
theorem fs132_eq : Try.prog.underlying 132 = some (.struct fs132) := by kernel_rfl
instance ty132 : Ty Try.prog 132 (.struct fs132) 4 16 [.nilFunc, .bool false, .bool false, .bool false] := Ty.mk2 (z := .agg #[.nilFunc, .bool false, .bool false, .bool false]) fs132_eq (by kernel_rfl) rfl
instance fld132_0 : Fld Try.prog 132 0 0 54 := Fld.mk2 Try.underlying132 rfl rfl rfl 0 (by kernel_rfl)
instance fld132_1 : Fld Try.prog 132 1 1 4 := Fld.mk2 Try.underlying132 rfl rfl rfl 0 (by kernel_rfl)
instance fld132_2 : Fld Try.prog 132 2 2 4 := Fld.mk2 Try.underlying132 rfl rfl rfl 0 (by kernel_rfl)
instance fld132_3 : Fld Try.prog 132 3 3 4 := Fld.mk2 Try.underlying132 rfl rfl rfl 0 (by kernel_rfl)
instance pl132 : Places Try.prog 132 [(0, 1), (1, 1), (2, 1), (3, 1)] := Places.mk2 Try.underlying132 (by kernel_rfl)
noncomputable def fs133 : Array Field := match Try.prog.underlying 133 with | some (.struct f) => f | _ => #[]
theorem fs133_eq : Try.prog.underlying 133 = some (.struct fs133) := by kernel_rfl
instance ty133 : Ty Try.prog 133 (.struct fs133) 4 48 [.pointer none, .bool false, .int .i64 0, .slice none 0 0] := Ty.mk2 (z := .agg #[.pointer none, .bool false, .int .i64 0, .slice none 0 0]) fs133_eq (by kernel_rfl) rfl
instance fld133_0 : Fld Try.prog 133 0 0 49 := Fld.mk2 Try.underlying133 rfl rfl rfl 0 (by kernel_rfl)
instance fld133_1 : Fld Try.prog 133 1 1 4 := Fld.mk2 Try.underlying133 rfl rfl rfl 0 (by kernel_rfl)
instance fld133_2 : Fld Try.prog 133 2 2 3 := Fld.mk2 Try.underlying133 rfl rfl rfl 0 (by kernel_rfl)
instance fld133_3 : Fld Try.prog 133 3 3 32 := Fld.mk2 Try.underlying133 rfl rfl rfl 0 (by kernel_rfl)
instance pl133 : Places Try.prog 133 [(0, 1), (1, 1), (2, 1), (3, 1)] := Places.mk2 Try.underlying133 (by kernel_rfl)
noncomputable def fs134 : Array Field := match Try.prog.underlying 134 with | some (.struct f) => f | _ => #[]
theorem fs134_eq : Try.prog.underlying 134 = some (.struct fs134) := by kernel_rfl
instance ty134 : Ty Try.prog 134 (.struct fs134) 4 48 [.pointer none, .bool false, .int .i64 0, .slice none 0 0] := Ty.mk2 (z := .agg #[.pointer none, .bool false, .int .i64 0, .slice none 0 0]) fs134_eq (by kernel_rfl) rfl
instance fld134_0 : Fld Try.prog 134 0 0 49 := Fld.mk2 Try.underlying134 rfl rfl rfl 0 (by kernel_rfl)
instance fld134_1 : Fld Try.prog 134 1 1 4 := Fld.mk2 Try.underlying134 rfl rfl rfl 0 (by kernel_rfl)
instance fld134_2 : Fld Try.prog 134 2 2 3 := Fld.mk2 Try.underlying134 rfl rfl rfl 0 (by kernel_rfl)
instance fld134_3 : Fld Try.prog 134 3 3 32 := Fld.mk2 Try.underlying134 rfl rfl rfl 0 (by kernel_rfl)
instance pl134 : Places Try.prog 134 [(0, 1), (1, 1), (2, 1), (3, 1)] := Places.mk2 Try.underlying134 (by kernel_rfl)
instance ty135 : Ty Try.prog 135 (.func #[32, 3] #[4] false) 1 8 [.nilFunc] := Ty.mk2 (z := .nilFunc) Try.underlying135 (by kernel_rfl) rfl
instance ty136 : Ty Try.prog 136 (.func #[32] #[32] false) 1 8 [.nilFunc] := Ty.mk2 (z := .nilFunc) Try.underlying136 (by kernel_rfl) rfl
instance ty137 : Ty Try.prog 137 (.func #[3] #[] false) 1 8 [.nilFunc] := Ty.mk2 (z := .nilFunc) Try.underlying137 (by kernel_rfl) rfl
instance ty138 : Ty Try.prog 138 (.func #[3] #[3] false) 1 8 [.nilFunc] := Ty.mk2 (z := .nilFunc) Try.underlying138 (by kernel_rfl) rfl
noncomputable def fs139 : Array Field := match Try.prog.underlying 139 with | some (.struct f) => f | _ => #[]
theorem fs139_eq : Try.prog.underlying 139 = some (.struct fs139) := by kernel_rfl
instance ty139 : Ty Try.prog 139 (.struct fs139) 2 32 [.slice none 0 0, .int .u8 0] := Ty.mk2 (z := .agg #[.slice none 0 0, .int .u8 0]) fs139_eq (by kernel_rfl) rfl
instance fld139_0 : Fld Try.prog 139 0 0 59 := Fld.mk2 Try.underlying139 rfl rfl rfl 0 (by kernel_rfl)
instance fld139_1 : Fld Try.prog 139 1 1 5 := Fld.mk2 Try.underlying139 rfl rfl rfl 0 (by kernel_rfl)
instance pl139 : Places Try.prog 139 [(0, 1), (1, 1)] := Places.mk2 Try.underlying139 (by kernel_rfl)
noncomputable def fs140 : Array Field := match Try.prog.underlying 140 with | some (.struct f) => f | _ => #[]
theorem fs140_eq : Try.prog.underlying 140 = some (.struct fs140) := by kernel_rfl
instance ty140 : Ty Try.prog 140 (.struct fs140) 2 32 [.slice none 0 0, .int .u8 0] := Ty.mk2 (z := .agg #[.slice none 0 0, .int .u8 0]) fs140_eq (by kernel_rfl) rfl
instance fld140_0 : Fld Try.prog 140 0 0 59 := Fld.mk2 Try.underlying140 rfl rfl rfl 0 (by kernel_rfl)
instance fld140_1 : Fld Try.prog 140 1 1 5 := Fld.mk2 Try.underlying140 rfl rfl rfl 0 (by kernel_rfl)
instance pl140 : Places Try.prog 140 [(0, 1), (1, 1)] := Places.mk2 Try.underlying140 (by kernel_rfl)
instance ty141 : Ty Try.prog 141 (.pointer 132) 1 8 [.pointer none] := Ty.mk2 (z := .pointer none) Try.underlying141 (by kernel_rfl) rfl
instance ty142 : Ty Try.prog 142 (.func #[24] #[3] false) 1 8 [.nilFunc] := Ty.mk2 (z := .nilFunc) Try.underlying142 (by kernel_rfl) rfl
instance ty143 : Ty Try.prog 143 (.func #[24, 3, 28] #[3] false) 1 8 [.nilFunc] := Ty.mk2 (z := .nilFunc) Try.underlying143 (by kernel_rfl) rfl
instance ty144 : Ty Try.prog 144 (.func #[24, 28, 145] #[] false) 1 8 [.nilFunc] := Ty.mk2 (z := .nilFunc) Try.underlying144 (by kernel_rfl) rfl
instance ty145 : Ty Try.prog 145 (.func #[47] #[] false) 1 8 [.nilFunc] := Ty.mk2 (z := .nilFunc) Try.underlying145 (by kernel_rfl) rfl
instance ty146 : Ty Try.prog 146 (.func #[44, 44] #[4] false) 1 8 [.nilFunc] := Ty.mk2 (z := .nilFunc) Try.underlying146 (by kernel_rfl) rfl
instance ty147 : Ty Try.prog 147 (.func #[90, 90, 146] #[4] false) 1 8 [.nilFunc] := Ty.mk2 (z := .nilFunc) Try.underlying147 (by kernel_rfl) rfl
noncomputable def fs148 : Array Field := match Try.prog.underlying 148 with | some (.struct f) => f | _ => #[]
theorem fs148_eq : Try.prog.underlying 148 = some (.struct fs148) := by kernel_rfl
instance ty148 : Ty Try.prog 148 (.struct fs148) 3 40 [.pointer none, .int .i64 0, .slice none 0 0] := Ty.mk2 (z := .agg #[.pointer none, .int .i64 0, .slice none 0 0]) fs148_eq (by kernel_rfl) rfl
instance fld148_0 : Fld Try.prog 148 0 0 49 := Fld.mk2 Try.underlying148 rfl rfl rfl 0 (by kernel_rfl)
instance fld148_1 : Fld Try.prog 148 1 1 3 := Fld.mk2 Try.underlying148 rfl rfl rfl 0 (by kernel_rfl)
instance fld148_2 : Fld Try.prog 148 2 2 32 := Fld.mk2 Try.underlying148 rfl rfl rfl 0 (by kernel_rfl)
instance pl148 : Places Try.prog 148 [(0, 1), (1, 1), (2, 1)] := Places.mk2 Try.underlying148 (by kernel_rfl)
noncomputable def fs149 : Array Field := match Try.prog.underlying 149 with | some (.struct f) => f | _ => #[]
theorem fs149_eq : Try.prog.underlying 149 = some (.struct fs149) := by kernel_rfl
instance ty149 : Ty Try.prog 149 (.struct fs149) 3 40 [.pointer none, .int .i64 0, .slice none 0 0] := Ty.mk2 (z := .agg #[.pointer none, .int .i64 0, .slice none 0 0]) fs149_eq (by kernel_rfl) rfl
instance fld149_0 : Fld Try.prog 149 0 0 49 := Fld.mk2 Try.underlying149 rfl rfl rfl 0 (by kernel_rfl)
instance fld149_1 : Fld Try.prog 149 1 1 3 := Fld.mk2 Try.underlying149 rfl rfl rfl 0 (by kernel_rfl)
instance fld149_2 : Fld Try.prog 149 2 2 32 := Fld.mk2 Try.underlying149 rfl rfl rfl 0 (by kernel_rfl)
instance pl149 : Places Try.prog 149 [(0, 1), (1, 1), (2, 1)] := Places.mk2 Try.underlying149 (by kernel_rfl)
instance ty150 : Ty Try.prog 150 (.func #[32, 3] #[3] false) 1 8 [.nilFunc] := Ty.mk2 (z := .nilFunc) Try.underlying150 (by kernel_rfl) rfl
instance ty151 : Ty Try.prog 151 (.pointer 86) 1 8 [.pointer none] := Ty.mk2 (z := .pointer none) Try.underlying151 (by kernel_rfl) rfl
instance ty152 : Ty Try.prog 152 (.func #[32, 32] #[4] false) 1 8 [.nilFunc] := Ty.mk2 (z := .nilFunc) Try.underlying152 (by kernel_rfl) rfl
instance ty153 : Ty Try.prog 153 (.func #[42, 42, 155] #[4] false) 1 8 [.nilFunc] := Ty.mk2 (z := .nilFunc) Try.underlying153 (by kernel_rfl) rfl
instance ty154 : Ty Try.prog 154 (.float .f64) 1 8 [.float .f64 0] := Ty.mk2 (z := .float .f64 0) Try.underlying154 (by kernel_rfl) rfl
instance ty155 : Ty Try.prog 155 (.func #[154, 154] #[4] false) 1 8 [.nilFunc] := Ty.mk2 (z := .nilFunc) Try.underlying155 (by kernel_rfl) rfl
instance ty156 : Ty Try.prog 156 (.int .u64) 1 8 [.int .u64 0] := Ty.mk2 (z := .int .u64 0) Try.underlying156 (by kernel_rfl) rfl
instance ty157 : Ty Try.prog 157 (.func #[154] #[156] false) 1 8 [.nilFunc] := Ty.mk2 (z := .nilFunc) Try.underlying157 (by kernel_rfl) rfl
instance ty158 : Ty Try.prog 158 (.func #[] #[9] false) 1 8 [.nilFunc] := Ty.mk2 (z := .nilFunc) Try.underlying158 (by kernel_rfl) rfl
noncomputable def fs159 : Array Field := match Try.prog.underlying 159 with | some (.struct f) => f | _ => #[]
theorem fs159_eq : Try.prog.underlying 159 = some (.struct fs159) := by kernel_rfl
instance ty159 : Ty Try.prog 159 (.struct fs159) 4 40 [.pointer none, .pointer none, .pointer none, .string ⟨#[]⟩] := Ty.mk2 (z := .agg #[.pointer none, .pointer none, .pointer none, .string ⟨#[]⟩]) fs159_eq (by kernel_rfl) rfl
instance fld159_0 : Fld Try.prog 159 0 0 17 := Fld.mk2 Try.underlying159 rfl rfl rfl 0 (by kernel_rfl)
instance fld159_1 : Fld Try.prog 159 1 1 17 := Fld.mk2 Try.underlying159 rfl rfl rfl 0 (by kernel_rfl)
instance fld159_2 : Fld Try.prog 159 2 2 17 := Fld.mk2 Try.underlying159 rfl rfl rfl 0 (by kernel_rfl)
instance fld159_3 : Fld Try.prog 159 3 3 9 := Fld.mk2 Try.underlying159 rfl rfl rfl 0 (by kernel_rfl)
instance pl159 : Places Try.prog 159 [(0, 1), (1, 1), (2, 1), (3, 1)] := Places.mk2 Try.underlying159 (by kernel_rfl)
noncomputable def fs160 : Array Field := match Try.prog.underlying 160 with | some (.struct f) => f | _ => #[]
theorem fs160_eq : Try.prog.underlying 160 = some (.struct fs160) := by kernel_rfl
instance ty160 : Ty Try.prog 160 (.struct fs160) 4 40 [.pointer none, .pointer none, .pointer none, .string ⟨#[]⟩] := Ty.mk2 (z := .agg #[.pointer none, .pointer none, .pointer none, .string ⟨#[]⟩]) fs160_eq (by kernel_rfl) rfl
instance fld160_0 : Fld Try.prog 160 0 0 17 := Fld.mk2 Try.underlying160 rfl rfl rfl 0 (by kernel_rfl)
instance fld160_1 : Fld Try.prog 160 1 1 17 := Fld.mk2 Try.underlying160 rfl rfl rfl 0 (by kernel_rfl)
instance fld160_2 : Fld Try.prog 160 2 2 17 := Fld.mk2 Try.underlying160 rfl rfl rfl 0 (by kernel_rfl)
instance fld160_3 : Fld Try.prog 160 3 3 9 := Fld.mk2 Try.underlying160 rfl rfl rfl 0 (by kernel_rfl)
instance pl160 : Places Try.prog 160 [(0, 1), (1, 1), (2, 1), (3, 1)] := Places.mk2 Try.underlying160 (by kernel_rfl)
instance ty161 : Ty Try.prog 161 (.array 0 16) 0 0 [] := Ty.mk2 (z := .agg #[]) Try.underlying161 (by kernel_rfl) rfl
noncomputable def fs162 : Array Field := match Try.prog.underlying 162 with | some (.struct f) => f | _ => #[]
theorem fs162_eq : Try.prog.underlying 162 = some (.struct fs162) := by kernel_rfl
instance ty162 : Ty Try.prog 162 (.struct fs162) 0 0 [] := Ty.mk2 (z := .agg #[]) fs162_eq (by kernel_rfl) rfl
noncomputable def fs163 : Array Field := match Try.prog.underlying 163 with | some (.struct f) => f | _ => #[]
theorem fs163_eq : Try.prog.underlying 163 = some (.struct fs163) := by kernel_rfl
instance ty163 : Ty Try.prog 163 (.struct fs163) 0 0 [] := Ty.mk2 (z := .agg #[]) fs163_eq (by kernel_rfl) rfl
instance ty164 : Ty Try.prog 164 (.int .u32) 1 4 [.int .u32 0] := Ty.mk2 (z := .int .u32 0) Try.underlying164 (by kernel_rfl) rfl
instance ty165 : Ty Try.prog 165 (.int .u8) 1 1 [.int .u8 0] := Ty.mk2 (z := .int .u8 0) Try.underlying165 (by kernel_rfl) rfl
instance ty166 : Ty Try.prog 166 (.int .u8) 1 1 [.int .u8 0] := Ty.mk2 (z := .int .u8 0) Try.underlying166 (by kernel_rfl) rfl
instance ty167 : Ty Try.prog 167 (.func #[175, 175] #[4] false) 1 8 [.nilFunc] := Ty.mk2 (z := .nilFunc) Try.underlying167 (by kernel_rfl) rfl
instance ty168 : Ty Try.prog 168 (.pointer 5) 1 8 [.pointer none] := Ty.mk2 (z := .pointer none) Try.underlying168 (by kernel_rfl) rfl
instance ty169 : Ty Try.prog 169 (.int .i32) 1 4 [.int .i32 0] := Ty.mk2 (z := .int .i32 0) Try.underlying169 (by kernel_rfl) rfl
instance ty170 : Ty Try.prog 170 (.int .i32) 1 4 [.int .i32 0] := Ty.mk2 (z := .int .i32 0) Try.underlying170 (by kernel_rfl) rfl
noncomputable def fs171 : Array Field := match Try.prog.underlying 171 with | some (.struct f) => f | _ => #[]
theorem fs171_eq : Try.prog.underlying 171 = some (.struct fs171) := by kernel_rfl
instance ty171 : Ty Try.prog 171 (.struct fs171) 11 48 [.int .u64 0, .int .u64 0, .int .u32 0, .int .u8 0, .int .u8 0, .int .u8 0, .int .u8 0, .nilFunc, .pointer none, .int .i32 0, .int .i32 0] := Ty.mk2 (z := .agg #[.int .u64 0, .int .u64 0, .int .u32 0, .int .u8 0, .int .u8 0, .int .u8 0, .int .u8 0, .nilFunc, .pointer none, .int .i32 0, .int .i32 0]) fs171_eq (by kernel_rfl) rfl
instance fld171_0 : Fld Try.prog 171 0 0 12 := Fld.mk2 Try.underlying171 rfl rfl rfl 0 (by kernel_rfl)
instance fld171_1 : Fld Try.prog 171 1 1 12 := Fld.mk2 Try.underlying171 rfl rfl rfl 0 (by kernel_rfl)
instance fld171_2 : Fld Try.prog 171 2 2 164 := Fld.mk2 Try.underlying171 rfl rfl rfl 0 (by kernel_rfl)
instance fld171_3 : Fld Try.prog 171 3 3 165 := Fld.mk2 Try.underlying171 rfl rfl rfl 0 (by kernel_rfl)
instance fld171_4 : Fld Try.prog 171 4 4 5 := Fld.mk2 Try.underlying171 rfl rfl rfl 0 (by kernel_rfl)
instance fld171_5 : Fld Try.prog 171 5 5 5 := Fld.mk2 Try.underlying171 rfl rfl rfl 0 (by kernel_rfl)
instance fld171_6 : Fld Try.prog 171 6 6 166 := Fld.mk2 Try.underlying171 rfl rfl rfl 0 (by kernel_rfl)
instance fld171_7 : Fld Try.prog 171 7 7 167 := Fld.mk2 Try.underlying171 rfl rfl rfl 0 (by kernel_rfl)
instance fld171_8 : Fld Try.prog 171 8 8 168 := Fld.mk2 Try.underlying171 rfl rfl rfl 0 (by kernel_rfl)
instance fld171_9 : Fld Try.prog 171 9 9 169 := Fld.mk2 Try.underlying171 rfl rfl rfl 0 (by kernel_rfl)
instance fld171_10 : Fld Try.prog 171 10 10 170 := Fld.mk2 Try.underlying171 rfl rfl rfl 0 (by kernel_rfl)
instance pl171 : Places Try.prog 171 [(0, 1), (1, 1), (2, 1), (3, 1), (4, 1), (5, 1), (6, 1), (7, 1), (8, 1), (9, 1), (10, 1)] := Places.mk2 Try.underlying171 (by kernel_rfl)
noncomputable def fs172 : Array Field := match Try.prog.underlying 172 with | some (.struct f) => f | _ => #[]
theorem fs172_eq : Try.prog.underlying 172 = some (.struct fs172) := by kernel_rfl
instance ty172 : Ty Try.prog 172 (.struct fs172) 11 48 [.int .u64 0, .int .u64 0, .int .u32 0, .int .u8 0, .int .u8 0, .int .u8 0, .int .u8 0, .nilFunc, .pointer none, .int .i32 0, .int .i32 0] := Ty.mk2 (z := .agg #[.int .u64 0, .int .u64 0, .int .u32 0, .int .u8 0, .int .u8 0, .int .u8 0, .int .u8 0, .nilFunc, .pointer none, .int .i32 0, .int .i32 0]) fs172_eq (by kernel_rfl) rfl
instance fld172_0 : Fld Try.prog 172 0 0 12 := Fld.mk2 Try.underlying172 rfl rfl rfl 0 (by kernel_rfl)
instance fld172_1 : Fld Try.prog 172 1 1 12 := Fld.mk2 Try.underlying172 rfl rfl rfl 0 (by kernel_rfl)
instance fld172_2 : Fld Try.prog 172 2 2 164 := Fld.mk2 Try.underlying172 rfl rfl rfl 0 (by kernel_rfl)
instance fld172_3 : Fld Try.prog 172 3 3 165 := Fld.mk2 Try.underlying172 rfl rfl rfl 0 (by kernel_rfl)
instance fld172_4 : Fld Try.prog 172 4 4 5 := Fld.mk2 Try.underlying172 rfl rfl rfl 0 (by kernel_rfl)
instance fld172_5 : Fld Try.prog 172 5 5 5 := Fld.mk2 Try.underlying172 rfl rfl rfl 0 (by kernel_rfl)
instance fld172_6 : Fld Try.prog 172 6 6 166 := Fld.mk2 Try.underlying172 rfl rfl rfl 0 (by kernel_rfl)
instance fld172_7 : Fld Try.prog 172 7 7 167 := Fld.mk2 Try.underlying172 rfl rfl rfl 0 (by kernel_rfl)
instance fld172_8 : Fld Try.prog 172 8 8 168 := Fld.mk2 Try.underlying172 rfl rfl rfl 0 (by kernel_rfl)
instance fld172_9 : Fld Try.prog 172 9 9 169 := Fld.mk2 Try.underlying172 rfl rfl rfl 0 (by kernel_rfl)
instance fld172_10 : Fld Try.prog 172 10 10 170 := Fld.mk2 Try.underlying172 rfl rfl rfl 0 (by kernel_rfl)
instance pl172 : Places Try.prog 172 [(0, 1), (1, 1), (2, 1), (3, 1), (4, 1), (5, 1), (6, 1), (7, 1), (8, 1), (9, 1), (10, 1)] := Places.mk2 Try.underlying172 (by kernel_rfl)
noncomputable def fs173 : Array Field := match Try.prog.underlying 173 with | some (.struct f) => f | _ => #[]
theorem fs173_eq : Try.prog.underlying 173 = some (.struct fs173) := by kernel_rfl
instance ty173 : Ty Try.prog 173 (.struct fs173) 2 16 [.int .i64 0, .float .f64 0] := Ty.mk2 (z := .agg #[.int .i64 0, .float .f64 0]) fs173_eq (by kernel_rfl) rfl
instance fld173_0 : Fld Try.prog 173 0 0 3 := Fld.mk2 Try.underlying173 rfl rfl rfl 0 (by kernel_rfl)
instance fld173_1 : Fld Try.prog 173 1 1 154 := Fld.mk2 Try.underlying173 rfl rfl rfl 0 (by kernel_rfl)
instance pl173 : Places Try.prog 173 [(0, 1), (1, 1)] := Places.mk2 Try.underlying173 (by kernel_rfl)
noncomputable def fs174 : Array Field := match Try.prog.underlying 174 with | some (.struct f) => f | _ => #[]
theorem fs174_eq : Try.prog.underlying 174 = some (.struct fs174) := by kernel_rfl
instance ty174 : Ty Try.prog 174 (.struct fs174) 2 16 [.int .i64 0, .float .f64 0] := Ty.mk2 (z := .agg #[.int .i64 0, .float .f64 0]) fs174_eq (by kernel_rfl) rfl
instance fld174_0 : Fld Try.prog 174 0 0 3 := Fld.mk2 Try.underlying174 rfl rfl rfl 0 (by kernel_rfl)
instance fld174_1 : Fld Try.prog 174 1 1 154 := Fld.mk2 Try.underlying174 rfl rfl rfl 0 (by kernel_rfl)
instance pl174 : Places Try.prog 174 [(0, 1), (1, 1)] := Places.mk2 Try.underlying174 (by kernel_rfl)
theorem plain3 : Plain Try.prog 3 := ⟨_, Try.func3, rfl, by kernel_rfl⟩  -- backstitch/backstitchlaw11.ReachTells
theorem plain4 : Plain Try.prog 4 := ⟨_, Try.func4, rfl, by kernel_rfl⟩  -- backstitch/backstitchlaw11.ReachKnown
theorem plain5 : Plain Try.prog 5 := ⟨_, Try.func5, rfl, by kernel_rfl⟩  -- backstitch/backstitchlaw11.ReachCounts
theorem plain6 : Plain Try.prog 6 := ⟨_, Try.func6, rfl, by kernel_rfl⟩  -- backstitch/backstitchlaw11.ReachRoots
theorem plain7 : Plain Try.prog 7 := ⟨_, Try.func7, rfl, by kernel_rfl⟩  -- backstitch/backstitchlaw11.ReachChains
theorem plain8 : Plain Try.prog 8 := ⟨_, Try.func8, rfl, by kernel_rfl⟩  -- backstitch/backstitchlaw16.LockKnown
theorem plain9 : Plain Try.prog 9 := ⟨_, Try.func9, rfl, by kernel_rfl⟩  -- backstitch/backstitchlaw15.SchedAll
theorem plain10 : Plain Try.prog 10 := ⟨_, Try.func10, rfl, by kernel_rfl⟩  -- backstitch/backstitchlaw15.SchedLimit
theorem plain11 : Plain Try.prog 11 := ⟨_, Try.func11, rfl, by kernel_rfl⟩  -- backstitch/backstitchlaw15.SchedBorn
theorem plain12 : Plain Try.prog 12 := ⟨_, Try.func12, rfl, by kernel_rfl⟩  -- backstitch/backstitchlaw15.SchedCuts
theorem plain13 : Plain Try.prog 13 := ⟨_, Try.func13, rfl, by kernel_rfl⟩  -- backstitch/backstitchlaw15.SchedRuns
theorem plain14 : Plain Try.prog 14 := ⟨_, Try.func14, rfl, by kernel_rfl⟩  -- backstitch/backstitchlaw15.SchedKnown
theorem plain15 : Plain Try.prog 15 := ⟨_, Try.func15, rfl, by kernel_rfl⟩  -- backstitch/backstitchlaw25.MeterCounts
theorem plain16 : Plain Try.prog 16 := ⟨_, Try.func16, rfl, by kernel_rfl⟩  -- backstitch/backstitchlaw25.MeterSame
theorem plain17 : Plain Try.prog 17 := ⟨_, Try.func17, rfl, by kernel_rfl⟩  -- backstitch/backstitchlaw25.MeterSums
theorem plain18 : Plain Try.prog 18 := ⟨_, Try.func18, rfl, by kernel_rfl⟩  -- backstitch/backstitchlaw25.MeterSpread
theorem plain19 : Plain Try.prog 19 := ⟨_, Try.func19, rfl, by kernel_rfl⟩  -- backstitch/backstitchlaw25.MeterKnown
theorem plain20 : Plain Try.prog 20 := ⟨_, Try.func20, rfl, by kernel_rfl⟩  -- backstitch/backstitchlaw17.LatchWorks
theorem plain21 : Plain Try.prog 21 := ⟨_, Try.func21, rfl, by kernel_rfl⟩  -- backstitch/backstitchlaw16.LockTurns
theorem plain22 : Plain Try.prog 22 := ⟨_, Try.func22, rfl, by kernel_rfl⟩  -- backstitch/backstitchlaw17.LatchPlays
theorem plain23 : Plain Try.prog 23 := ⟨_, Try.func23, rfl, by kernel_rfl⟩  -- backstitch/backstitchlaw17.LatchKnown
theorem plain24 : Plain Try.prog 24 := ⟨_, Try.func24, rfl, by kernel_rfl⟩  -- backstitch/backstitchlaw17.LatchUps
theorem plain25 : Plain Try.prog 25 := ⟨_, Try.func25, rfl, by kernel_rfl⟩  -- backstitch/backstitchlaw16.LockWorks
theorem plain26 : Plain Try.prog 26 := ⟨_, Try.func26, rfl, by kernel_rfl⟩  -- backstitch/backstitchlaw16.LockPlays
theorem plain27 : Plain Try.prog 27 := ⟨_, Try.func27, rfl, by kernel_rfl⟩  -- backstitch/backstitchlaw11.awake
theorem plain28 : Plain Try.prog 28 := ⟨_, Try.func28, rfl, by kernel_rfl⟩  -- backstitch/backstitchlaw10.Small
theorem plain29 : Plain Try.prog 29 := ⟨_, Try.func29, rfl, by kernel_rfl⟩  -- backstitch/reach.From
theorem plain30 : Plain Try.prog 30 := ⟨_, Try.func30, rfl, by kernel_rfl⟩  -- backstitch/reach.Users
theorem plain31 : Plain Try.prog 31 := ⟨_, Try.func31, rfl, by kernel_rfl⟩  -- backstitch/reach.Counts
theorem plain32 : Plain Try.prog 32 := ⟨_, Try.func32, rfl, by kernel_rfl⟩  -- backstitch/backstitchref6.From
theorem plain33 : Plain Try.prog 33 := ⟨_, Try.func33, rfl, by kernel_rfl⟩  -- backstitch/backstitchref6.Users
theorem plain34 : Plain Try.prog 34 := ⟨_, Try.func34, rfl, by kernel_rfl⟩  -- backstitch/backstitchlaw16.awake
theorem plain35 : Plain Try.prog 35 := ⟨_, Try.func35, rfl, by kernel_rfl⟩  -- backstitch/sched.New
theorem plain36 : Plain Try.prog 36 := ⟨_, Try.func36, rfl, by kernel_rfl⟩  -- (*backstitch/sched.Sched).Go
theorem plain37 : Plain Try.prog 37 := ⟨_, Try.func37, rfl, by kernel_rfl⟩  -- backstitch/backstitchlaw16.stay
theorem plain38 : Plain Try.prog 38 := ⟨_, Try.func38, rfl, by kernel_rfl⟩  -- backstitch/lock.New
theorem plain39 : Plain Try.prog 39 := ⟨_, Try.func39, rfl, by kernel_rfl⟩  -- (*backstitch/lock.Lock).Leave
theorem plain40 : Plain Try.prog 40 := ⟨_, Try.func40, rfl, by kernel_rfl⟩  -- (*backstitch/lock.Lock).Owner
theorem plain41 : Plain Try.prog 41 := ⟨_, Try.func41, rfl, by kernel_rfl⟩  -- (*backstitch/lock.Lock).Take
theorem plain42 : Plain Try.prog 42 := ⟨_, Try.func42, rfl, by kernel_rfl⟩  -- (*backstitch/lock.Lock).Queue
theorem plain43 : Plain Try.prog 43 := ⟨_, Try.func43, rfl, by kernel_rfl⟩  -- backstitch/backstitchlaw15.awake
theorem plain44 : Plain Try.prog 44 := ⟨_, Try.func44, rfl, by kernel_rfl⟩  -- backstitch/backstitchlaw15.SchedAll$1
theorem plain45 : Plain Try.prog 45 := ⟨_, Try.func45, rfl, by kernel_rfl⟩  -- (*backstitch/sched.Sched).Run
theorem plain46 : Plain Try.prog 46 := ⟨_, Try.func46, rfl, by kernel_rfl⟩  -- (*backstitch/sched.Sched).Open
theorem plain47 : Plain Try.prog 47 := ⟨_, Try.func47, rfl, by kernel_rfl⟩  -- backstitch/backstitchlaw15.SchedLimit$1
theorem plain48 : Plain Try.prog 48 := ⟨_, Try.func48, rfl, by kernel_rfl⟩  -- backstitch/backstitchlaw15.SchedLimit$2
theorem plain49 : Plain Try.prog 49 := ⟨_, Try.func49, rfl, by kernel_rfl⟩  -- backstitch/backstitchlaw15.SchedBorn$1
theorem plain50 : Plain Try.prog 50 := ⟨_, Try.func50, rfl, by kernel_rfl⟩  -- backstitch/backstitchlaw15.Small
theorem plain51 : Plain Try.prog 51 := ⟨_, Try.func51, rfl, by kernel_rfl⟩  -- (*backstitch/backstitchlaw15.task).step
theorem plain52 : Plain Try.prog 52 := ⟨_, Try.func52, rfl, by kernel_rfl⟩  -- (*backstitch/backstitchref15.Sched).Go
theorem plain53 : Plain Try.prog 53 := ⟨_, Try.func53, rfl, by kernel_rfl⟩  -- (*backstitch/backstitchref15.Sched).Run
theorem plain54 : Plain Try.prog 54 := ⟨_, Try.func54, rfl, by kernel_rfl⟩  -- (*backstitch/backstitchref15.Sched).Open
theorem plain55 : Plain Try.prog 55 := ⟨_, Try.func55, rfl, by kernel_rfl⟩  -- (*backstitch/sched.Sched).Now
theorem plain56 : Plain Try.prog 56 := ⟨_, Try.func56, rfl, by kernel_rfl⟩  -- (*backstitch/sched.Sched).Waiting
theorem plain57 : Plain Try.prog 57 := ⟨_, Try.func57, rfl, by kernel_rfl⟩  -- (*backstitch/sched.Sched).Wake
theorem plain58 : Plain Try.prog 58 := ⟨_, Try.func58, rfl, by kernel_rfl⟩  -- (*backstitch/backstitchref15.Sched).Wake
theorem plain59 : Plain Try.prog 59 := ⟨_, Try.func59, rfl, by kernel_rfl⟩  -- backstitch/backstitchlaw15.SchedKnown$1
theorem plain60 : Plain Try.prog 60 := ⟨_, Try.func60, rfl, by kernel_rfl⟩  -- backstitch/backstitchlaw15.SchedKnown$2
theorem plain61 : Plain Try.prog 61 := ⟨_, Try.func61, rfl, by kernel_rfl⟩  -- backstitch/backstitchlaw25.awake
theorem plain62 : Plain Try.prog 62 := ⟨_, Try.func62, rfl, by kernel_rfl⟩  -- backstitch/meter.Of
theorem plain63 : Plain Try.prog 63 := ⟨_, Try.func63, rfl, by kernel_rfl⟩  -- backstitch/meter.Same
theorem plain64 : Plain Try.prog 64 := ⟨_, Try.func64, rfl, by kernel_rfl⟩  -- backstitch/backstitchref6.SameGradient
theorem plain65 : Plain Try.prog 65 := ⟨_, Try.func65, rfl, by kernel_rfl⟩  -- backstitch/backstitchlaw13.Back
theorem plain66 : Plain Try.prog 66 := ⟨_, Try.func66, rfl, by kernel_rfl⟩  -- backstitch/meter.Spread
theorem plain67 : Plain Try.prog 67 := ⟨_, Try.func67, rfl, by kernel_rfl⟩  -- backstitch/backstitchlaw17.awake
theorem plain68 : Plain Try.prog 68 := ⟨_, Try.func68, rfl, by kernel_rfl⟩  -- backstitch/latch.New
theorem plain69 : Plain Try.prog 69 := ⟨_, Try.func69, rfl, by kernel_rfl⟩  -- backstitch/backstitchlaw17.LatchWorks$1
theorem plain70 : Plain Try.prog 70 := ⟨_, Try.func70, rfl, by kernel_rfl⟩  -- (*backstitch/latch.Latch).Await
theorem plain71 : Plain Try.prog 71 := ⟨_, Try.func71, rfl, by kernel_rfl⟩  -- backstitch/backstitchlaw17.LatchWorks$2
theorem plain72 : Plain Try.prog 72 := ⟨_, Try.func72, rfl, by kernel_rfl⟩  -- (*backstitch/latch.Latch).Down
theorem plain73 : Plain Try.prog 73 := ⟨_, Try.func73, rfl, by kernel_rfl⟩  -- (*backstitch/latch.Latch).Left
theorem plain74 : Plain Try.prog 74 := ⟨_, Try.func74, rfl, by kernel_rfl⟩  -- backstitch/backstitchlaw17.stay
theorem plain75 : Plain Try.prog 75 := ⟨_, Try.func75, rfl, by kernel_rfl⟩  -- (*backstitch/latch.Latch).Up
theorem plain76 : Plain Try.prog 76 := ⟨_, Try.func76, rfl, by kernel_rfl⟩  -- (*backstitch/backstitchlaw16.worker).step
theorem plain77 : Plain Try.prog 77 := ⟨_, Try.func77, rfl, by kernel_rfl⟩  -- (*backstitch/backstitchref15.Lock).Take
theorem plain78 : Plain Try.prog 78 := ⟨_, Try.func78, rfl, by kernel_rfl⟩  -- (*backstitch/backstitchref15.Lock).Leave
theorem plain79 : Plain Try.prog 79 := ⟨_, Try.func79, rfl, by kernel_rfl⟩  -- backstitch/backstitchlaw3.Small
theorem plain80 : Plain Try.prog 80 := ⟨_, Try.func80, rfl, by kernel_rfl⟩  -- backstitch/reach.May
theorem plain81 : Plain Try.prog 81 := ⟨_, Try.func81, rfl, by kernel_rfl⟩  -- backstitch/backstitchref6.sound
theorem plain82 : Plain Try.prog 82 := ⟨_, Try.func82, rfl, by kernel_rfl⟩  -- slices.Contains[[]int,int]
theorem plain83 : Plain Try.prog 83 := ⟨_, Try.func83, rfl, by kernel_rfl⟩  -- slices.Clone[[]int,int]
theorem plain84 : Plain Try.prog 84 := ⟨_, Try.func84, rfl, by kernel_rfl⟩  -- (*backstitch/sched.Sched).Run$1
theorem plain85 : Plain Try.prog 85 := ⟨_, Try.func85, rfl, by kernel_rfl⟩  -- (*backstitch/sched.Sched).can
theorem plain86 : Plain Try.prog 86 := ⟨_, Try.func86, rfl, by kernel_rfl⟩  -- (*backstitch/sched.Sched).step
theorem plain87 : Plain Try.prog 87 := ⟨_, Try.func87, rfl, by kernel_rfl⟩  -- (*backstitch/sched.Sched).pick
theorem plain88 : Plain Try.prog 88 := ⟨_, Try.func88, rfl, by kernel_rfl⟩  -- (*backstitch/backstitchref15.Sched).runnable
theorem plain89 : Plain Try.prog 89 := ⟨_, Try.func89, rfl, by kernel_rfl⟩  -- (*backstitch/backstitchref15.Sched).step
theorem plain90 : Plain Try.prog 90 := ⟨_, Try.func90, rfl, by kernel_rfl⟩  -- (*backstitch/sched.Sched).there
theorem plain91 : Plain Try.prog 91 := ⟨_, Try.func91, rfl, by kernel_rfl⟩  -- backstitch/graph.Edges
theorem plain92 : Plain Try.prog 92 := ⟨_, Try.func92, rfl, by kernel_rfl⟩  -- backstitch/meter.depth
theorem plain93 : Plain Try.prog 93 := ⟨_, Try.func93, rfl, by kernel_rfl⟩  -- backstitch/meter.each
theorem plain94 : Plain Try.prog 94 := ⟨_, Try.func94, rfl, by kernel_rfl⟩  -- (*backstitch/meter.Meter).count
theorem plain95 : Plain Try.prog 95 := ⟨_, Try.func95, rfl, by kernel_rfl⟩  -- backstitch/tensor.Same
theorem plain96 : Plain Try.prog 96 := ⟨_, Try.func96, rfl, by kernel_rfl⟩  -- slices.EqualFunc[[]backstitch/api.Tensor,[]backstitch/api.Tensor,backstitch/api.Tensor,backstitch/api.Tensor]
theorem plain97 : Plain Try.prog 97 := ⟨_, Try.func97, rfl, by kernel_rfl⟩  -- backstitch/backstitchref1.SameTensor
theorem plain98 : Plain Try.prog 98 := ⟨_, Try.func98, rfl, by kernel_rfl⟩  -- slices.Index[[]int,int]
theorem plain99 : Plain Try.prog 99 := ⟨_, Try.func99, rfl, by kernel_rfl⟩  -- backstitch/op.May
theorem plain100 : Plain Try.prog 100 := ⟨_, Try.func100, rfl, by kernel_rfl⟩  -- backstitch/shape.Same
theorem plain101 : Plain Try.prog 101 := ⟨_, Try.func101, rfl, by kernel_rfl⟩  -- slices.EqualFunc[[]float64,[]float64,float64,float64]
theorem plain102 : Plain Try.prog 102 := ⟨_, Try.func102, rfl, by kernel_rfl⟩  -- backstitch/real.Same
theorem plain103 : Plain Try.prog 103 := ⟨_, Try.func103, rfl, by kernel_rfl⟩  -- backstitch/backstitchref1.SameInts
theorem plain104 : Plain Try.prog 104 := ⟨_, Try.func104, rfl, by kernel_rfl⟩  -- backstitch/backstitchref1.Same
theorem plain105 : Plain Try.prog 105 := ⟨_, Try.func105, rfl, by kernel_rfl⟩  -- slices.Equal[[]int,int]
theorem plain106 : Plain Try.prog 106 := ⟨_, Try.func106, rfl, by kernel_rfl⟩  -- backstitch/real.Bits
theorem plain107 : Plain Try.prog 107 := ⟨_, Try.func107, rfl, by kernel_rfl⟩  -- backstitch/backstitchref1.Bits
end Go.Sl
