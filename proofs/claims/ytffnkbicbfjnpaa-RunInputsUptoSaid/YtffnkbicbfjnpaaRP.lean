/- Lines that print.sh wrote for this claim, as far as they are used here: shared lemmas, functions with their contracts. Conditions: as each says. -/
import Derived.Test.YtffnkbicbfjnpaaRP1
namespace Go.Proofs.Ytffnkbicbfjnpaa.PRunFuel
open Go.RowKit Go.Proofs.YtffnkbicbfjnpaaW.PrintWords Go.Proofs.YtffnkbicbfjnpaaW.PrintLast Go.Proofs.YtffnkbicbfjnpaaW.PrintMore
attribute [local go_sem] max2_int min2_int max_two min_two max_three min_three max_four min_four   -- for this text's walks alone
set_option linter.unusedVariables false
set_option linter.unusedSimpArgs false
mutual
def refinerylaw03_Small_Program.l0 : Nat → Int → Int → Int → Int → Int → Bool → List (S138) → List (S31) → Option ((List (S31)))
  | 0, _, _, _, _, _, _, _, _ => none
  | k + 1, x3, x4, x20, x21, x185000, x185001, x185002, x187000 => if x21 < x20 then ((refinerylaw03_Label.f x21).bind fun t187 => (if x21 = 0 then (refinerylaw03_Small_Program.j1 k x3 x4 x21 x20 x21 (!x185001) x185000 x185001 x185002 x187000 t187 2 0 0 0) else (refinerylaw03_Small_Program.j1 k x3 x4 x21 x20 x21 false x185000 x185001 x185002 x187000 t187 2 0 0 0))) else (some x187000)
def refinerylaw03_Small_Program.j1 : Nat → Int → Int → Int → Int → Int → Bool → Int → Bool → List (S138) → List (S31) → Int → Int → Int → Int → Int → Option ((List (S31)))
  | 0, _, _, _, _, _, _, _, _, _, _, _, _, _, _, _ => none
  | k + 1, x3, x4, x6, x20, x21, x34, x185000, x185001, x185002, x187000, x189000, x189003, x189004, x189005, x189006 => if x34 = true then (refinerylaw03_Small_Program.l1 k x3 x4 x6 x20 x21 x3 0 x185000 x185001 x185002 x187000 x189000 ([] : List (S38)) x189003 x189004 x189005 x189006) else (refinerylaw03_Small_Program.j3 k x3 x4 x6 x20 x21 x185000 x185001 x185002 x187000 x189000 ([] : List (S38)) x189003 x189004 x189005 x189006)
def refinerylaw03_Small_Program.j3 : Nat → Int → Int → Int → Int → Int → Int → Bool → List (S138) → List (S31) → Int → List (S38) → Int → Int → Int → Int → Option ((List (S31)))
  | 0, _, _, _, _, _, _, _, _, _, _, _, _, _, _, _ => none
  | k + 1, x3, x4, x6, x20, x21, x185000, x185001, x185002, x187000, x189000, x189002, x189003, x189004, x189005, x189006 => if x6 < (x185002.length : Int) then (if 0 ≤ x6 then (refinerylaw03_Small_Program.l2 k x3 x4 x6 x20 x21 ((rd_T138 x185002 x6).f0) (((rd_T138 x185002 x6).f0).length : Int) 0 x185000 x185001 x185002 x187000 x189000 x189002 x189003 x189004 x189005 x189006) else (none)) else (if x185001 = true then (if x187000.length < 1599289640401 then (refinerylaw03_Small_Program.l0 k x3 x4 x20 (wrap64 (x21 + 1)) x185000 x185001 x185002 (x187000 ++ [(⟨x189000, ([] : List (S147)), x189002, (⟨3, 0, 0, 0⟩ : S29)⟩ : S31)])) else (none)) else (if x187000.length < 1599289640401 then (refinerylaw03_Small_Program.l0 k x3 x4 x20 (wrap64 (x21 + 1)) x185000 x185001 x185002 (x187000 ++ [(⟨x189000, ([] : List (S147)), x189002, (⟨x189003, x189004, x189005, x189006⟩ : S29)⟩ : S31)])) else (none)))
def refinerylaw03_Small_Program.l2 : Nat → Int → Int → Int → Int → Int → List (S34) → Int → Int → Int → Bool → List (S138) → List (S31) → Int → List (S38) → Int → Int → Int → Int → Option ((List (S31)))
  | 0, _, _, _, _, _, _, _, _, _, _, _, _, _, _, _, _, _, _ => none
  | k + 1, x3, x4, x6, x20, x21, x60, x61, x62, x185000, x185001, x185002, x187000, x189000, x189002, x189003, x189004, x189005, x189006 => if x62 < x61 then (if 0 ≤ x62 then (if x62 < (x60.length : Int) then ((refinerylaw03_Line_Instr.f k ((rd_T34 x60 x62).f0) ((rd_T34 x60 x62).f1) ((rd_T34 x60 x62).f2) ((rd_T34 x60 x62).f3) ((rd_T34 x60 x62).f4) ((rd_T34 x60 x62).f5) ((rd_T34 x60 x62).f6) x3).bind fun bt195 => (if x189002.length < 2932031007402 then (refinerylaw03_Small_Program.l2 k x3 x4 x6 x20 x21 x60 x61 (wrap64 (x62 + 1)) x185000 x185001 x185002 x187000 x189000 (x189002 ++ [(⟨bt195.1, bt195.2.1, bt195.2.2.1, bt195.2.2.2.1, bt195.2.2.2.2.1, bt195.2.2.2.2.2.1, bt195.2.2.2.2.2.2⟩ : S38)]) x189003 x189004 x189005 x189006) else (none))) else (none)) else (none)) else (if 0 ≤ x6 then (if x6 < (x185002.length : Int) then ((refinerylaw03_Block_Last.f k ((rd_T138 x185002 x6).f0) ((rd_T138 x185002 x6).f1) ((rd_T138 x185002 x6).f2) ((rd_T138 x185002 x6).f3) ((rd_T138 x185002 x6).f4) x3 x4).bind fun bt206 => (if x187000.length < 1599289640401 then (refinerylaw03_Small_Program.l0 k x3 x4 x20 (wrap64 (x21 + 1)) x185000 x185001 x185002 (x187000 ++ [(⟨x189000, ([] : List (S147)), x189002, (⟨bt206.1, bt206.2.1, bt206.2.2.1, bt206.2.2.2⟩ : S29)⟩ : S31)])) else (none))) else (none)) else (none))
def refinerylaw03_Small_Program.l1 : Nat → Int → Int → Int → Int → Int → Int → Int → Int → Bool → List (S138) → List (S31) → Int → List (S38) → Int → Int → Int → Int → Option ((List (S31)))
  | 0, _, _, _, _, _, _, _, _, _, _, _, _, _, _, _, _, _ => none
  | k + 1, x3, x4, x6, x20, x21, x35, x36, x185000, x185001, x185002, x187000, x189000, x189002, x189003, x189004, x189005, x189006 => if x36 < x35 then (if x189002.length < 2932031007402 then (refinerylaw03_Small_Program.l1 k x3 x4 x6 x20 x21 x35 (wrap64 (x36 + 1)) x185000 x185001 x185002 x187000 x189000 (x189002 ++ [(⟨0, 0, x36, 0, 0, wrap64 (x36 * x36), 0⟩ : S38)]) x189003 x189004 x189005 x189006) else (none)) else (refinerylaw03_Small_Program.j3 k x3 x4 x6 x20 x21 x185000 x185001 x185002 x187000 x189000 x189002 x189003 x189004 x189005 x189006)
end
def refinerylaw03_Small_Program.f (k : Nat) (a0_0 : Int) (a0_1 : Bool) (l0_2 : List (S138)) : Option ((List (S31))) := refinerylaw03_Small_Program.l0 k (wrap64 (1 + (wrap64 (Int.tmod a0_0 6)))) (mx (l0_2.length : Int) 1) (mx (l0_2.length : Int) 1) 0 a0_0 a0_1 l0_2 ([] : List (S31))
theorem refinerylaw03_Small_Program.mono_l : ∀ k, (∀ y0 y1 y2 y3 y4 y5 y6 y7, LeO (refinerylaw03_Small_Program.l0 k y0 y1 y2 y3 y4 y5 y6 y7) (refinerylaw03_Small_Program.l0 (k + 1) y0 y1 y2 y3 y4 y5 y6 y7)) ∧ (∀ y0 y1 y2 y3 y4 y5 y6 y7 y8 y9 y10 y11 y12 y13 y14, LeO (refinerylaw03_Small_Program.j1 k y0 y1 y2 y3 y4 y5 y6 y7 y8 y9 y10 y11 y12 y13 y14) (refinerylaw03_Small_Program.j1 (k + 1) y0 y1 y2 y3 y4 y5 y6 y7 y8 y9 y10 y11 y12 y13 y14)) ∧ (∀ y0 y1 y2 y3 y4 y5 y6 y7 y8 y9 y10 y11 y12 y13 y14, LeO (refinerylaw03_Small_Program.j3 k y0 y1 y2 y3 y4 y5 y6 y7 y8 y9 y10 y11 y12 y13 y14) (refinerylaw03_Small_Program.j3 (k + 1) y0 y1 y2 y3 y4 y5 y6 y7 y8 y9 y10 y11 y12 y13 y14)) ∧ (∀ y0 y1 y2 y3 y4 y5 y6 y7 y8 y9 y10 y11 y12 y13 y14 y15 y16 y17, LeO (refinerylaw03_Small_Program.l2 k y0 y1 y2 y3 y4 y5 y6 y7 y8 y9 y10 y11 y12 y13 y14 y15 y16 y17) (refinerylaw03_Small_Program.l2 (k + 1) y0 y1 y2 y3 y4 y5 y6 y7 y8 y9 y10 y11 y12 y13 y14 y15 y16 y17)) ∧ (∀ y0 y1 y2 y3 y4 y5 y6 y7 y8 y9 y10 y11 y12 y13 y14 y15 y16, LeO (refinerylaw03_Small_Program.l1 k y0 y1 y2 y3 y4 y5 y6 y7 y8 y9 y10 y11 y12 y13 y14 y15 y16) (refinerylaw03_Small_Program.l1 (k + 1) y0 y1 y2 y3 y4 y5 y6 y7 y8 y9 y10 y11 y12 y13 y14 y15 y16))
  | 0 => ⟨fun _ _ _ _ _ _ _ _ r h => by simp [refinerylaw03_Small_Program.l0] at h, fun _ _ _ _ _ _ _ _ _ _ _ _ _ _ _ r h => by simp [refinerylaw03_Small_Program.j1] at h, fun _ _ _ _ _ _ _ _ _ _ _ _ _ _ _ r h => by simp [refinerylaw03_Small_Program.j3] at h, fun _ _ _ _ _ _ _ _ _ _ _ _ _ _ _ _ _ _ r h => by simp [refinerylaw03_Small_Program.l2] at h, fun _ _ _ _ _ _ _ _ _ _ _ _ _ _ _ _ _ r h => by simp [refinerylaw03_Small_Program.l1] at h⟩
  | k + 1 => by
    obtain ⟨ih0, ih1, ih2, ih3, ih4⟩ := refinerylaw03_Small_Program.mono_l k
    refine ⟨?_, ?_, ?_, ?_, ?_⟩
    · intro y0 y1 y2 y3 y4 y5 y6 y7
      unfold refinerylaw03_Small_Program.l0
      repeat' first
      | (with_reducible exact ih0 _ _ _ _ _ _ _ _)
      | (with_reducible exact ih1 _ _ _ _ _ _ _ _ _ _ _ _ _ _ _)
      | (with_reducible exact ih2 _ _ _ _ _ _ _ _ _ _ _ _ _ _ _)
      | (with_reducible exact ih3 _ _ _ _ _ _ _ _ _ _ _ _ _ _ _ _ _ _)
      | (with_reducible exact ih4 _ _ _ _ _ _ _ _ _ _ _ _ _ _ _ _ _)
      | (with_reducible exact refinerylaw03_Block_Last.mono _ _ _ _ _ _ _ _)
      | (with_reducible exact refinerylaw03_Line_Instr.mono _ _ _ _ _ _ _ _ _)
      | (with_reducible exact LeO.refl _)
      | (with_reducible exact LeO.none _)
      | (with_reducible refine LeO.ite ?_ ?_)
      | (with_reducible refine LeO.bind ?_ (fun _ => ?_))
      | exact ih0 _ _ _ _ _ _ _ _
      | exact ih1 _ _ _ _ _ _ _ _ _ _ _ _ _ _ _
      | exact ih2 _ _ _ _ _ _ _ _ _ _ _ _ _ _ _
      | exact ih3 _ _ _ _ _ _ _ _ _ _ _ _ _ _ _ _ _ _
      | exact ih4 _ _ _ _ _ _ _ _ _ _ _ _ _ _ _ _ _
      | exact refinerylaw03_Block_Last.mono _ _ _ _ _ _ _ _
      | exact refinerylaw03_Line_Instr.mono _ _ _ _ _ _ _ _ _
      | exact LeO.none _
      | refine LeO.ite ?_ ?_
      | refine LeO.bind ?_ (fun _ => ?_)
    · intro y0 y1 y2 y3 y4 y5 y6 y7 y8 y9 y10 y11 y12 y13 y14
      unfold refinerylaw03_Small_Program.j1
      repeat' first
      | (with_reducible exact ih0 _ _ _ _ _ _ _ _)
      | (with_reducible exact ih1 _ _ _ _ _ _ _ _ _ _ _ _ _ _ _)
      | (with_reducible exact ih2 _ _ _ _ _ _ _ _ _ _ _ _ _ _ _)
      | (with_reducible exact ih3 _ _ _ _ _ _ _ _ _ _ _ _ _ _ _ _ _ _)
      | (with_reducible exact ih4 _ _ _ _ _ _ _ _ _ _ _ _ _ _ _ _ _)
      | (with_reducible exact refinerylaw03_Block_Last.mono _ _ _ _ _ _ _ _)
      | (with_reducible exact refinerylaw03_Line_Instr.mono _ _ _ _ _ _ _ _ _)
      | (with_reducible exact LeO.refl _)
      | (with_reducible exact LeO.none _)
      | (with_reducible refine LeO.ite ?_ ?_)
      | (with_reducible refine LeO.bind ?_ (fun _ => ?_))
      | exact ih0 _ _ _ _ _ _ _ _
      | exact ih1 _ _ _ _ _ _ _ _ _ _ _ _ _ _ _
      | exact ih2 _ _ _ _ _ _ _ _ _ _ _ _ _ _ _
      | exact ih3 _ _ _ _ _ _ _ _ _ _ _ _ _ _ _ _ _ _
      | exact ih4 _ _ _ _ _ _ _ _ _ _ _ _ _ _ _ _ _
      | exact refinerylaw03_Block_Last.mono _ _ _ _ _ _ _ _
      | exact refinerylaw03_Line_Instr.mono _ _ _ _ _ _ _ _ _
      | exact LeO.none _
      | refine LeO.ite ?_ ?_
      | refine LeO.bind ?_ (fun _ => ?_)
    · intro y0 y1 y2 y3 y4 y5 y6 y7 y8 y9 y10 y11 y12 y13 y14
      unfold refinerylaw03_Small_Program.j3
      repeat' first
      | (with_reducible exact ih0 _ _ _ _ _ _ _ _)
      | (with_reducible exact ih1 _ _ _ _ _ _ _ _ _ _ _ _ _ _ _)
      | (with_reducible exact ih2 _ _ _ _ _ _ _ _ _ _ _ _ _ _ _)
      | (with_reducible exact ih3 _ _ _ _ _ _ _ _ _ _ _ _ _ _ _ _ _ _)
      | (with_reducible exact ih4 _ _ _ _ _ _ _ _ _ _ _ _ _ _ _ _ _)
      | (with_reducible exact refinerylaw03_Block_Last.mono _ _ _ _ _ _ _ _)
      | (with_reducible exact refinerylaw03_Line_Instr.mono _ _ _ _ _ _ _ _ _)
      | (with_reducible exact LeO.refl _)
      | (with_reducible exact LeO.none _)
      | (with_reducible refine LeO.ite ?_ ?_)
      | (with_reducible refine LeO.bind ?_ (fun _ => ?_))
      | exact ih0 _ _ _ _ _ _ _ _
      | exact ih1 _ _ _ _ _ _ _ _ _ _ _ _ _ _ _
      | exact ih2 _ _ _ _ _ _ _ _ _ _ _ _ _ _ _
      | exact ih3 _ _ _ _ _ _ _ _ _ _ _ _ _ _ _ _ _ _
      | exact ih4 _ _ _ _ _ _ _ _ _ _ _ _ _ _ _ _ _
      | exact refinerylaw03_Block_Last.mono _ _ _ _ _ _ _ _
      | exact refinerylaw03_Line_Instr.mono _ _ _ _ _ _ _ _ _
      | exact LeO.none _
      | refine LeO.ite ?_ ?_
      | refine LeO.bind ?_ (fun _ => ?_)
    · intro y0 y1 y2 y3 y4 y5 y6 y7 y8 y9 y10 y11 y12 y13 y14 y15 y16 y17
      unfold refinerylaw03_Small_Program.l2
      repeat' first
      | (with_reducible exact ih0 _ _ _ _ _ _ _ _)
      | (with_reducible exact ih1 _ _ _ _ _ _ _ _ _ _ _ _ _ _ _)
      | (with_reducible exact ih2 _ _ _ _ _ _ _ _ _ _ _ _ _ _ _)
      | (with_reducible exact ih3 _ _ _ _ _ _ _ _ _ _ _ _ _ _ _ _ _ _)
      | (with_reducible exact ih4 _ _ _ _ _ _ _ _ _ _ _ _ _ _ _ _ _)
      | (with_reducible exact refinerylaw03_Block_Last.mono _ _ _ _ _ _ _ _)
      | (with_reducible exact refinerylaw03_Line_Instr.mono _ _ _ _ _ _ _ _ _)
      | (with_reducible exact LeO.refl _)
      | (with_reducible exact LeO.none _)
      | (with_reducible refine LeO.ite ?_ ?_)
      | (with_reducible refine LeO.bind ?_ (fun _ => ?_))
      | exact ih0 _ _ _ _ _ _ _ _
      | exact ih1 _ _ _ _ _ _ _ _ _ _ _ _ _ _ _
      | exact ih2 _ _ _ _ _ _ _ _ _ _ _ _ _ _ _
      | exact ih3 _ _ _ _ _ _ _ _ _ _ _ _ _ _ _ _ _ _
      | exact ih4 _ _ _ _ _ _ _ _ _ _ _ _ _ _ _ _ _
      | exact refinerylaw03_Block_Last.mono _ _ _ _ _ _ _ _
      | exact refinerylaw03_Line_Instr.mono _ _ _ _ _ _ _ _ _
      | exact LeO.none _
      | refine LeO.ite ?_ ?_
      | refine LeO.bind ?_ (fun _ => ?_)
    · intro y0 y1 y2 y3 y4 y5 y6 y7 y8 y9 y10 y11 y12 y13 y14 y15 y16
      unfold refinerylaw03_Small_Program.l1
      repeat' first
      | (with_reducible exact ih0 _ _ _ _ _ _ _ _)
      | (with_reducible exact ih1 _ _ _ _ _ _ _ _ _ _ _ _ _ _ _)
      | (with_reducible exact ih2 _ _ _ _ _ _ _ _ _ _ _ _ _ _ _)
      | (with_reducible exact ih3 _ _ _ _ _ _ _ _ _ _ _ _ _ _ _ _ _ _)
      | (with_reducible exact ih4 _ _ _ _ _ _ _ _ _ _ _ _ _ _ _ _ _)
      | (with_reducible exact refinerylaw03_Block_Last.mono _ _ _ _ _ _ _ _)
      | (with_reducible exact refinerylaw03_Line_Instr.mono _ _ _ _ _ _ _ _ _)
      | (with_reducible exact LeO.refl _)
      | (with_reducible exact LeO.none _)
      | (with_reducible refine LeO.ite ?_ ?_)
      | (with_reducible refine LeO.bind ?_ (fun _ => ?_))
      | exact ih0 _ _ _ _ _ _ _ _
      | exact ih1 _ _ _ _ _ _ _ _ _ _ _ _ _ _ _
      | exact ih2 _ _ _ _ _ _ _ _ _ _ _ _ _ _ _
      | exact ih3 _ _ _ _ _ _ _ _ _ _ _ _ _ _ _ _ _ _
      | exact ih4 _ _ _ _ _ _ _ _ _ _ _ _ _ _ _ _ _
      | exact refinerylaw03_Block_Last.mono _ _ _ _ _ _ _ _
      | exact refinerylaw03_Line_Instr.mono _ _ _ _ _ _ _ _ _
      | exact LeO.none _
      | refine LeO.ite ?_ ?_
      | refine LeO.bind ?_ (fun _ => ?_)
theorem refinerylaw03_Small_Program.mono : ∀ a0 a1 a2 k, LeO (refinerylaw03_Small_Program.f k a0 a1 a2) (refinerylaw03_Small_Program.f (k + 1) a0 a1 a2) := by
  intro a0 a1 a2 k
  obtain ⟨ih0, ih1, ih2, ih3, ih4⟩ := refinerylaw03_Small_Program.mono_l k
  unfold refinerylaw03_Small_Program.f
  repeat' first
      | (with_reducible exact ih0 _ _ _ _ _ _ _ _)
      | (with_reducible exact ih1 _ _ _ _ _ _ _ _ _ _ _ _ _ _ _)
      | (with_reducible exact ih2 _ _ _ _ _ _ _ _ _ _ _ _ _ _ _)
      | (with_reducible exact ih3 _ _ _ _ _ _ _ _ _ _ _ _ _ _ _ _ _ _)
      | (with_reducible exact ih4 _ _ _ _ _ _ _ _ _ _ _ _ _ _ _ _ _)
      | (with_reducible exact refinerylaw03_Block_Last.mono _ _ _ _ _ _ _ _)
      | (with_reducible exact refinerylaw03_Line_Instr.mono _ _ _ _ _ _ _ _ _)
      | (with_reducible exact LeO.refl _)
      | (with_reducible exact LeO.none _)
      | (with_reducible refine LeO.ite ?_ ?_)
      | (with_reducible refine LeO.bind ?_ (fun _ => ?_))
      | exact ih0 _ _ _ _ _ _ _ _
      | exact ih1 _ _ _ _ _ _ _ _ _ _ _ _ _ _ _
      | exact ih2 _ _ _ _ _ _ _ _ _ _ _ _ _ _ _
      | exact ih3 _ _ _ _ _ _ _ _ _ _ _ _ _ _ _ _ _ _
      | exact ih4 _ _ _ _ _ _ _ _ _ _ _ _ _ _ _ _ _
      | exact refinerylaw03_Block_Last.mono _ _ _ _ _ _ _ _
      | exact refinerylaw03_Line_Instr.mono _ _ _ _ _ _ _ _ _
      | exact LeO.none _
      | refine LeO.ite ?_ ?_
      | refine LeO.bind ?_ (fun _ => ?_)
def refinerylaw03_Small_Program.T1 : Bool × List (List Nat × List Nat) := (true, [([], []), ([0], [0]), ([1], [1]), ([2], [2]), ([3], [3]), ([], []), ([5], [5]), ([6], [6]), ([7], [7]), ([4, 0, 1, 2, 3, 4], [4]), ([8, 9, 0, 1, 2, 3, 4, 5, 6, 7, 8, 9], [8])])
def refinerylaw03_Small_Program.B1 : List Nat := [0, 1, 3, 7, 15, 0, 32, 96, 224, 31, 1023]
theorem refinerylaw03_Small_Program.tab1 : rtab .any (opsOf Try.f31 1) = refinerylaw03_Small_Program.T1 := by kernel_rfl
theorem refinerylaw03_Small_Program.bits1 : waitsOk refinerylaw03_Small_Program.T1.2 refinerylaw03_Small_Program.B1 = true := by kernel_rfl
def refinerylaw03_Small_Program.T17 : Bool × List (List Nat × List Nat) := (true, [([], []), ([0], [0]), ([], []), ([], []), ([2, 3], [2, 3]), ([4], [4]), ([1, 5, 4], [1, 5]), ([0, 1, 2, 3, 4, 5, 6], []), ([7, 6, 6, 0, 1, 2, 3, 4, 5, 6], [6, 7])])
def refinerylaw03_Small_Program.B17 : List Nat := [0, 1, 0, 0, 12, 28, 63, 127, 255]
theorem refinerylaw03_Small_Program.tab17 : rtab .any (opsOf Try.f31 17) = refinerylaw03_Small_Program.T17 := by kernel_rfl
theorem refinerylaw03_Small_Program.bits17 : waitsOk refinerylaw03_Small_Program.T17.2 refinerylaw03_Small_Program.B17 = true := by kernel_rfl
set_option maxHeartbeats 8000000 in
set_option maxRecDepth 100000 in
theorem refinerylaw03_Small_Program.calls (k : Nat) (a0_0 : Int) (a0_1 : Bool) (A0_2 : Option Addr) (c0_2 : Nat) (l0_2 : List (S138)) (r : List (S31)) (w : World) (hr0_2 : Kd.C k138 w A0_2 l0_2.length l0_2) (hc0_2 : l0_2.length ≤ c0_2) (h : refinerylaw03_Small_Program.f k a0_0 a0_1 l0_2 = some r) :
    Calls Try.prog 31 #[.agg #[.int .u8 a0_0, .bool a0_1, .slice A0_2 l0_2.length c0_2]] w fun e w' => ∃ v0_ : Value, e = .returned (.agg #[v0_]) ∧ Kd.R k31 31 w' w.heap.size (fun _ => True) v0_ r ∧ Below w.heap.size w w' := by
  have hu65 := Try.underlying65
  have hu57 := Try.underlying57
  have hu29 := Try.underlying29
  have hu31 := Try.underlying31
  have hu38 := Try.underlying38
  have hu34 := Try.underlying34
  have hu138 := Try.underlying138
  have HR0_2 := Aside0.mk hr0_2
  have HC0_2 := Aside0.mk hc0_2
  clear hr0_2 hc0_2
  have HB := Aside0.mk (Below.refl w.heap.size w)
  have H : (refinerylaw03_Small_Program.l0 k (wrap64 (1 + (wrap64 (Int.tmod a0_0 6)))) (mx (l0_2.length : Int) 1) (mx (l0_2.length : Int) 1) 0 a0_0 a0_1 l0_2 ([] : List (S31))) = some r := h
  clear h
  obtain ⟨ji2, hji2⟩ : ∃ j_ : Int, (mx (l0_2.length : Int) 1) = j_ := ⟨_, rfl⟩
  replace H : (refinerylaw03_Small_Program.l0 k (wrap64 (1 + (wrap64 (Int.tmod a0_0 6)))) ji2 ji2 0 a0_0 a0_1 l0_2 ([] : List (S31))) = some r := by first | (rw [hji2] at H; exact H) | (simp only [hji2] at H ⊢; exact H)
  (try (have hji2l : 1 ≤ ji2 := by (rw [← hji2]; unfold mx; (repeat' split) <;> omega)))
  (try (have hji2m : 0 ≤ ji2 := by omega))
  have hji2_ : (if (l0_2.length : Int) < 1 then 1 else (l0_2.length : Int)) = ji2 := hji2
  have H' := Aside0.mk H
  clear H
  go_enter Try.func31, Try.ntmps31
  try go_wp2_with (first | ((with_reducible refine gate_dst (N := 1) rfl ?_); refine box_event ?hg (N := 1) ?hd (cs := #[.int .u8 a0_0, .bool a0_1, .slice A0_2 l0_2.length c0_2]) (t := 65) ?hr ?_; (case hd => rfl); (case hg => rfl); (case hr => first | (go_simp; done) | (go_simp; rfl)); intro gb184 hg w3 hbox hb; have n0_ := Aside0.mk (below_step (by repeat (first | (with_reducible first | exact HB.out | apply below_alloc | apply pw_below_drewN | apply below_drew1) | exact HB.out)) hb); have n1_ := Aside0.mk (hbox); have n2_ := Aside0.mk ((by rw [hg]; exact (below_size (by repeat (first | (with_reducible first | exact HB.out | apply below_alloc | apply pw_below_drewN | apply below_drew1) | exact HB.out))) : w.heap.size ≤ gb184)); have n3_ := Aside0.mk ((by rw [hg]; exact (below_size (by repeat (first | (with_reducible first | exact HB.out | apply below_alloc | apply pw_below_drewN | apply below_drew1) | exact HB.out))) : w.heap.size ≤ gb184)); clear HB; have HB := n0_; have BK184 := n1_; have GW184 := n2_; have GE184 := n3_; clear n0_ n1_ n2_ n3_; clear hb hbox hg) | ((with_reducible refine gate_dst (N := 2) rfl ?_); refine box_event ?hg (N := 2) ?hd (cs := #[.slice none 0 0]) (t := 57) ?hr ?_; (case hd => rfl); (case hg => rfl); (case hr => first | (go_simp; done) | (go_simp; rfl)); intro gb185 hg w4 hbox hb; have n0_ := Aside0.mk (blk_below (g := gb184) (o := .cells #[.int .u8 a0_0, .bool a0_1, .slice A0_2 l0_2.length c0_2] 65 (0, 0)) (by (with_reducible repeat (first | refine blk_drewN ?_ _ | refine blk_drew ?_ | refine blk_alloc ?_ _)); exact BK184.out) hb); have n1_ := Aside0.mk (below_step (by repeat (first | (with_reducible first | exact HB.out | apply below_alloc | apply pw_below_drewN | apply below_drew1 | refine below_set ?_ GE184.out) | exact HB.out)) hb); have n2_ := Aside0.mk (hbox); have n3_ := Aside0.mk ((by rw [hg]; exact (below_size (by repeat (first | (with_reducible first | exact HB.out | apply below_alloc | apply pw_below_drewN | apply below_drew1 | refine below_set ?_ GE184.out) | exact HB.out))) : w.heap.size ≤ gb185)); have n4_ := Aside0.mk ((by rw [hg]; exact (below_size (by repeat (first | (with_reducible first | exact HB.out | apply below_alloc | apply pw_below_drewN | apply below_drew1 | refine below_set ?_ GE184.out) | exact HB.out))) : w.heap.size ≤ gb185)); have n5_ := Aside0.mk ((by rw [hg]; exact Nat.ne_of_lt (blk_lt (g := gb184) (o := .cells #[.int .u8 a0_0, .bool a0_1, .slice A0_2 l0_2.length c0_2] 65 (0, 0)) (by (with_reducible repeat (first | refine blk_drewN ?_ _ | refine blk_drew ?_ | refine blk_alloc ?_ _)); exact BK184.out)) : gb184 ≠ gb185)); have n6_ := Aside0.mk ((by rw [hg]; exact Nat.ne_of_gt (blk_lt (g := gb184) (o := .cells #[.int .u8 a0_0, .bool a0_1, .slice A0_2 l0_2.length c0_2] 65 (0, 0)) (by (with_reducible repeat (first | refine blk_drewN ?_ _ | refine blk_drew ?_ | refine blk_alloc ?_ _)); exact BK184.out)) : gb185 ≠ gb184)); clear BK184; clear HB; have BK184 := n0_; have HB := n1_; have BK185 := n2_; have GW185 := n3_; have GE185 := n4_; have NB184_185 := n5_; have NB185_184 := n6_; clear n0_ n1_ n2_ n3_ n4_ n5_ n6_; clear hb hbox hg))
  have n0_ := Aside0.mk (blk_drew BK184.out)
  have n1_ := Aside0.mk (blk_drew BK185.out)
  have n2_ := Aside0.mk (below_drew1 HB.out)
  clear BK184
  clear BK185
  clear HB
  have BK184 := n0_
  have BK185 := n1_
  have HB := n2_
  clear n0_ n1_ n2_
  refine start_ (n := 11) (S := fun w' => w'.cell? ⟨gb184, 0, none⟩ = some (.int .u8 a0_0) ∧ w'.cell? ⟨gb184, 1, none⟩ = some (.bool a0_1) ∧ w'.cell? ⟨gb184, 2, none⟩ = some (.slice A0_2 l0_2.length c0_2)) (ds := []) #[false, false, false, false, false, false, false, false, false, false, false] (by kernel_rfl) rfl rfl ⟨(blk_cell BK184.out 0).trans rfl, (blk_cell BK184.out 1).trans rfl, (blk_cell BK184.out 2).trans rfl⟩ (fun hHeld => ?_); refine with_tabW refinerylaw03_Small_Program.tab1 refinerylaw03_Small_Program.bits1 (fun HT_ HW_ => ?_)
  generalize w4.drew = w5 at BK184 BK185 HB hHeld ⊢
  refine pure_ (i := 0) (N := some 11) (v := ?_) (a' := ?_) #[true, false, false, false, false, false, false, false, false, false, false] rfl rfl (any_of HT_.out (by kernel_rfl)) (fun _ _ _ h => h) (Or.inl ⟨by rfl, ?_⟩) ?_ ?_
  rotate_left
  · intro w'
    go_simp
    with_reducible rfl
  rotate_left
  · simp only [Act.put, List.setIfInBounds_toArray, List.set_cons_zero, List.set_cons_succ, i64_w, i32_w]
    rfl
  refine pure_ (i := 5) (N := some 16) (v := ?_) (a' := ?_) #[true, false, false, false, false, true, false, false, false, false, false] rfl rfl (any_of HT_.out (by kernel_rfl)) (fun _ _ _ h => h) (Or.inl ⟨by rfl, ?_⟩) ?_ ?_
  rotate_left
  · intro w'
    go_simp
    with_reducible rfl
  rotate_left
  · simp only [Act.put, List.setIfInBounds_toArray, List.set_cons_zero, List.set_cons_succ, i64_w, i32_w]
    rfl
  refine take_ (i := 1) (N := some 12) (v := ?_) (a' := ?_) #[true, true, false, false, false, true, false, false, false, false, false] rfl rfl (take_ofW HT_.out HW_.out (by kernel_rfl)) (fun _ _ _ h => h) (Or.inl ⟨by rfl, ?_⟩) hHeld ?_ ?_
  rotate_left
  · rintro w' ⟨s0, s1, s2⟩
    go_simp
    with_reducible rfl
  rotate_left
  · simp only [Act.put, List.setIfInBounds_toArray, List.set_cons_zero, List.set_cons_succ, i64_w, i32_w]
    rfl
  refine pure_ (i := 2) (N := some 13) (v := ?_) (a' := ?_) #[true, true, true, false, false, true, false, false, false, false, false] rfl rfl (any_of HT_.out (by kernel_rfl)) (fun _ _ _ h => h) (Or.inl ⟨by rfl, ?_⟩) ?_ ?_
  rotate_left
  · intro w'
    go_simp
    with_reducible rfl
  rotate_left
  · simp only [Act.put, List.setIfInBounds_toArray, List.set_cons_zero, List.set_cons_succ, i64_w, i32_w]
    rfl
  refine pure_ (i := 3) (N := some 14) (v := ?_) (a' := ?_) #[true, true, true, true, false, true, false, false, false, false, false] rfl rfl (any_of HT_.out (by kernel_rfl)) (fun _ _ _ h => h) (Or.inl ⟨by rfl, ?_⟩) ?_ ?_
  rotate_left
  · intro w'
    go_simp
    with_reducible rfl
  rotate_left
  · simp only [Act.put, List.setIfInBounds_toArray, List.set_cons_zero, List.set_cons_succ, i64_w, i32_w]
    rfl
  refine pure_ (i := 4) (N := some 15) (v := ?_) (a' := ?_) #[true, true, true, true, true, true, false, false, false, false, false] rfl rfl (any_of HT_.out (by kernel_rfl)) (fun _ _ _ h => h) (Or.inl ⟨by rfl, ?_⟩) ?_ ?_
  rotate_left
  · intro w'
    go_simp
    with_reducible rfl
  rotate_left
  · simp only [Act.put, List.setIfInBounds_toArray, List.set_cons_zero, List.set_cons_succ, i64_w, i32_w]
    rfl
  refine pure_ (i := 9) (N := some 3) (v := ?_) (a' := ?_) #[true, true, true, true, true, true, false, false, false, true, false] rfl rfl (any_of HT_.out (by kernel_rfl)) (fun _ _ _ h => h) (Or.inl ⟨by rfl, ?_⟩) ?_ ?_
  rotate_left
  · intro w'
    go_simp
    with_reducible rfl
  rotate_left
  · simp only [Act.put, List.setIfInBounds_toArray, List.set_cons_zero, List.set_cons_succ, i64_w, i32_w]
    rfl
  refine take_ (i := 6) (N := some 17) (v := ?_) (a' := ?_) #[true, true, true, true, true, true, true, false, false, true, false] rfl rfl (take_ofW HT_.out HW_.out (by kernel_rfl)) (fun _ _ _ h => h) (Or.inl ⟨by rfl, ?_⟩) hHeld ?_ ?_
  rotate_left
  · rintro w' ⟨s0, s1, s2⟩
    go_simp
    with_reducible rfl
  rotate_left
  · simp only [Act.put, List.setIfInBounds_toArray, List.set_cons_zero, List.set_cons_succ, i64_w, i32_w]
    rfl
  refine pure_ (i := 7) (N := some 18) (v := ?_) (a' := ?_) #[true, true, true, true, true, true, true, true, false, true, false] rfl rfl (any_of HT_.out (by kernel_rfl)) (fun _ _ _ h => h) (Or.inl ⟨by rfl, ?_⟩) ?_ ?_
  rotate_left
  · intro w'
    go_simp
    with_reducible rfl
  rotate_left
  · simp only [Act.put, List.setIfInBounds_toArray, List.set_cons_zero, List.set_cons_succ, i64_w, i32_w]
    rfl
  refine pure_ (i := 8) (N := some 19) (v := ?_) (a' := ?_) #[true, true, true, true, true, true, true, true, true, true, false] rfl rfl (any_of HT_.out (by kernel_rfl)) (fun _ _ _ h => h) (Or.inl ⟨by rfl, ?_⟩) ?_ ?_
  rotate_left
  · intro w'
    go_simp
    with_reducible rfl
  rotate_left
  · simp only [Act.put, List.setIfInBounds_toArray, List.set_cons_zero, List.set_cons_succ, i64_w, i32_w]
    rfl
  refine pure_ (i := 10) (N := some 4) (v := ?_) (a' := ?_) #[true, true, true, true, true, true, true, true, true, true, true] rfl rfl (any_of HT_.out (by kernel_rfl)) (fun _ _ _ h => h) (Or.inl ⟨by rfl, ?_⟩) ?_ ?_
  rotate_left
  · intro w'
    go_simp
    with_reducible rfl
  rotate_left
  · simp only [Act.put, List.setIfInBounds_toArray, List.set_cons_zero, List.set_cons_succ, i64_w, i32_w]
    rfl
  refine done_ (done_of HT_.out (by kernel_rfl)) ?_
  try go_wp2_with (first | ((with_reducible refine gate_dst (N := 5) rfl ?_); refine box_event ?hg (N := 5) ?hd (cs := #[.slice none 0 0]) (t := 57) ?hr ?_; (case hd => rfl); (case hg => rfl); (case hr => first | (go_simp; done) | (go_simp; rfl)); intro gb186 hg w6 hbox hb; have n0_ := Aside0.mk (blk_below (g := gb184) (o := .cells #[.int .u8 a0_0, .bool a0_1, .slice A0_2 l0_2.length c0_2] 65 (0, 0)) (by (with_reducible repeat (first | refine blk_drewN ?_ _ | refine blk_drew ?_ | refine blk_alloc ?_ _)); exact BK184.out) hb); have n1_ := Aside0.mk (blk_below (g := gb185) (o := .cells #[.slice none 0 0] 57 (0, 0)) (by (with_reducible repeat (first | refine blk_drewN ?_ _ | refine blk_drew ?_ | refine blk_alloc ?_ _)); exact BK185.out) hb); have n2_ := Aside0.mk (below_step (by repeat (first | (with_reducible first | exact HB.out | apply below_alloc | apply pw_below_drewN | apply below_drew1 | refine below_set ?_ GE184.out | refine below_set ?_ GE185.out) | exact HB.out)) hb); have n3_ := Aside0.mk (hbox); have n4_ := Aside0.mk ((by rw [hg]; exact (below_size (by repeat (first | (with_reducible first | exact HB.out | apply below_alloc | apply pw_below_drewN | apply below_drew1 | refine below_set ?_ GE184.out | refine below_set ?_ GE185.out) | exact HB.out))) : w.heap.size ≤ gb186)); have n5_ := Aside0.mk ((by rw [hg]; exact (below_size (by repeat (first | (with_reducible first | exact HB.out | apply below_alloc | apply pw_below_drewN | apply below_drew1 | refine below_set ?_ GE184.out | refine below_set ?_ GE185.out) | exact HB.out))) : w.heap.size ≤ gb186)); have n6_ := Aside0.mk ((by rw [hg]; exact Nat.ne_of_lt (blk_lt (g := gb184) (o := .cells #[.int .u8 a0_0, .bool a0_1, .slice A0_2 l0_2.length c0_2] 65 (0, 0)) (by (with_reducible repeat (first | refine blk_drewN ?_ _ | refine blk_drew ?_ | refine blk_alloc ?_ _)); exact BK184.out)) : gb184 ≠ gb186)); have n7_ := Aside0.mk ((by rw [hg]; exact Nat.ne_of_gt (blk_lt (g := gb184) (o := .cells #[.int .u8 a0_0, .bool a0_1, .slice A0_2 l0_2.length c0_2] 65 (0, 0)) (by (with_reducible repeat (first | refine blk_drewN ?_ _ | refine blk_drew ?_ | refine blk_alloc ?_ _)); exact BK184.out)) : gb186 ≠ gb184)); have n8_ := Aside0.mk ((by rw [hg]; exact Nat.ne_of_lt (blk_lt (g := gb185) (o := .cells #[.slice none 0 0] 57 (0, 0)) (by (with_reducible repeat (first | refine blk_drewN ?_ _ | refine blk_drew ?_ | refine blk_alloc ?_ _)); exact BK185.out)) : gb185 ≠ gb186)); have n9_ := Aside0.mk ((by rw [hg]; exact Nat.ne_of_gt (blk_lt (g := gb185) (o := .cells #[.slice none 0 0] 57 (0, 0)) (by (with_reducible repeat (first | refine blk_drewN ?_ _ | refine blk_drew ?_ | refine blk_alloc ?_ _)); exact BK185.out)) : gb186 ≠ gb185)); clear BK184; clear BK185; clear HB; have BK184 := n0_; have BK185 := n1_; have HB := n2_; have BK186 := n3_; have GW186 := n4_; have GE186 := n5_; have NB184_186 := n6_; have NB186_184 := n7_; have NB185_186 := n8_; have NB186_185 := n9_; clear n0_ n1_ n2_ n3_ n4_ n5_ n6_ n7_ n8_ n9_; clear hb hbox hg))
  go_loopg [21] k (fun kq v21 w' => ∃ (x21_1 : Int) (x187000_1 : List (S31)) (u187000 : Value), v21 = .int .i64 x21_1 ∧ Aside0 (refinerylaw03_Small_Program.l0 kq (wrap64 (1 + (wrap64 (Int.tmod a0_0 6)))) ji2 ji2 x21_1 a0_0 a0_1 l0_2 x187000_1 = some r) ∧ Aside0 (kq ≤ k) ∧ Aside0 (Kd.R k31 31 w' w.heap.size (fun _ => True) u187000 x187000_1) ∧ Aside0 (w'.heap[gb184]? = some (.cells #[.int .u8 a0_0, .bool a0_1, (.slice A0_2 l0_2.length c0_2)] 65 (0, 0))) ∧ Aside0 (w'.heap[gb185]? = some (.cells #[(.slice none 0 0)] 57 (0, 0))) ∧ Aside0 (w'.heap[gb186]? = some (.cells #[u187000] 57 (0, 0))) ∧ Aside0 (Below w.heap.size w w'))
  case atStart => exact ⟨(0), (([] : List (S31))), (.slice none 0 0), (by first | rfl | (simp; done) | (simp [*]; done)), H', ⟨Nat.le_refl _⟩, ⟨by first | exact Kd.R_nil _ _ _ _ _ | exact Kd.N_nil _ _ _ _ _ | exact Kd.V_nil _ _ _ _ _ | exact Kd.Q_nil _ _ _ _ _ | exact Kd.S_nil _ _ _ _ _⟩, ⟨by (with_reducible repeat (first | refine blk_drewN ?_ _ | refine blk_drew ?_ | refine blk_alloc ?_ _)); exact BK184.out⟩, ⟨by (with_reducible repeat (first | refine blk_drewN ?_ _ | refine blk_drew ?_ | refine blk_alloc ?_ _)); exact BK185.out⟩, ⟨by (with_reducible repeat (first | refine blk_drewN ?_ _ | refine blk_drew ?_ | refine blk_alloc ?_ _)); exact BK186.out⟩, ⟨by repeat (first | (with_reducible first | exact HB.out | apply below_alloc | apply pw_below_drewN | apply below_drew1 | refine below_set ?_ GE184.out | refine below_set ?_ GE185.out | refine below_set ?_ GE186.out) | exact HB.out)⟩⟩
  case round =>
    clear H'
    try clear p2
    try clear c3
    try clear p6
    obtain ⟨x21_1, x187000_1, u187000, rfl, HA, HK1, HO_187000, BK184, BK185, BK186, HB⟩ := hrel
    cases gk with
    | zero => exact absurd HA.out (by simp [refinerylaw03_Small_Program.l0])
    | succ k1 =>
      have H := HA.out
      clear HA
      simp only [refinerylaw03_Small_Program.l0] at H
      by_cases c7 : x21_1 < ji2
      · rw [if_pos c7] at H
        have c7b0 : decide (x21_1 < ji2) = true := decide_eq_true c7
        clear c7
        replace H := Option.bind_eq_some_iff.mp H
        obtain ⟨t187, A80, H⟩ := H
        replace H : (if x21_1 = 0 then (refinerylaw03_Small_Program.j1 k1 (wrap64 (1 + (wrap64 (Int.tmod a0_0 6)))) ji2 x21_1 ji2 x21_1 (!a0_1) a0_0 a0_1 l0_2 x187000_1 t187 2 0 0 0) else (refinerylaw03_Small_Program.j1 k1 (wrap64 (1 + (wrap64 (Int.tmod a0_0 6)))) ji2 x21_1 ji2 x21_1 false a0_0 a0_1 l0_2 x187000_1 t187 2 0 0 0)) = some r := H
        have A8 := Aside0.mk A80
        clear A80
        have HC9 := Aside0.mk H
        clear H
        go_upto_region 7 with (first | ((with_reducible refine gate_callee (f := 76) rfl ?_); refine goesL_ (some 25) rfl rfl Try.func76 (by kernel_rfl) rfl #[.int .i64 x21_1] rfl (by (try simp only [List.map_toArray, List.map_cons, List.map_nil]); first | done | rfl | (simp only [List.length_drop, List.length_take]; rfl)) ?_; (with_reducible refine (refinerylaw03_Label.calls x21_1 t187 _ A8.out).mono ?_); rintro e w' ⟨rfl, ⟨nd, rfl⟩⟩; refine ⟨_, rfl, ?_⟩; (try (rw [drewN_self wr]; generalize hq_ : World.drewN wr _ = wr; have n0_ : Aside0 (Kd.R k31 31 wr w.heap.size (fun _ => True) u187000 x187000_1) := ⟨by rw [← hq_]; exact (by (with_reducible repeat (first | apply Kd.R_alloc | apply Kd.R_drewN | apply Kd.R_drew)); exact HO_187000.out)⟩; have n1_ : Aside0 (wr.heap[gb184]? = some (.cells #[.int .u8 a0_0, .bool a0_1, .slice A0_2 l0_2.length c0_2] 65 (0, 0))) := ⟨by rw [← hq_]; exact (by (with_reducible repeat (first | refine blk_drewN ?_ _ | refine blk_drew ?_ | refine blk_alloc ?_ _)); exact BK184.out)⟩; have n2_ : Aside0 (wr.heap[gb185]? = some (.cells #[.slice none 0 0] 57 (0, 0))) := ⟨by rw [← hq_]; exact (by (with_reducible repeat (first | refine blk_drewN ?_ _ | refine blk_drew ?_ | refine blk_alloc ?_ _)); exact BK185.out)⟩; have n3_ : Aside0 (wr.heap[gb186]? = some (.cells #[u187000] 57 (0, 0))) := ⟨by rw [← hq_]; exact (by (with_reducible repeat (first | refine blk_drewN ?_ _ | refine blk_drew ?_ | refine blk_alloc ?_ _)); exact BK186.out)⟩; have n4_ : Aside0 (Below w.heap.size w wr) := ⟨by rw [← hq_]; exact (by repeat (first | (with_reducible first | exact HB.out | apply below_alloc | apply pw_below_drewN | apply below_drew1 | refine below_set ?_ GE184.out | refine below_set ?_ GE185.out | refine below_set ?_ GE186.out) | exact HB.out))⟩; clear HO_187000 BK184 BK185 BK186 HB hq_; have HO_187000 := n0_; have BK184 := n1_; have BK185 := n2_; have BK186 := n3_; have HB := n4_; clear n0_ n1_ n2_ n3_ n4_))) | ((with_reducible refine gate_dst (N := 7) rfl ?_); refine box_event ?hg (N := 7) ?hd (cs := #[.int .i64 0, .slice none 0 0, .slice none 0 0, .int .u8 0, .int .i64 0, .int .i64 0, .int .i64 0]) (t := 31) ?hr ?_; (case hd => rfl); (case hg => rfl); (case hr => first | (go_simp; done) | (go_simp; rfl)); intro gb188 hg w10 hbox hb; have n0_ := Aside0.mk (Kd.R_below (Kd.R_elderB (by (with_reducible repeat (first | apply Kd.R_alloc | apply Kd.R_drewN | apply Kd.R_drew)); exact HO_187000.out) gb188 (Nat.le_of_eq hg.symm)) hb); have n1_ := Aside0.mk (blk_below (g := gb184) (o := .cells #[.int .u8 a0_0, .bool a0_1, .slice A0_2 l0_2.length c0_2] 65 (0, 0)) (by (with_reducible repeat (first | refine blk_drewN ?_ _ | refine blk_drew ?_ | refine blk_alloc ?_ _)); exact BK184.out) hb); have n2_ := Aside0.mk (blk_below (g := gb185) (o := .cells #[.slice none 0 0] 57 (0, 0)) (by (with_reducible repeat (first | refine blk_drewN ?_ _ | refine blk_drew ?_ | refine blk_alloc ?_ _)); exact BK185.out) hb); have n3_ := Aside0.mk (blk_below (g := gb186) (o := .cells #[u187000] 57 (0, 0)) (by (with_reducible repeat (first | refine blk_drewN ?_ _ | refine blk_drew ?_ | refine blk_alloc ?_ _)); exact BK186.out) hb); have n4_ := Aside0.mk (below_step (by repeat (first | (with_reducible first | exact HB.out | apply below_alloc | apply pw_below_drewN | apply below_drew1 | refine below_set ?_ GE184.out | refine below_set ?_ GE185.out | refine below_set ?_ GE186.out) | exact HB.out)) hb); have n5_ := Aside0.mk (hbox); have n6_ := Aside0.mk ((by rw [hg]; exact (below_size (by repeat (first | (with_reducible first | exact HB.out | apply below_alloc | apply pw_below_drewN | apply below_drew1 | refine below_set ?_ GE184.out | refine below_set ?_ GE185.out | refine below_set ?_ GE186.out) | exact HB.out))) : w.heap.size ≤ gb188)); have n7_ := Aside0.mk ((by rw [hg]; exact (below_size (by repeat (first | (with_reducible first | exact HB.out | apply below_alloc | apply pw_below_drewN | apply below_drew1 | refine below_set ?_ GE184.out | refine below_set ?_ GE185.out | refine below_set ?_ GE186.out) | exact HB.out))) : w.heap.size ≤ gb188)); have n8_ := Aside0.mk ((by rw [hg]; exact Nat.ne_of_lt (blk_lt (g := gb184) (o := .cells #[.int .u8 a0_0, .bool a0_1, .slice A0_2 l0_2.length c0_2] 65 (0, 0)) (by (with_reducible repeat (first | refine blk_drewN ?_ _ | refine blk_drew ?_ | refine blk_alloc ?_ _)); exact BK184.out)) : gb184 ≠ gb188)); have n9_ := Aside0.mk ((by rw [hg]; exact Nat.ne_of_gt (blk_lt (g := gb184) (o := .cells #[.int .u8 a0_0, .bool a0_1, .slice A0_2 l0_2.length c0_2] 65 (0, 0)) (by (with_reducible repeat (first | refine blk_drewN ?_ _ | refine blk_drew ?_ | refine blk_alloc ?_ _)); exact BK184.out)) : gb188 ≠ gb184)); have n10_ := Aside0.mk ((by rw [hg]; exact Nat.ne_of_lt (blk_lt (g := gb185) (o := .cells #[.slice none 0 0] 57 (0, 0)) (by (with_reducible repeat (first | refine blk_drewN ?_ _ | refine blk_drew ?_ | refine blk_alloc ?_ _)); exact BK185.out)) : gb185 ≠ gb188)); have n11_ := Aside0.mk ((by rw [hg]; exact Nat.ne_of_gt (blk_lt (g := gb185) (o := .cells #[.slice none 0 0] 57 (0, 0)) (by (with_reducible repeat (first | refine blk_drewN ?_ _ | refine blk_drew ?_ | refine blk_alloc ?_ _)); exact BK185.out)) : gb188 ≠ gb185)); have n12_ := Aside0.mk ((by rw [hg]; exact Nat.ne_of_lt (blk_lt (g := gb186) (o := .cells #[u187000] 57 (0, 0)) (by (with_reducible repeat (first | refine blk_drewN ?_ _ | refine blk_drew ?_ | refine blk_alloc ?_ _)); exact BK186.out)) : gb186 ≠ gb188)); have n13_ := Aside0.mk ((by rw [hg]; exact Nat.ne_of_gt (blk_lt (g := gb186) (o := .cells #[u187000] 57 (0, 0)) (by (with_reducible repeat (first | refine blk_drewN ?_ _ | refine blk_drew ?_ | refine blk_alloc ?_ _)); exact BK186.out)) : gb188 ≠ gb186)); clear HO_187000; clear BK184; clear BK185; clear BK186; clear HB; have HO_187000 := n0_; have BK184 := n1_; have BK185 := n2_; have BK186 := n3_; have HB := n4_; have BK188 := n5_; have GW188 := n6_; have GE188 := n7_; have NB184_188 := n8_; have NB188_184 := n9_; have NB185_188 := n10_; have NB188_185 := n11_; have NB186_188 := n12_; have NB188_186 := n13_; clear n0_ n1_ n2_ n3_ n4_ n5_ n6_ n7_ n8_ n9_ n10_ n11_ n12_ n13_; clear hb hbox hg; have hnb11 := NB188_184.out; have hnc11 := NB184_188.out; have hnb12 := NB188_185.out; have hnc12 := NB185_188.out; have hnb13 := NB188_186.out; have hnc13 := NB186_188.out; have hcz14_0 : w10.cell? ⟨gb188, 0, none⟩ = some (.int .i64 0) := (blk_cell BK188.out 0).trans rfl; have hcz14_1 : w10.cell? ⟨gb188, 1, none⟩ = some (.slice none 0 0) := (blk_cell BK188.out 1).trans rfl; have hcz14_2 : w10.cell? ⟨gb188, 2, none⟩ = some (.slice none 0 0) := (blk_cell BK188.out 2).trans rfl; have hcz14_3 : w10.cell? ⟨gb188, 3, none⟩ = some (.int .u8 0) := (blk_cell BK188.out 3).trans rfl; have hcz14_4 : w10.cell? ⟨gb188, 4, none⟩ = some (.int .i64 0) := (blk_cell BK188.out 4).trans rfl; have hcz14_5 : w10.cell? ⟨gb188, 5, none⟩ = some (.int .i64 0) := (blk_cell BK188.out 5).trans rfl; have hcz14_6 : w10.cell? ⟨gb188, 6, none⟩ = some (.int .i64 0) := (blk_cell BK188.out 6).trans rfl; have hfz14_0 := blk_frozen BK188.out 0; have hfz14_1 := blk_frozen BK188.out 1; have hfz14_2 := blk_frozen BK188.out 2; have hfz14_3 := blk_frozen BK188.out 3; have hfz14_4 := blk_frozen BK188.out 4; have hfz14_5 := blk_frozen BK188.out 5; have hfz14_6 := blk_frozen BK188.out 6))
        (try simp only [Act.put, List.setIfInBounds_toArray, List.set_cons_zero, List.set_cons_succ])
        go_cut [34] (fun v34 wc => ∃ (kq : Nat) (x34_8 : Bool), v34 = .bool x34_8 ∧ Aside0 (refinerylaw03_Small_Program.j1 kq (wrap64 (1 + (wrap64 (Int.tmod a0_0 6)))) ji2 x21_1 ji2 x21_1 x34_8 a0_0 a0_1 l0_2 x187000_1 t187 2 0 0 0 = some r) ∧ Aside0 (kq ≤ k1) ∧ Aside0 (Kd.R k31 31 wc w.heap.size (fun k_ => k_ ≠ gb188) u187000 x187000_1) ∧ Aside0 (wc.heap[gb184]? = some (.cells #[.int .u8 a0_0, .bool a0_1, (.slice A0_2 l0_2.length c0_2)] 65 (0, 0))) ∧ Aside0 (wc.heap[gb185]? = some (.cells #[(.slice none 0 0)] 57 (0, 0))) ∧ Aside0 (wc.heap[gb186]? = some (.cells #[u187000] 57 (0, 0))) ∧ Aside0 (wc.heap[gb188]? = some (.cells #[.int .i64 t187, (.slice none 0 0), (.slice none 0 0), .int .u8 2, .int .i64 0, .int .i64 0, .int .i64 0] 31 (0, 0))) ∧ Aside0 (Below w.heap.size w wc))
        case first =>
          have H := HC9.out
          clear HC9
          by_cases c15 : x21_1 = 0
          · rw [if_pos c15] at H
            have c15b0 : (x21_1 == 0) = true := beq_iff_eq.mpr c15
            have c15b1 : (x21_1 != 0) = false := bne_eq_false_iff_eq.mpr c15
            clear c15
            (first | rw [c15b0] | (simp only [i64_w, i32_w]; rw [c15b0]) | skip)
            have H' := Aside0.mk H
            clear H
            have hnb16 := NB184_185.out
            have hnc16 := NB185_184.out
            have hnb17 := NB184_186.out
            have hnc17 := NB186_184.out
            have hnb18 := NB184_188.out
            have hnc18 := NB188_184.out
            have hcz19_0 : w10.cell? ⟨gb184, 0, none⟩ = some (.int .u8 a0_0) := (blk_cell BK184.out 0).trans rfl
            have hcz19_1 : w10.cell? ⟨gb184, 1, none⟩ = some (.bool a0_1) := (blk_cell BK184.out 1).trans rfl
            have hcz19_2 : w10.cell? ⟨gb184, 2, none⟩ = some (.slice A0_2 l0_2.length c0_2) := (blk_cell BK184.out 2).trans rfl
            have hfz19_0 := blk_frozen BK184.out 0
            have hfz19_1 := blk_frozen BK184.out 1
            have hfz19_2 := blk_frozen BK184.out 2
            go_wp2
            go_meet
            case rel => exact ⟨_, (!a0_1), (by first | rfl | (simp; done) | (simp [*]; done)), H', ⟨by have := HK1.out; first | omega | exact Nat.le_refl _⟩, ⟨by (with_reducible repeat (first | apply Kd.R_alloc | apply Kd.R_drewN | apply Kd.R_drew)); exact Kd.R_mono (Kd.R_far (p := ⟨gb188, 6, none⟩) (Kd.R_far (p := ⟨gb188, 5, none⟩) (Kd.R_far (p := ⟨gb188, 4, none⟩) (Kd.R_far (p := ⟨gb188, 3, none⟩) (Kd.R_far (p := ⟨gb188, 2, none⟩) (Kd.R_far (p := ⟨gb188, 1, none⟩) (Kd.R_far (p := ⟨gb188, 0, none⟩) (Kd.R_mono HO_187000.out (fun k_ hk => (⟨hk, hk.2⟩ : _ ∧ k_ ≠ gb188))) (fun _ hk => hk.2) (.int .i64 t187)) (fun _ hk => hk.2) (.slice none 0 0)) (fun _ hk => hk.2) (.slice none 0 0)) (fun _ hk => hk.2) (.int .u8 2)) (fun _ hk => hk.2) (.int .i64 0)) (fun _ hk => hk.2) (.int .i64 0)) (fun _ hk => hk.2) (.int .i64 0)) (fun _ hk => hk.1.2)⟩, ⟨by (with_reducible repeat (first | refine blk_drewN ?_ _ | refine blk_drew ?_ | refine blk_alloc ?_ _)); refine blk_far ?_ NB184_188.out _; (with_reducible repeat (first | refine blk_drewN ?_ _ | refine blk_drew ?_ | refine blk_alloc ?_ _)); refine blk_far ?_ NB184_188.out _; (with_reducible repeat (first | refine blk_drewN ?_ _ | refine blk_drew ?_ | refine blk_alloc ?_ _)); refine blk_far ?_ NB184_188.out _; (with_reducible repeat (first | refine blk_drewN ?_ _ | refine blk_drew ?_ | refine blk_alloc ?_ _)); refine blk_far ?_ NB184_188.out _; (with_reducible repeat (first | refine blk_drewN ?_ _ | refine blk_drew ?_ | refine blk_alloc ?_ _)); refine blk_far ?_ NB184_188.out _; (with_reducible repeat (first | refine blk_drewN ?_ _ | refine blk_drew ?_ | refine blk_alloc ?_ _)); refine blk_far ?_ NB184_188.out _; (with_reducible repeat (first | refine blk_drewN ?_ _ | refine blk_drew ?_ | refine blk_alloc ?_ _)); refine blk_far ?_ NB184_188.out _; (with_reducible repeat (first | refine blk_drewN ?_ _ | refine blk_drew ?_ | refine blk_alloc ?_ _)); exact BK184.out⟩, ⟨by (with_reducible repeat (first | refine blk_drewN ?_ _ | refine blk_drew ?_ | refine blk_alloc ?_ _)); refine blk_far ?_ NB185_188.out _; (with_reducible repeat (first | refine blk_drewN ?_ _ | refine blk_drew ?_ | refine blk_alloc ?_ _)); refine blk_far ?_ NB185_188.out _; (with_reducible repeat (first | refine blk_drewN ?_ _ | refine blk_drew ?_ | refine blk_alloc ?_ _)); refine blk_far ?_ NB185_188.out _; (with_reducible repeat (first | refine blk_drewN ?_ _ | refine blk_drew ?_ | refine blk_alloc ?_ _)); refine blk_far ?_ NB185_188.out _; (with_reducible repeat (first | refine blk_drewN ?_ _ | refine blk_drew ?_ | refine blk_alloc ?_ _)); refine blk_far ?_ NB185_188.out _; (with_reducible repeat (first | refine blk_drewN ?_ _ | refine blk_drew ?_ | refine blk_alloc ?_ _)); refine blk_far ?_ NB185_188.out _; (with_reducible repeat (first | refine blk_drewN ?_ _ | refine blk_drew ?_ | refine blk_alloc ?_ _)); refine blk_far ?_ NB185_188.out _; (with_reducible repeat (first | refine blk_drewN ?_ _ | refine blk_drew ?_ | refine blk_alloc ?_ _)); exact BK185.out⟩, ⟨by (with_reducible repeat (first | refine blk_drewN ?_ _ | refine blk_drew ?_ | refine blk_alloc ?_ _)); refine blk_far ?_ NB186_188.out _; (with_reducible repeat (first | refine blk_drewN ?_ _ | refine blk_drew ?_ | refine blk_alloc ?_ _)); refine blk_far ?_ NB186_188.out _; (with_reducible repeat (first | refine blk_drewN ?_ _ | refine blk_drew ?_ | refine blk_alloc ?_ _)); refine blk_far ?_ NB186_188.out _; (with_reducible repeat (first | refine blk_drewN ?_ _ | refine blk_drew ?_ | refine blk_alloc ?_ _)); refine blk_far ?_ NB186_188.out _; (with_reducible repeat (first | refine blk_drewN ?_ _ | refine blk_drew ?_ | refine blk_alloc ?_ _)); refine blk_far ?_ NB186_188.out _; (with_reducible repeat (first | refine blk_drewN ?_ _ | refine blk_drew ?_ | refine blk_alloc ?_ _)); refine blk_far ?_ NB186_188.out _; (with_reducible repeat (first | refine blk_drewN ?_ _ | refine blk_drew ?_ | refine blk_alloc ?_ _)); refine blk_far ?_ NB186_188.out _; (with_reducible repeat (first | refine blk_drewN ?_ _ | refine blk_drew ?_ | refine blk_alloc ?_ _)); exact BK186.out⟩, ⟨by (with_reducible repeat (first | refine blk_drewN ?_ _ | refine blk_drew ?_ | refine blk_alloc ?_ _)); refine blk_put (cs := #[.int .i64 t187, .slice none 0 0, .slice none 0 0, .int .u8 2, .int .i64 0, .int .i64 0, .int .i64 0]) ?_ 6 _ rfl; (with_reducible repeat (first | refine blk_drewN ?_ _ | refine blk_drew ?_ | refine blk_alloc ?_ _)); refine blk_put (cs := #[.int .i64 t187, .slice none 0 0, .slice none 0 0, .int .u8 2, .int .i64 0, .int .i64 0, .int .i64 0]) ?_ 5 _ rfl; (with_reducible repeat (first | refine blk_drewN ?_ _ | refine blk_drew ?_ | refine blk_alloc ?_ _)); refine blk_put (cs := #[.int .i64 t187, .slice none 0 0, .slice none 0 0, .int .u8 2, .int .i64 0, .int .i64 0, .int .i64 0]) ?_ 4 _ rfl; (with_reducible repeat (first | refine blk_drewN ?_ _ | refine blk_drew ?_ | refine blk_alloc ?_ _)); refine blk_put (cs := #[.int .i64 t187, .slice none 0 0, .slice none 0 0, .int .u8 0, .int .i64 0, .int .i64 0, .int .i64 0]) ?_ 3 _ rfl; (with_reducible repeat (first | refine blk_drewN ?_ _ | refine blk_drew ?_ | refine blk_alloc ?_ _)); refine blk_put (cs := #[.int .i64 t187, .slice none 0 0, .slice none 0 0, .int .u8 0, .int .i64 0, .int .i64 0, .int .i64 0]) ?_ 2 _ rfl; (with_reducible repeat (first | refine blk_drewN ?_ _ | refine blk_drew ?_ | refine blk_alloc ?_ _)); refine blk_put (cs := #[.int .i64 t187, .slice none 0 0, .slice none 0 0, .int .u8 0, .int .i64 0, .int .i64 0, .int .i64 0]) ?_ 1 _ rfl; (with_reducible repeat (first | refine blk_drewN ?_ _ | refine blk_drew ?_ | refine blk_alloc ?_ _)); refine blk_put (cs := #[.int .i64 0, .slice none 0 0, .slice none 0 0, .int .u8 0, .int .i64 0, .int .i64 0, .int .i64 0]) ?_ 0 _ rfl; (with_reducible repeat (first | refine blk_drewN ?_ _ | refine blk_drew ?_ | refine blk_alloc ?_ _)); exact BK188.out⟩, ⟨by repeat (first | (with_reducible first | exact HB.out | apply below_alloc | apply pw_below_drewN | apply below_drew1 | refine below_set ?_ GE184.out | refine below_set ?_ GE185.out | refine below_set ?_ GE186.out | refine below_set ?_ GE188.out) | exact HB.out)⟩⟩
          · rw [if_neg c15] at H
            have c15b0 : (x21_1 == 0) = false := beq_eq_false_iff_ne.mpr c15
            have c15b1 : (x21_1 != 0) = true := bne_iff_ne.mpr c15
            (first | rw [c15b0] | (simp only [i64_w, i32_w]; rw [c15b0]) | skip)
            have H' := Aside0.mk H
            clear H
            go_wp2
            go_meet
            case rel => exact ⟨_, (false), (by first | rfl | (simp; done) | (simp [*]; done)), H', ⟨by have := HK1.out; first | omega | exact Nat.le_refl _⟩, ⟨by (with_reducible repeat (first | apply Kd.R_alloc | apply Kd.R_drewN | apply Kd.R_drew)); exact Kd.R_mono (Kd.R_far (p := ⟨gb188, 6, none⟩) (Kd.R_far (p := ⟨gb188, 5, none⟩) (Kd.R_far (p := ⟨gb188, 4, none⟩) (Kd.R_far (p := ⟨gb188, 3, none⟩) (Kd.R_far (p := ⟨gb188, 2, none⟩) (Kd.R_far (p := ⟨gb188, 1, none⟩) (Kd.R_far (p := ⟨gb188, 0, none⟩) (Kd.R_mono HO_187000.out (fun k_ hk => (⟨hk, hk.2⟩ : _ ∧ k_ ≠ gb188))) (fun _ hk => hk.2) (.int .i64 t187)) (fun _ hk => hk.2) (.slice none 0 0)) (fun _ hk => hk.2) (.slice none 0 0)) (fun _ hk => hk.2) (.int .u8 2)) (fun _ hk => hk.2) (.int .i64 0)) (fun _ hk => hk.2) (.int .i64 0)) (fun _ hk => hk.2) (.int .i64 0)) (fun _ hk => hk.1.2)⟩, ⟨by (with_reducible repeat (first | refine blk_drewN ?_ _ | refine blk_drew ?_ | refine blk_alloc ?_ _)); refine blk_far ?_ NB184_188.out _; (with_reducible repeat (first | refine blk_drewN ?_ _ | refine blk_drew ?_ | refine blk_alloc ?_ _)); refine blk_far ?_ NB184_188.out _; (with_reducible repeat (first | refine blk_drewN ?_ _ | refine blk_drew ?_ | refine blk_alloc ?_ _)); refine blk_far ?_ NB184_188.out _; (with_reducible repeat (first | refine blk_drewN ?_ _ | refine blk_drew ?_ | refine blk_alloc ?_ _)); refine blk_far ?_ NB184_188.out _; (with_reducible repeat (first | refine blk_drewN ?_ _ | refine blk_drew ?_ | refine blk_alloc ?_ _)); refine blk_far ?_ NB184_188.out _; (with_reducible repeat (first | refine blk_drewN ?_ _ | refine blk_drew ?_ | refine blk_alloc ?_ _)); refine blk_far ?_ NB184_188.out _; (with_reducible repeat (first | refine blk_drewN ?_ _ | refine blk_drew ?_ | refine blk_alloc ?_ _)); refine blk_far ?_ NB184_188.out _; (with_reducible repeat (first | refine blk_drewN ?_ _ | refine blk_drew ?_ | refine blk_alloc ?_ _)); exact BK184.out⟩, ⟨by (with_reducible repeat (first | refine blk_drewN ?_ _ | refine blk_drew ?_ | refine blk_alloc ?_ _)); refine blk_far ?_ NB185_188.out _; (with_reducible repeat (first | refine blk_drewN ?_ _ | refine blk_drew ?_ | refine blk_alloc ?_ _)); refine blk_far ?_ NB185_188.out _; (with_reducible repeat (first | refine blk_drewN ?_ _ | refine blk_drew ?_ | refine blk_alloc ?_ _)); refine blk_far ?_ NB185_188.out _; (with_reducible repeat (first | refine blk_drewN ?_ _ | refine blk_drew ?_ | refine blk_alloc ?_ _)); refine blk_far ?_ NB185_188.out _; (with_reducible repeat (first | refine blk_drewN ?_ _ | refine blk_drew ?_ | refine blk_alloc ?_ _)); refine blk_far ?_ NB185_188.out _; (with_reducible repeat (first | refine blk_drewN ?_ _ | refine blk_drew ?_ | refine blk_alloc ?_ _)); refine blk_far ?_ NB185_188.out _; (with_reducible repeat (first | refine blk_drewN ?_ _ | refine blk_drew ?_ | refine blk_alloc ?_ _)); refine blk_far ?_ NB185_188.out _; (with_reducible repeat (first | refine blk_drewN ?_ _ | refine blk_drew ?_ | refine blk_alloc ?_ _)); exact BK185.out⟩, ⟨by (with_reducible repeat (first | refine blk_drewN ?_ _ | refine blk_drew ?_ | refine blk_alloc ?_ _)); refine blk_far ?_ NB186_188.out _; (with_reducible repeat (first | refine blk_drewN ?_ _ | refine blk_drew ?_ | refine blk_alloc ?_ _)); refine blk_far ?_ NB186_188.out _; (with_reducible repeat (first | refine blk_drewN ?_ _ | refine blk_drew ?_ | refine blk_alloc ?_ _)); refine blk_far ?_ NB186_188.out _; (with_reducible repeat (first | refine blk_drewN ?_ _ | refine blk_drew ?_ | refine blk_alloc ?_ _)); refine blk_far ?_ NB186_188.out _; (with_reducible repeat (first | refine blk_drewN ?_ _ | refine blk_drew ?_ | refine blk_alloc ?_ _)); refine blk_far ?_ NB186_188.out _; (with_reducible repeat (first | refine blk_drewN ?_ _ | refine blk_drew ?_ | refine blk_alloc ?_ _)); refine blk_far ?_ NB186_188.out _; (with_reducible repeat (first | refine blk_drewN ?_ _ | refine blk_drew ?_ | refine blk_alloc ?_ _)); refine blk_far ?_ NB186_188.out _; (with_reducible repeat (first | refine blk_drewN ?_ _ | refine blk_drew ?_ | refine blk_alloc ?_ _)); exact BK186.out⟩, ⟨by (with_reducible repeat (first | refine blk_drewN ?_ _ | refine blk_drew ?_ | refine blk_alloc ?_ _)); refine blk_put (cs := #[.int .i64 t187, .slice none 0 0, .slice none 0 0, .int .u8 2, .int .i64 0, .int .i64 0, .int .i64 0]) ?_ 6 _ rfl; (with_reducible repeat (first | refine blk_drewN ?_ _ | refine blk_drew ?_ | refine blk_alloc ?_ _)); refine blk_put (cs := #[.int .i64 t187, .slice none 0 0, .slice none 0 0, .int .u8 2, .int .i64 0, .int .i64 0, .int .i64 0]) ?_ 5 _ rfl; (with_reducible repeat (first | refine blk_drewN ?_ _ | refine blk_drew ?_ | refine blk_alloc ?_ _)); refine blk_put (cs := #[.int .i64 t187, .slice none 0 0, .slice none 0 0, .int .u8 2, .int .i64 0, .int .i64 0, .int .i64 0]) ?_ 4 _ rfl; (with_reducible repeat (first | refine blk_drewN ?_ _ | refine blk_drew ?_ | refine blk_alloc ?_ _)); refine blk_put (cs := #[.int .i64 t187, .slice none 0 0, .slice none 0 0, .int .u8 0, .int .i64 0, .int .i64 0, .int .i64 0]) ?_ 3 _ rfl; (with_reducible repeat (first | refine blk_drewN ?_ _ | refine blk_drew ?_ | refine blk_alloc ?_ _)); refine blk_put (cs := #[.int .i64 t187, .slice none 0 0, .slice none 0 0, .int .u8 0, .int .i64 0, .int .i64 0, .int .i64 0]) ?_ 2 _ rfl; (with_reducible repeat (first | refine blk_drewN ?_ _ | refine blk_drew ?_ | refine blk_alloc ?_ _)); refine blk_put (cs := #[.int .i64 t187, .slice none 0 0, .slice none 0 0, .int .u8 0, .int .i64 0, .int .i64 0, .int .i64 0]) ?_ 1 _ rfl; (with_reducible repeat (first | refine blk_drewN ?_ _ | refine blk_drew ?_ | refine blk_alloc ?_ _)); refine blk_put (cs := #[.int .i64 0, .slice none 0 0, .slice none 0 0, .int .u8 0, .int .i64 0, .int .i64 0, .int .i64 0]) ?_ 0 _ rfl; (with_reducible repeat (first | refine blk_drewN ?_ _ | refine blk_drew ?_ | refine blk_alloc ?_ _)); exact BK188.out⟩, ⟨by repeat (first | (with_reducible first | exact HB.out | apply below_alloc | apply pw_below_drewN | apply below_drew1 | refine below_set ?_ GE184.out | refine below_set ?_ GE185.out | refine below_set ?_ GE186.out | refine below_set ?_ GE188.out) | exact HB.out)⟩⟩
        case rest =>
          clear HC9
          try clear c1
          try clear p2
          try clear c3
          try clear p6
          try clear c7
          try clear c7b0
          try clear c11
          try clear c12
          try clear c13
          try clear c15
          try clear c15b0
          try clear c15b1
          try clear c16
          try clear c17
          try clear c18
          try clear hcz14_0
          try clear hcz14_1
          try clear hcz14_2
          try clear hcz14_3
          try clear hcz14_4
          try clear hcz14_5
          try clear hcz14_6
          try clear hcz19_0
          try clear hcz19_1
          try clear hcz19_2
          try clear hfz14_0
          try clear hfz14_1
          try clear hfz14_2
          try clear hfz14_3
          try clear hfz14_4
          try clear hfz14_5
          try clear hfz14_6
          try clear hfz19_0
          try clear hfz19_1
          try clear hfz19_2
          try clear p2
          try clear p6
          obtain ⟨kq, x34_8, rfl, HA, HJ8, HO_187000, BK184, BK185, BK186, BK188, HB⟩ := hcut
          cases kq with
          | zero => exact absurd HA.out (by simp [refinerylaw03_Small_Program.j1])
          | succ kj8 =>
            have H := HA.out
            clear HA
            simp only [refinerylaw03_Small_Program.j1] at H
            have HC20 := Aside0.mk H
            clear H
            go_upto_if 34 with (fail)
            go_cut [] (fun wc => ∃ (kq : Nat) (x189002_19 : List (S38)) (u189002 : Value), Aside0 (refinerylaw03_Small_Program.j3 kq (wrap64 (1 + (wrap64 (Int.tmod a0_0 6)))) ji2 x21_1 ji2 x21_1 a0_0 a0_1 l0_2 x187000_1 t187 x189002_19 2 0 0 0 = some r) ∧ Aside0 (kq ≤ kj8) ∧ Aside0 (Kd.R k31 31 wc w.heap.size (fun k_ => some k_ ≠ (u189002 : Value).ownBlock ∧ k_ ≠ gb188) u187000 x187000_1) ∧ Aside0 (Kd.R k38 38 wc w.heap.size (fun _ => True) u189002 x189002_19) ∧ Aside0 (wc.heap[gb184]? = some (.cells #[.int .u8 a0_0, .bool a0_1, (.slice A0_2 l0_2.length c0_2)] 65 (0, 0))) ∧ Aside0 (wc.heap[gb185]? = some (.cells #[(.slice none 0 0)] 57 (0, 0))) ∧ Aside0 (wc.heap[gb186]? = some (.cells #[u187000] 57 (0, 0))) ∧ Aside0 (wc.heap[gb188]? = some (.cells #[.int .i64 t187, (.slice none 0 0), u189002, .int .u8 2, .int .i64 0, .int .i64 0, .int .i64 0] 31 (0, 0))) ∧ Aside0 (Below w.heap.size w wc))
            case first =>
              have H := HC20.out
              clear HC20
              by_cases c21 : x34_8 = true
              · subst c21
                have H1 : (refinerylaw03_Small_Program.l1 kj8 (wrap64 (1 + (wrap64 (Int.tmod a0_0 6)))) ji2 x21_1 ji2 x21_1 (wrap64 (1 + (wrap64 (Int.tmod a0_0 6)))) 0 a0_0 a0_1 l0_2 x187000_1 t187 ([] : List (S38)) 2 0 0 0) = some r := by rw [if_pos rfl] at H; exact H
                clear H
                have H := H1
                clear H1
                have H' := Aside0.mk H
                clear H
                go_wp2
                go_loopg [36] kj8 (fun kq v36 w' => ∃ (x36_3 : Int) (x189002_3 : List (S38)) (u189002 : Value), v36 = .int .i64 x36_3 ∧ Aside0 (refinerylaw03_Small_Program.l1 kq (wrap64 (1 + (wrap64 (Int.tmod a0_0 6)))) ji2 x21_1 ji2 x21_1 (wrap64 (1 + (wrap64 (Int.tmod a0_0 6)))) x36_3 a0_0 a0_1 l0_2 x187000_1 t187 x189002_3 2 0 0 0 = some r) ∧ Aside0 (kq ≤ kj8) ∧ Aside0 (Kd.R k31 31 w' w.heap.size (fun k_ => some k_ ≠ (u189002 : Value).ownBlock ∧ k_ ≠ gb188) u187000 x187000_1) ∧ Aside0 (Kd.R k38 38 w' w.heap.size (fun _ => True) u189002 x189002_3) ∧ Aside0 (w'.heap[gb184]? = some (.cells #[.int .u8 a0_0, .bool a0_1, (.slice A0_2 l0_2.length c0_2)] 65 (0, 0))) ∧ Aside0 (w'.heap[gb185]? = some (.cells #[(.slice none 0 0)] 57 (0, 0))) ∧ Aside0 (w'.heap[gb186]? = some (.cells #[u187000] 57 (0, 0))) ∧ Aside0 (w'.heap[gb188]? = some (.cells #[.int .i64 t187, (.slice none 0 0), u189002, .int .u8 2, .int .i64 0, .int .i64 0, .int .i64 0] 31 (0, 0))) ∧ Aside0 (Below w.heap.size w w'))
                case atStart => exact ⟨(0), (([] : List (S38))), (.slice none 0 0), (by first | rfl | (simp; done) | (simp [*]; done)), H', ⟨Nat.le_refl _⟩, ⟨by (with_reducible repeat (first | apply Kd.R_alloc | apply Kd.R_drewN | apply Kd.R_drew)); exact Kd.R_mono HO_187000.out (fun _ hk => ⟨(by simp [Value.ownBlock]), hk⟩)⟩, ⟨by first | exact Kd.R_nil _ _ _ _ _ | exact Kd.N_nil _ _ _ _ _ | exact Kd.V_nil _ _ _ _ _ | exact Kd.Q_nil _ _ _ _ _ | exact Kd.S_nil _ _ _ _ _⟩, ⟨by (with_reducible repeat (first | refine blk_drewN ?_ _ | refine blk_drew ?_ | refine blk_alloc ?_ _)); exact BK184.out⟩, ⟨by (with_reducible repeat (first | refine blk_drewN ?_ _ | refine blk_drew ?_ | refine blk_alloc ?_ _)); exact BK185.out⟩, ⟨by (with_reducible repeat (first | refine blk_drewN ?_ _ | refine blk_drew ?_ | refine blk_alloc ?_ _)); exact BK186.out⟩, ⟨by (with_reducible repeat (first | refine blk_drewN ?_ _ | refine blk_drew ?_ | refine blk_alloc ?_ _)); exact BK188.out⟩, ⟨by repeat (first | (with_reducible first | exact HB.out | apply below_alloc | apply pw_below_drewN | apply below_drew1 | refine below_set ?_ GE184.out | refine below_set ?_ GE185.out | refine below_set ?_ GE186.out | refine below_set ?_ GE188.out) | exact HB.out)⟩⟩
                case round =>
                  clear H'
                  try clear c1
                  try clear c2
                  try clear p2
                  try clear c3
                  try clear p6
                  try clear c7
                  try clear c7b0
                  try clear c11
                  try clear c12
                  try clear c13
                  try clear c15
                  try clear c15b0
                  try clear c15b1
                  try clear c16
                  try clear c17
                  try clear c18
                  try clear c21
                  try clear hcz14_0
                  try clear hcz14_1
                  try clear hcz14_2
                  try clear hcz14_3
                  try clear hcz14_4
                  try clear hcz14_5
                  try clear hcz14_6
                  try clear hcz19_0
                  try clear hcz19_1
                  try clear hcz19_2
                  try clear hfz14_0
                  try clear hfz14_1
                  try clear hfz14_2
                  try clear hfz14_3
                  try clear hfz14_4
                  try clear hfz14_5
                  try clear hfz14_6
                  try clear hfz19_0
                  try clear hfz19_1
                  try clear hfz19_2
                  try clear p2
                  try clear p6
                  obtain ⟨x36_3, x189002_3, u189002, rfl, HA, HK3, HO_187000, HO_189002, BK184, BK185, BK186, BK188, HB⟩ := hrel
                  cases gk with
                  | zero => exact absurd HA.out (by simp [refinerylaw03_Small_Program.l1])
                  | succ k3 =>
                    have H := HA.out
                    clear HA
                    simp only [refinerylaw03_Small_Program.l1] at H
                    by_cases c22 : x36_3 < (wrap64 (1 + (wrap64 (Int.tmod a0_0 6))))
                    · rw [if_pos c22] at H
                      have c22b0 : decide (x36_3 < (wrap64 (1 + (wrap64 (Int.tmod a0_0 6))))) = true := decide_eq_true c22
                      clear c22
                      (first | rw [c22b0] | (simp only [i64_w, i32_w]; rw [c22b0]) | skip)
                      by_cases c23 : x189002_3.length < 2932031007402
                      · rw [if_pos c23] at H
                        have LMc23 := Aside0.mk c23
                        clear c23
                        obtain ⟨y189, hy189⟩ : ∃ y_ : List (S38), y_ = (x189002_3 ++ [(⟨0, 0, x36_3, 0, 0, wrap64 (x36_3 * x36_3), 0⟩ : S38)]) := ⟨_, rfl⟩
                        replace H : (refinerylaw03_Small_Program.l1 k3 (wrap64 (1 + (wrap64 (Int.tmod a0_0 6)))) ji2 x21_1 ji2 x21_1 (wrap64 (1 + (wrap64 (Int.tmod a0_0 6)))) (wrap64 (x36_3 + 1)) a0_0 a0_1 l0_2 x187000_1 t187 y189 2 0 0 0) = some r := by first | (rw [hy189]; with_reducible exact H) | (have H2_ := (Option.bind_some _ _).symm.trans H; rw [hy189]; with_reducible exact H2_) | (have H2_ := (Option.bind_some _ _).symm.trans H; with_reducible exact H2_) | with_reducible exact H | (rw [hy189]; exact H) | exact H
                        have Ny189 := Aside0.mk hy189
                        clear hy189
                        have H' := Aside0.mk H
                        clear H
                        have hnb24 := NB188_184.out
                        have hnc24 := NB184_188.out
                        have hnb25 := NB188_185.out
                        have hnc25 := NB185_188.out
                        have hnb26 := NB188_186.out
                        have hnc26 := NB186_188.out
                        have hcz27_0 : wr.cell? ⟨gb188, 0, none⟩ = some (.int .i64 t187) := (blk_cell BK188.out 0).trans rfl
                        have hcz27_1 : wr.cell? ⟨gb188, 1, none⟩ = some (.slice none 0 0) := (blk_cell BK188.out 1).trans rfl
                        have hcz27_2 : wr.cell? ⟨gb188, 2, none⟩ = some (u189002) := (blk_cell BK188.out 2).trans rfl
                        have hcz27_3 : wr.cell? ⟨gb188, 3, none⟩ = some (.int .u8 2) := (blk_cell BK188.out 3).trans rfl
                        have hcz27_4 : wr.cell? ⟨gb188, 4, none⟩ = some (.int .i64 0) := (blk_cell BK188.out 4).trans rfl
                        have hcz27_5 : wr.cell? ⟨gb188, 5, none⟩ = some (.int .i64 0) := (blk_cell BK188.out 5).trans rfl
                        have hcz27_6 : wr.cell? ⟨gb188, 6, none⟩ = some (.int .i64 0) := (blk_cell BK188.out 6).trans rfl
                        have hfz27_0 := blk_frozen BK188.out 0
                        have hfz27_1 := blk_frozen BK188.out 1
                        have hfz27_2 := blk_frozen BK188.out 2
                        have hfz27_3 := blk_frozen BK188.out 3
                        have hfz27_4 := blk_frozen BK188.out 4
                        have hfz27_5 := blk_frozen BK188.out 5
                        have hfz27_6 := blk_frozen BK188.out 6
                        go_wp2_with (first | ((with_reducible refine gate_builtin (b := .append) (xs := #[.tmp 40, .tmp 46]) rfl ?_); at_builtin; refine Kd.R_append k38 (w0 := w) w.heap.size rfl (.tmp 40) (.tmp 46) 26 38 (.agg #[(.int .u8 0), (.int .u8 0), (.int .i64 0), (.int .i64 0), (.int .i64 0), (.int .i64 0), (.int .i64 0)]) 48 rfl Try.underlying26 info38 rfl (by decide) (by omega) u189002 x189002_3 (⟨0, 0, x36_3, 0, 0, wrap64 (x36_3 * x36_3), 0⟩ : S38) [.int .u8 0, .int .u8 0, .int .i64 x36_3, .int .i64 0, .int .i64 0, .int .i64 (wrap64 (x36_3 * x36_3)), .int .i64 0] (fun _ => True) (fun _ => False) rfl rfl ?aP (fun _ hk => hk.elim) ?aF ?aO ?aB ?aS ?aL ?_; (case aP => exact k38_mkM _ _ _ (⟨0, 0, x36_3, 0, 0, wrap64 (x36_3 * x36_3), 0⟩ : S38)); (case aB => exact (by repeat (first | (with_reducible first | exact HB.out | apply below_alloc | apply pw_below_drewN | apply below_drew1 | refine below_set ?_ GE184.out | refine below_set ?_ GE185.out | refine below_set ?_ GE186.out | refine below_set ?_ GE188.out) | exact HB.out))); (case aF => exact (fun _ _ => trivial)); (case aO => exact (by (with_reducible repeat (first | apply Kd.R_alloc | apply Kd.R_drewN | apply Kd.R_drew)); exact HO_189002.out)); (case aS => exact (below_size (by repeat (first | (with_reducible first | exact HB.out | apply below_alloc | apply pw_below_drewN | apply below_drew1 | refine below_set ?_ GE184.out | refine below_set ?_ GE185.out | refine below_set ?_ GE186.out | refine below_set ?_ GE188.out) | exact HB.out)))); (case aL => have := LMc23.out; omega); intro v190 w28 ho hb hg hat; rw [← Ny189.out] at ho; have n0_ := Aside0.mk (Kd.R_after (ok := (fun k_ => k_ ≠ gb188)) (by (with_reducible repeat (first | apply Kd.R_alloc | apply Kd.R_drewN | apply Kd.R_drew)); exact Kd.R_mono HO_187000.out (fun _ hk => ⟨hk.2, hk.1⟩)) hg hat); have n1_ := Aside0.mk (blk_grown (g := gb184) (o := .cells #[.int .u8 a0_0, .bool a0_1, .slice A0_2 l0_2.length c0_2] 65 (0, 0)) (by (with_reducible repeat (first | refine blk_drewN ?_ _ | refine blk_drew ?_ | refine blk_alloc ?_ _)); exact BK184.out) hg (Kd.R_ne HO_189002.out BK184.out (by decide))); have n2_ := Aside0.mk (blk_grown (g := gb185) (o := .cells #[.slice none 0 0] 57 (0, 0)) (by (with_reducible repeat (first | refine blk_drewN ?_ _ | refine blk_drew ?_ | refine blk_alloc ?_ _)); exact BK185.out) hg (Kd.R_ne HO_189002.out BK185.out (by decide))); have n3_ := Aside0.mk (blk_grown (g := gb186) (o := .cells #[u187000] 57 (0, 0)) (by (with_reducible repeat (first | refine blk_drewN ?_ _ | refine blk_drew ?_ | refine blk_alloc ?_ _)); exact BK186.out) hg (Kd.R_ne HO_189002.out BK186.out (by decide))); have n4_ := Aside0.mk (blk_grown (g := gb188) (o := .cells #[.int .i64 t187, .slice none 0 0, u189002, .int .u8 2, .int .i64 0, .int .i64 0, .int .i64 0] 31 (0, 0)) (by (with_reducible repeat (first | refine blk_drewN ?_ _ | refine blk_drew ?_ | refine blk_alloc ?_ _)); exact BK188.out) hg (Kd.R_ne HO_189002.out BK188.out (by decide))); have n5_ := Aside0.mk (hb); have n6_ := Aside0.mk (ho); clear HO_187000; clear BK184; clear BK185; clear BK186; clear BK188; clear HB; clear HO_189002; have HO_187000 := n0_; have BK184 := n1_; have BK185 := n2_; have BK186 := n3_; have BK188 := n4_; have HB := n5_; have HO191 := n6_; clear n0_ n1_ n2_ n3_ n4_ n5_ n6_; clear ho hb hg hat; obtain ⟨Ao29, co29, eo29⟩ := Kd.R_slice HO191.out; subst eo29; have hcz30_0 : w28.cell? ⟨gb188, 0, none⟩ = some (.int .i64 t187) := (blk_cell BK188.out 0).trans rfl; have hcz30_1 : w28.cell? ⟨gb188, 1, none⟩ = some (.slice none 0 0) := (blk_cell BK188.out 1).trans rfl; have hcz30_2 : w28.cell? ⟨gb188, 2, none⟩ = some (u189002) := (blk_cell BK188.out 2).trans rfl; have hcz30_3 : w28.cell? ⟨gb188, 3, none⟩ = some (.int .u8 2) := (blk_cell BK188.out 3).trans rfl; have hcz30_4 : w28.cell? ⟨gb188, 4, none⟩ = some (.int .i64 0) := (blk_cell BK188.out 4).trans rfl; have hcz30_5 : w28.cell? ⟨gb188, 5, none⟩ = some (.int .i64 0) := (blk_cell BK188.out 5).trans rfl; have hcz30_6 : w28.cell? ⟨gb188, 6, none⟩ = some (.int .i64 0) := (blk_cell BK188.out 6).trans rfl; have hfz30_0 := blk_frozen BK188.out 0; have hfz30_1 := blk_frozen BK188.out 1; have hfz30_2 := blk_frozen BK188.out 2; have hfz30_3 := blk_frozen BK188.out 3; have hfz30_4 := blk_frozen BK188.out 4; have hfz30_5 := blk_frozen BK188.out 5; have hfz30_6 := blk_frozen BK188.out 6))
                        go_roundg k3
                        case measure => have := HK1.out; have := HJ8.out; have := HK3.out; omega
                        case rel => exact ⟨(wrap64 (x36_3 + 1)), (y189), (.slice Ao29 y189.length co29), (by first | rfl | (simp; done) | (simp [*]; done)), H', ⟨by have := HK1.out; have := HJ8.out; have := HK3.out; omega⟩, ⟨by (with_reducible repeat (first | apply Kd.R_alloc | apply Kd.R_drewN | apply Kd.R_drew)); exact Kd.R_mono (Kd.R_far (p := ⟨gb188, 2, none⟩) (Kd.R_mono HO_187000.out (fun k_ hk => (⟨hk, hk.1⟩ : _ ∧ k_ ≠ gb188))) (fun _ hk => hk.2) (.slice Ao29 y189.length co29)) (fun _ hk => ⟨hk.1.2, hk.1.1⟩)⟩, ⟨by (with_reducible repeat (first | apply Kd.R_alloc | apply Kd.R_drewN | apply Kd.R_drew)); exact Kd.R_mono (Kd.R_far (p := ⟨gb188, 2, none⟩) (Kd.R_types HO191.out BK188.out (by decide)) (fun _ hk => hk.2) (.slice Ao29 y189.length co29)) (fun _ hk => trivial)⟩, ⟨by (with_reducible repeat (first | refine blk_drewN ?_ _ | refine blk_drew ?_ | refine blk_alloc ?_ _)); refine blk_far ?_ NB184_188.out _; (with_reducible repeat (first | refine blk_drewN ?_ _ | refine blk_drew ?_ | refine blk_alloc ?_ _)); exact BK184.out⟩, ⟨by (with_reducible repeat (first | refine blk_drewN ?_ _ | refine blk_drew ?_ | refine blk_alloc ?_ _)); refine blk_far ?_ NB185_188.out _; (with_reducible repeat (first | refine blk_drewN ?_ _ | refine blk_drew ?_ | refine blk_alloc ?_ _)); exact BK185.out⟩, ⟨by (with_reducible repeat (first | refine blk_drewN ?_ _ | refine blk_drew ?_ | refine blk_alloc ?_ _)); refine blk_far ?_ NB186_188.out _; (with_reducible repeat (first | refine blk_drewN ?_ _ | refine blk_drew ?_ | refine blk_alloc ?_ _)); exact BK186.out⟩, ⟨by (with_reducible repeat (first | refine blk_drewN ?_ _ | refine blk_drew ?_ | refine blk_alloc ?_ _)); refine blk_put (cs := #[.int .i64 t187, .slice none 0 0, u189002, .int .u8 2, .int .i64 0, .int .i64 0, .int .i64 0]) ?_ 2 _ rfl; (with_reducible repeat (first | refine blk_drewN ?_ _ | refine blk_drew ?_ | refine blk_alloc ?_ _)); exact BK188.out⟩, ⟨by repeat (first | (with_reducible first | exact HB.out | apply below_alloc | apply pw_below_drewN | apply below_drew1 | refine below_set ?_ GE184.out | refine below_set ?_ GE185.out | refine below_set ?_ GE186.out | refine below_set ?_ GE188.out) | exact HB.out)⟩⟩
                      · rw [if_neg c23] at H
                        exact absurd H (by simp)
                    · rw [if_neg c22] at H
                      have c22b0 : decide (x36_3 < (wrap64 (1 + (wrap64 (Int.tmod a0_0 6))))) = false := decide_eq_false c22
                      clear c22
                      (first | rw [c22b0] | (simp only [i64_w, i32_w]; rw [c22b0]) | skip)
                      have H' := Aside0.mk H
                      clear H
                      go_wp2
                      go_meet
                      case rel => exact ⟨_, (x189002_3), (u189002), H', ⟨by have := HK1.out; have := HJ8.out; have := HK3.out; first | omega | exact Nat.le_refl _⟩, ⟨by (with_reducible repeat (first | apply Kd.R_alloc | apply Kd.R_drewN | apply Kd.R_drew)); exact HO_187000.out⟩, ⟨by (with_reducible repeat (first | apply Kd.R_alloc | apply Kd.R_drewN | apply Kd.R_drew)); exact HO_189002.out⟩, ⟨by (with_reducible repeat (first | refine blk_drewN ?_ _ | refine blk_drew ?_ | refine blk_alloc ?_ _)); exact BK184.out⟩, ⟨by (with_reducible repeat (first | refine blk_drewN ?_ _ | refine blk_drew ?_ | refine blk_alloc ?_ _)); exact BK185.out⟩, ⟨by (with_reducible repeat (first | refine blk_drewN ?_ _ | refine blk_drew ?_ | refine blk_alloc ?_ _)); exact BK186.out⟩, ⟨by (with_reducible repeat (first | refine blk_drewN ?_ _ | refine blk_drew ?_ | refine blk_alloc ?_ _)); exact BK188.out⟩, ⟨by repeat (first | (with_reducible first | exact HB.out | apply below_alloc | apply pw_below_drewN | apply below_drew1 | refine below_set ?_ GE184.out | refine below_set ?_ GE185.out | refine below_set ?_ GE186.out | refine below_set ?_ GE188.out) | exact HB.out)⟩⟩
              · replace c21 := Bool.eq_false_iff.mpr c21
                subst c21
                have H1 : (refinerylaw03_Small_Program.j3 kj8 (wrap64 (1 + (wrap64 (Int.tmod a0_0 6)))) ji2 x21_1 ji2 x21_1 a0_0 a0_1 l0_2 x187000_1 t187 ([] : List (S38)) 2 0 0 0) = some r := by rw [if_neg (show ¬ (false = true) by decide)] at H; exact H
                clear H
                have H := H1
                clear H1
                have H' := Aside0.mk H
                clear H
                go_wp2
                go_meet
                case rel => exact ⟨_, (([] : List (S38))), (.slice none 0 0), H', ⟨by have := HK1.out; have := HJ8.out; first | omega | exact Nat.le_refl _⟩, ⟨by (with_reducible repeat (first | apply Kd.R_alloc | apply Kd.R_drewN | apply Kd.R_drew)); exact Kd.R_mono HO_187000.out (fun _ hk => ⟨(by simp [Value.ownBlock]), hk⟩)⟩, ⟨by first | exact Kd.R_nil _ _ _ _ _ | exact Kd.N_nil _ _ _ _ _ | exact Kd.V_nil _ _ _ _ _ | exact Kd.Q_nil _ _ _ _ _ | exact Kd.S_nil _ _ _ _ _⟩, ⟨by (with_reducible repeat (first | refine blk_drewN ?_ _ | refine blk_drew ?_ | refine blk_alloc ?_ _)); exact BK184.out⟩, ⟨by (with_reducible repeat (first | refine blk_drewN ?_ _ | refine blk_drew ?_ | refine blk_alloc ?_ _)); exact BK185.out⟩, ⟨by (with_reducible repeat (first | refine blk_drewN ?_ _ | refine blk_drew ?_ | refine blk_alloc ?_ _)); exact BK186.out⟩, ⟨by (with_reducible repeat (first | refine blk_drewN ?_ _ | refine blk_drew ?_ | refine blk_alloc ?_ _)); exact BK188.out⟩, ⟨by repeat (first | (with_reducible first | exact HB.out | apply below_alloc | apply pw_below_drewN | apply below_drew1 | refine below_set ?_ GE184.out | refine below_set ?_ GE185.out | refine below_set ?_ GE186.out | refine below_set ?_ GE188.out) | exact HB.out)⟩⟩
            case rest =>
              clear HC20
              try clear c1
              try clear c2
              try clear p2
              try clear c3
              try clear p6
              try clear c7
              try clear c7b0
              try clear c11
              try clear c12
              try clear c13
              try clear c15
              try clear c15b0
              try clear c15b1
              try clear c16
              try clear c17
              try clear c18
              try clear c21
              try clear c22
              try clear c22b0
              try clear c23
              try clear c24
              try clear c25
              try clear c26
              try clear hcz14_0
              try clear hcz14_1
              try clear hcz14_2
              try clear hcz14_3
              try clear hcz14_4
              try clear hcz14_5
              try clear hcz14_6
              try clear hcz19_0
              try clear hcz19_1
              try clear hcz19_2
              try clear hcz27_0
              try clear hcz27_1
              try clear hcz27_2
              try clear hcz27_3
              try clear hcz27_4
              try clear hcz27_5
              try clear hcz27_6
              try clear hcz30_0
              try clear hcz30_1
              try clear hcz30_2
              try clear hcz30_3
              try clear hcz30_4
              try clear hcz30_5
              try clear hcz30_6
              try clear hfz14_0
              try clear hfz14_1
              try clear hfz14_2
              try clear hfz14_3
              try clear hfz14_4
              try clear hfz14_5
              try clear hfz14_6
              try clear hfz19_0
              try clear hfz19_1
              try clear hfz19_2
              try clear hfz27_0
              try clear hfz27_1
              try clear hfz27_2
              try clear hfz27_3
              try clear hfz27_4
              try clear hfz27_5
              try clear hfz27_6
              try clear hfz30_0
              try clear hfz30_1
              try clear hfz30_2
              try clear hfz30_3
              try clear hfz30_4
              try clear hfz30_5
              try clear hfz30_6
              try clear p2
              try clear p6
              obtain ⟨kq, x189002_19, u189002, HA, HJ19, HO_187000, HO_189002, BK184, BK185, BK186, BK188, HB⟩ := hcut
              cases kq with
              | zero => exact absurd HA.out (by simp [refinerylaw03_Small_Program.j3])
              | succ kj19 =>
                have H := HA.out
                clear HA
                simp only [refinerylaw03_Small_Program.j3] at H
                by_cases c31 : x21_1 < (l0_2.length : Int)
                · rw [if_pos c31] at H
                  have c31b0 : decide (x21_1 < (l0_2.length : Int)) = true := decide_eq_true c31
                  clear c31
                  by_cases c32 : 0 ≤ x21_1
                  · rw [if_pos c32] at H
                    have c32b0 : decide (0 ≤ x21_1) = true := decide_eq_true c32
                    clear c32
                    have H' := Aside0.mk H
                    clear H
                    have hnb33 := NB184_185.out
                    have hnc33 := NB185_184.out
                    have hnb34 := NB184_186.out
                    have hnc34 := NB186_184.out
                    have hnb35 := NB184_188.out
                    have hnc35 := NB188_184.out
                    have hcz36_0 : wc.cell? ⟨gb184, 0, none⟩ = some (.int .u8 a0_0) := (blk_cell BK184.out 0).trans rfl
                    have hcz36_1 : wc.cell? ⟨gb184, 1, none⟩ = some (.bool a0_1) := (blk_cell BK184.out 1).trans rfl
                    have hcz36_2 : wc.cell? ⟨gb184, 2, none⟩ = some (.slice A0_2 l0_2.length c0_2) := (blk_cell BK184.out 2).trans rfl
                    have hfz36_0 := blk_frozen BK184.out 0
                    have hfz36_1 := blk_frozen BK184.out 1
                    have hfz36_2 := blk_frozen BK184.out 2
                    have p192 : 0 ≤ (x21_1 : Int) := of_decide_eq_true (by first | (with_reducible assumption) | assumption)
                    have q192 : x21_1 < (l0_2.length : Int) := of_decide_eq_true (by first | (with_reducible assumption) | assumption)
                    obtain ⟨ad192, A192_0, c192_0, e192, hx192_0, hx192_1, hx192_2, hx192_3, hx192_4, hl192_0, hi192_0⟩ := at_T138 HR0_2.out x21_1 p192 q192
                    cases e192
                    replace hx192_0 := (HB.out.cell (World.block_lt_of_cell? w _ hx192_0)).trans hx192_0
                    replace hx192_1 := (HB.out.cell (World.block_lt_of_cell? w _ hx192_1)).trans hx192_1
                    replace hx192_2 := (HB.out.cell (World.block_lt_of_cell? w _ hx192_2)).trans hx192_2
                    replace hx192_3 := (HB.out.cell (World.block_lt_of_cell? w _ hx192_3)).trans hx192_3
                    replace hx192_4 := (HB.out.cell (World.block_lt_of_cell? w _ hx192_4)).trans hx192_4
                    have HR192_0 := Aside0.mk hi192_0
                    have HC192_0 := Aside0.mk hl192_0
                    clear hi192_0 hl192_0
                    replace p192 := eq_true p192
                    replace q192 := eq_true q192
                    go_wp2
                    go_loopg [62] kj19 (fun kq v62 w' => ∃ (x62_4 : Int) (x189002_4 : List (S38)) (u189002 : Value), v62 = .int .i64 x62_4 ∧ Aside0 (refinerylaw03_Small_Program.l2 kq (wrap64 (1 + (wrap64 (Int.tmod a0_0 6)))) ji2 x21_1 ji2 x21_1 ((rd_T138 l0_2 x21_1).f0) (((rd_T138 l0_2 x21_1).f0).length : Int) x62_4 a0_0 a0_1 l0_2 x187000_1 t187 x189002_4 2 0 0 0 = some r) ∧ Aside0 (kq ≤ kj19) ∧ Aside0 (Kd.R k31 31 w' w.heap.size (fun k_ => some k_ ≠ (u189002 : Value).ownBlock ∧ k_ ≠ gb188) u187000 x187000_1) ∧ Aside0 (Kd.R k38 38 w' w.heap.size (fun _ => True) u189002 x189002_4) ∧ Aside0 (w'.heap[gb184]? = some (.cells #[.int .u8 a0_0, .bool a0_1, (.slice (some ad192) l0_2.length c0_2)] 65 (0, 0))) ∧ Aside0 (w'.heap[gb185]? = some (.cells #[(.slice none 0 0)] 57 (0, 0))) ∧ Aside0 (w'.heap[gb186]? = some (.cells #[u187000] 57 (0, 0))) ∧ Aside0 (w'.heap[gb188]? = some (.cells #[.int .i64 t187, (.slice none 0 0), u189002, .int .u8 2, .int .i64 0, .int .i64 0, .int .i64 0] 31 (0, 0))) ∧ Aside0 (Below w.heap.size w w'))
                    case atStart => exact ⟨(0), (x189002_19), (u189002), (by first | rfl | (simp; done) | (simp [*]; done)), H', ⟨Nat.le_refl _⟩, ⟨by (with_reducible repeat (first | apply Kd.R_alloc | apply Kd.R_drewN | apply Kd.R_drew)); exact HO_187000.out⟩, ⟨by (with_reducible repeat (first | apply Kd.R_alloc | apply Kd.R_drewN | apply Kd.R_drew)); exact HO_189002.out⟩, ⟨by (with_reducible repeat (first | refine blk_drewN ?_ _ | refine blk_drew ?_ | refine blk_alloc ?_ _)); exact BK184.out⟩, ⟨by (with_reducible repeat (first | refine blk_drewN ?_ _ | refine blk_drew ?_ | refine blk_alloc ?_ _)); exact BK185.out⟩, ⟨by (with_reducible repeat (first | refine blk_drewN ?_ _ | refine blk_drew ?_ | refine blk_alloc ?_ _)); exact BK186.out⟩, ⟨by (with_reducible repeat (first | refine blk_drewN ?_ _ | refine blk_drew ?_ | refine blk_alloc ?_ _)); exact BK188.out⟩, ⟨by repeat (first | (with_reducible first | exact HB.out | apply below_alloc | apply pw_below_drewN | apply below_drew1 | refine below_set ?_ GE184.out | refine below_set ?_ GE185.out | refine below_set ?_ GE186.out | refine below_set ?_ GE188.out) | exact HB.out)⟩⟩
                    case round =>
                      clear H'
                      try clear c1
                      try clear p1
                      try clear q1
                      try clear hx1
                      try clear c2
                      try clear p2
                      try clear c3
                      try clear p6
                      try clear c7
                      try clear c7b0
                      try clear c11
                      try clear c12
                      try clear c13
                      try clear c15
                      try clear c15b0
                      try clear c15b1
                      try clear c16
                      try clear c17
                      try clear c18
                      try clear c19
                      try clear p19
                      try clear q19
                      try clear hx19
                      try clear c21
                      try clear c22
                      try clear c22b0
                      try clear c23
                      try clear c24
                      try clear c25
                      try clear c26
                      try clear c31
                      try clear c31b0
                      try clear c32
                      try clear c32b0
                      try clear c33
                      try clear c34
                      try clear c35
                      try clear hcz14_0
                      try clear hcz14_1
                      try clear hcz14_2
                      try clear hcz14_3
                      try clear hcz14_4
                      try clear hcz14_5
                      try clear hcz14_6
                      try clear hcz19_0
                      try clear hcz19_1
                      try clear hcz19_2
                      try clear hcz27_0
                      try clear hcz27_1
                      try clear hcz27_2
                      try clear hcz27_3
                      try clear hcz27_4
                      try clear hcz27_5
                      try clear hcz27_6
                      try clear hcz30_0
                      try clear hcz30_1
                      try clear hcz30_2
                      try clear hcz30_3
                      try clear hcz30_4
                      try clear hcz30_5
                      try clear hcz30_6
                      try clear hcz36_0
                      try clear hcz36_1
                      try clear hcz36_2
                      try clear hfz14_0
                      try clear hfz14_1
                      try clear hfz14_2
                      try clear hfz14_3
                      try clear hfz14_4
                      try clear hfz14_5
                      try clear hfz14_6
                      try clear hfz19_0
                      try clear hfz19_1
                      try clear hfz19_2
                      try clear hfz27_0
                      try clear hfz27_1
                      try clear hfz27_2
                      try clear hfz27_3
                      try clear hfz27_4
                      try clear hfz27_5
                      try clear hfz27_6
                      try clear hfz30_0
                      try clear hfz30_1
                      try clear hfz30_2
                      try clear hfz30_3
                      try clear hfz30_4
                      try clear hfz30_5
                      try clear hfz30_6
                      try clear hfz36_0
                      try clear hfz36_1
                      try clear hfz36_2
                      try clear hx192_0
                      try clear hx192_1
                      try clear hx192_2
                      try clear hx192_3
                      try clear hx192_4
                      try clear p192
                      try clear p2
                      try clear p6
                      try clear q192
                      obtain ⟨x62_4, x189002_4, u189002, rfl, HA, HK4, HO_187000, HO_189002, BK184, BK185, BK186, BK188, HB⟩ := hrel
                      cases gk with
                      | zero => exact absurd HA.out (by simp [refinerylaw03_Small_Program.l2])
                      | succ k4 =>
                        have H := HA.out
                        clear HA
                        simp only [refinerylaw03_Small_Program.l2] at H
                        by_cases c37 : x62_4 < (((rd_T138 l0_2 x21_1).f0).length : Int)
                        · rw [if_pos c37] at H
                          have c37b0 : decide (x62_4 < (((rd_T138 l0_2 x21_1).f0).length : Int)) = true := decide_eq_true c37
                          clear c37
                          by_cases c38 : 0 ≤ x62_4
                          · rw [if_pos c38] at H
                            have c38b0 : decide (0 ≤ x62_4) = true := decide_eq_true c38
                            clear c38
                            by_cases c39 : x62_4 < (((rd_T138 l0_2 x21_1).f0).length : Int)
                            · rw [if_pos c39] at H
                              have c39b0 : decide (x62_4 < (((rd_T138 l0_2 x21_1).f0).length : Int)) = true := decide_eq_true c39
                              clear c39
                              replace H := Option.bind_eq_some_iff.mp H
                              obtain ⟨⟨t195, t196, t197, t198, t199, t200, t201⟩, A400, H⟩ := H
                              replace H : (if x189002_4.length < 2932031007402 then (refinerylaw03_Small_Program.l2 k4 (wrap64 (1 + (wrap64 (Int.tmod a0_0 6)))) ji2 x21_1 ji2 x21_1 ((rd_T138 l0_2 x21_1).f0) (((rd_T138 l0_2 x21_1).f0).length : Int) (wrap64 (x62_4 + 1)) a0_0 a0_1 l0_2 x187000_1 t187 (x189002_4 ++ [(⟨t195, t196, t197, t198, t199, t200, t201⟩ : S38)]) 2 0 0 0) else (none)) = some r := H
                              have A40 := Aside0.mk A400
                              clear A400
                              by_cases c41 : x189002_4.length < 2932031007402
                              · rw [if_pos c41] at H
                                have LMc41 := Aside0.mk c41
                                clear c41
                                obtain ⟨y202, hy202⟩ : ∃ y_ : List (S38), y_ = (x189002_4 ++ [(⟨t195, t196, t197, t198, t199, t200, t201⟩ : S38)]) := ⟨_, rfl⟩
                                replace H : (refinerylaw03_Small_Program.l2 k4 (wrap64 (1 + (wrap64 (Int.tmod a0_0 6)))) ji2 x21_1 ji2 x21_1 ((rd_T138 l0_2 x21_1).f0) (((rd_T138 l0_2 x21_1).f0).length : Int) (wrap64 (x62_4 + 1)) a0_0 a0_1 l0_2 x187000_1 t187 y202 2 0 0 0) = some r := by first | (rw [hy202]; with_reducible exact H) | (have H2_ := (Option.bind_some _ _).symm.trans H; rw [hy202]; with_reducible exact H2_) | (have H2_ := (Option.bind_some _ _).symm.trans H; with_reducible exact H2_) | with_reducible exact H | (rw [hy202]; exact H) | exact H
                                have Ny202 := Aside0.mk hy202
                                clear hy202
                                have H' := Aside0.mk H
                                clear H
                                have p193 : 0 ≤ (x62_4 : Int) := of_decide_eq_true (by first | (with_reducible assumption) | assumption)
                                have q193 : x62_4 < (((rd_T138 l0_2 x21_1).f0).length : Int) := of_decide_eq_true (by first | (with_reducible assumption) | assumption)
                                obtain ⟨ad193, e193, hx193_0, hx193_1, hx193_2, hx193_3, hx193_4, hx193_5, hx193_6⟩ := at_T34 HR192_0.out x62_4 p193 q193
                                cases e193
                                replace hx193_0 := (HB.out.cell (World.block_lt_of_cell? w _ hx193_0)).trans hx193_0
                                replace hx193_1 := (HB.out.cell (World.block_lt_of_cell? w _ hx193_1)).trans hx193_1
                                replace hx193_2 := (HB.out.cell (World.block_lt_of_cell? w _ hx193_2)).trans hx193_2
                                replace hx193_3 := (HB.out.cell (World.block_lt_of_cell? w _ hx193_3)).trans hx193_3
                                replace hx193_4 := (HB.out.cell (World.block_lt_of_cell? w _ hx193_4)).trans hx193_4
                                replace hx193_5 := (HB.out.cell (World.block_lt_of_cell? w _ hx193_5)).trans hx193_5
                                replace hx193_6 := (HB.out.cell (World.block_lt_of_cell? w _ hx193_6)).trans hx193_6
                                replace p193 := eq_true p193
                                replace q193 := eq_true q193
                                try go_wp2_with (first | ((with_reducible refine gate_dst (N := 10) rfl ?_); refine box_event ?hg (N := 10) ?hd (cs := #[.int .u8 0, .int .u8 0, .int .u8 0, .int .u8 0, .int .u8 0, .int .u8 0, .int .i16 0]) (t := 34) ?hr ?_; (case hd => rfl); (case hg => rfl); (case hr => first | (go_simp; done) | (go_simp; rfl)); intro gb194 hg w42 hbox hb; have n0_ := Aside0.mk (Kd.R_below (by (with_reducible repeat (first | apply Kd.R_alloc | apply Kd.R_drewN | apply Kd.R_drew)); exact HO_187000.out) hb); have n1_ := Aside0.mk (Kd.R_below (by (with_reducible repeat (first | apply Kd.R_alloc | apply Kd.R_drewN | apply Kd.R_drew)); exact HO_189002.out) hb); have n2_ := Aside0.mk (blk_below (g := gb184) (o := .cells #[.int .u8 a0_0, .bool a0_1, .slice (some ad192) l0_2.length c0_2] 65 (0, 0)) (by (with_reducible repeat (first | refine blk_drewN ?_ _ | refine blk_drew ?_ | refine blk_alloc ?_ _)); exact BK184.out) hb); have n3_ := Aside0.mk (blk_below (g := gb185) (o := .cells #[.slice none 0 0] 57 (0, 0)) (by (with_reducible repeat (first | refine blk_drewN ?_ _ | refine blk_drew ?_ | refine blk_alloc ?_ _)); exact BK185.out) hb); have n4_ := Aside0.mk (blk_below (g := gb186) (o := .cells #[u187000] 57 (0, 0)) (by (with_reducible repeat (first | refine blk_drewN ?_ _ | refine blk_drew ?_ | refine blk_alloc ?_ _)); exact BK186.out) hb); have n5_ := Aside0.mk (blk_below (g := gb188) (o := .cells #[.int .i64 t187, .slice none 0 0, u189002, .int .u8 2, .int .i64 0, .int .i64 0, .int .i64 0] 31 (0, 0)) (by (with_reducible repeat (first | refine blk_drewN ?_ _ | refine blk_drew ?_ | refine blk_alloc ?_ _)); exact BK188.out) hb); have n6_ := Aside0.mk (below_step (by repeat (first | (with_reducible first | exact HB.out | apply below_alloc | apply pw_below_drewN | apply below_drew1 | refine below_set ?_ GE184.out | refine below_set ?_ GE185.out | refine below_set ?_ GE186.out | refine below_set ?_ GE188.out) | exact HB.out)) hb); have n7_ := Aside0.mk (hbox); have n8_ := Aside0.mk ((by rw [hg]; exact (below_size (by repeat (first | (with_reducible first | exact HB.out | apply below_alloc | apply pw_below_drewN | apply below_drew1 | refine below_set ?_ GE184.out | refine below_set ?_ GE185.out | refine below_set ?_ GE186.out | refine below_set ?_ GE188.out) | exact HB.out))) : w.heap.size ≤ gb194)); have n9_ := Aside0.mk ((by rw [hg]; exact (below_size (by repeat (first | (with_reducible first | exact HB.out | apply below_alloc | apply pw_below_drewN | apply below_drew1 | refine below_set ?_ GE184.out | refine below_set ?_ GE185.out | refine below_set ?_ GE186.out | refine below_set ?_ GE188.out) | exact HB.out))) : w.heap.size ≤ gb194)); have n10_ := Aside0.mk ((by rw [hg]; exact Nat.ne_of_lt (blk_lt (g := gb184) (o := .cells #[.int .u8 a0_0, .bool a0_1, .slice (some ad192) l0_2.length c0_2] 65 (0, 0)) (by (with_reducible repeat (first | refine blk_drewN ?_ _ | refine blk_drew ?_ | refine blk_alloc ?_ _)); exact BK184.out)) : gb184 ≠ gb194)); have n11_ := Aside0.mk ((by rw [hg]; exact Nat.ne_of_gt (blk_lt (g := gb184) (o := .cells #[.int .u8 a0_0, .bool a0_1, .slice (some ad192) l0_2.length c0_2] 65 (0, 0)) (by (with_reducible repeat (first | refine blk_drewN ?_ _ | refine blk_drew ?_ | refine blk_alloc ?_ _)); exact BK184.out)) : gb194 ≠ gb184)); have n12_ := Aside0.mk ((by rw [hg]; exact Nat.ne_of_lt (blk_lt (g := gb185) (o := .cells #[.slice none 0 0] 57 (0, 0)) (by (with_reducible repeat (first | refine blk_drewN ?_ _ | refine blk_drew ?_ | refine blk_alloc ?_ _)); exact BK185.out)) : gb185 ≠ gb194)); have n13_ := Aside0.mk ((by rw [hg]; exact Nat.ne_of_gt (blk_lt (g := gb185) (o := .cells #[.slice none 0 0] 57 (0, 0)) (by (with_reducible repeat (first | refine blk_drewN ?_ _ | refine blk_drew ?_ | refine blk_alloc ?_ _)); exact BK185.out)) : gb194 ≠ gb185)); have n14_ := Aside0.mk ((by rw [hg]; exact Nat.ne_of_lt (blk_lt (g := gb186) (o := .cells #[u187000] 57 (0, 0)) (by (with_reducible repeat (first | refine blk_drewN ?_ _ | refine blk_drew ?_ | refine blk_alloc ?_ _)); exact BK186.out)) : gb186 ≠ gb194)); have n15_ := Aside0.mk ((by rw [hg]; exact Nat.ne_of_gt (blk_lt (g := gb186) (o := .cells #[u187000] 57 (0, 0)) (by (with_reducible repeat (first | refine blk_drewN ?_ _ | refine blk_drew ?_ | refine blk_alloc ?_ _)); exact BK186.out)) : gb194 ≠ gb186)); have n16_ := Aside0.mk ((by rw [hg]; exact Nat.ne_of_lt (blk_lt (g := gb188) (o := .cells #[.int .i64 t187, .slice none 0 0, u189002, .int .u8 2, .int .i64 0, .int .i64 0, .int .i64 0] 31 (0, 0)) (by (with_reducible repeat (first | refine blk_drewN ?_ _ | refine blk_drew ?_ | refine blk_alloc ?_ _)); exact BK188.out)) : gb188 ≠ gb194)); have n17_ := Aside0.mk ((by rw [hg]; exact Nat.ne_of_gt (blk_lt (g := gb188) (o := .cells #[.int .i64 t187, .slice none 0 0, u189002, .int .u8 2, .int .i64 0, .int .i64 0, .int .i64 0] 31 (0, 0)) (by (with_reducible repeat (first | refine blk_drewN ?_ _ | refine blk_drew ?_ | refine blk_alloc ?_ _)); exact BK188.out)) : gb194 ≠ gb188)); clear HO_187000; clear HO_189002; clear BK184; clear BK185; clear BK186; clear BK188; clear HB; have HO_187000 := n0_; have HO_189002 := n1_; have BK184 := n2_; have BK185 := n3_; have BK186 := n4_; have BK188 := n5_; have HB := n6_; have BK194 := n7_; have GW194 := n8_; have GE194 := n9_; have NB184_194 := n10_; have NB194_184 := n11_; have NB185_194 := n12_; have NB194_185 := n13_; have NB186_194 := n14_; have NB194_186 := n15_; have NB188_194 := n16_; have NB194_188 := n17_; clear n0_ n1_ n2_ n3_ n4_ n5_ n6_ n7_ n8_ n9_ n10_ n11_ n12_ n13_ n14_ n15_ n16_ n17_; clear hb hbox hg; have hnb43 := NB194_184.out; have hnc43 := NB184_194.out; have hnb44 := NB194_185.out; have hnc44 := NB185_194.out; have hnb45 := NB194_186.out; have hnc45 := NB186_194.out; have hnb46 := NB194_188.out; have hnc46 := NB188_194.out; have hcz47_0 : w42.cell? ⟨gb194, 0, none⟩ = some (.int .u8 0) := (blk_cell BK194.out 0).trans rfl; have hcz47_1 : w42.cell? ⟨gb194, 1, none⟩ = some (.int .u8 0) := (blk_cell BK194.out 1).trans rfl; have hcz47_2 : w42.cell? ⟨gb194, 2, none⟩ = some (.int .u8 0) := (blk_cell BK194.out 2).trans rfl; have hcz47_3 : w42.cell? ⟨gb194, 3, none⟩ = some (.int .u8 0) := (blk_cell BK194.out 3).trans rfl; have hcz47_4 : w42.cell? ⟨gb194, 4, none⟩ = some (.int .u8 0) := (blk_cell BK194.out 4).trans rfl; have hcz47_5 : w42.cell? ⟨gb194, 5, none⟩ = some (.int .u8 0) := (blk_cell BK194.out 5).trans rfl; have hcz47_6 : w42.cell? ⟨gb194, 6, none⟩ = some (.int .i16 0) := (blk_cell BK194.out 6).trans rfl; have hfz47_0 := blk_frozen BK194.out 0; have hfz47_1 := blk_frozen BK194.out 1; have hfz47_2 := blk_frozen BK194.out 2; have hfz47_3 := blk_frozen BK194.out 3; have hfz47_4 := blk_frozen BK194.out 4; have hfz47_5 := blk_frozen BK194.out 5; have hfz47_6 := blk_frozen BK194.out 6))
                                have n0_ : Aside0 (Kd.R k31 31 (((((((w42.setCell ⟨gb194, 0, none⟩ (.int .u8 ((rd_T34 ((rd_T138 l0_2 x21_1).f0) x62_4).f0))).setCell ⟨gb194, 1, none⟩ (.int .u8 ((rd_T34 ((rd_T138 l0_2 x21_1).f0) x62_4).f1))).setCell ⟨gb194, 2, none⟩ (.int .u8 ((rd_T34 ((rd_T138 l0_2 x21_1).f0) x62_4).f2))).setCell ⟨gb194, 3, none⟩ (.int .u8 ((rd_T34 ((rd_T138 l0_2 x21_1).f0) x62_4).f3))).setCell ⟨gb194, 4, none⟩ (.int .u8 ((rd_T34 ((rd_T138 l0_2 x21_1).f0) x62_4).f4))).setCell ⟨gb194, 5, none⟩ (.int .u8 ((rd_T34 ((rd_T138 l0_2 x21_1).f0) x62_4).f5))).setCell ⟨gb194, 6, none⟩ (.int .i16 ((rd_T34 ((rd_T138 l0_2 x21_1).f0) x62_4).f6))) w.heap.size (fun k_ => some k_ ≠ (u189002 : Value).ownBlock ∧ k_ ≠ gb188) u187000 x187000_1) := ⟨by (with_reducible repeat (first | apply Kd.R_alloc | apply Kd.R_drewN | apply Kd.R_drew)); exact Kd.R_mono (Kd.R_far (p := ⟨gb194, 6, none⟩) (Kd.R_far (p := ⟨gb194, 5, none⟩) (Kd.R_far (p := ⟨gb194, 4, none⟩) (Kd.R_far (p := ⟨gb194, 3, none⟩) (Kd.R_far (p := ⟨gb194, 2, none⟩) (Kd.R_far (p := ⟨gb194, 1, none⟩) (Kd.R_far (p := ⟨gb194, 0, none⟩) (Kd.R_types HO_187000.out BK194.out (by decide)) (fun _ hk => hk.2) (.int .u8 ((rd_T34 ((rd_T138 l0_2 x21_1).f0) x62_4).f0))) (fun _ hk => hk.2) (.int .u8 ((rd_T34 ((rd_T138 l0_2 x21_1).f0) x62_4).f1))) (fun _ hk => hk.2) (.int .u8 ((rd_T34 ((rd_T138 l0_2 x21_1).f0) x62_4).f2))) (fun _ hk => hk.2) (.int .u8 ((rd_T34 ((rd_T138 l0_2 x21_1).f0) x62_4).f3))) (fun _ hk => hk.2) (.int .u8 ((rd_T34 ((rd_T138 l0_2 x21_1).f0) x62_4).f4))) (fun _ hk => hk.2) (.int .u8 ((rd_T34 ((rd_T138 l0_2 x21_1).f0) x62_4).f5))) (fun _ hk => hk.2) (.int .i16 ((rd_T34 ((rd_T138 l0_2 x21_1).f0) x62_4).f6))) (fun _ hk => ⟨hk.1.1, hk.1.2⟩)⟩
                                have n1_ : Aside0 (Kd.R k38 38 (((((((w42.setCell ⟨gb194, 0, none⟩ (.int .u8 ((rd_T34 ((rd_T138 l0_2 x21_1).f0) x62_4).f0))).setCell ⟨gb194, 1, none⟩ (.int .u8 ((rd_T34 ((rd_T138 l0_2 x21_1).f0) x62_4).f1))).setCell ⟨gb194, 2, none⟩ (.int .u8 ((rd_T34 ((rd_T138 l0_2 x21_1).f0) x62_4).f2))).setCell ⟨gb194, 3, none⟩ (.int .u8 ((rd_T34 ((rd_T138 l0_2 x21_1).f0) x62_4).f3))).setCell ⟨gb194, 4, none⟩ (.int .u8 ((rd_T34 ((rd_T138 l0_2 x21_1).f0) x62_4).f4))).setCell ⟨gb194, 5, none⟩ (.int .u8 ((rd_T34 ((rd_T138 l0_2 x21_1).f0) x62_4).f5))).setCell ⟨gb194, 6, none⟩ (.int .i16 ((rd_T34 ((rd_T138 l0_2 x21_1).f0) x62_4).f6))) w.heap.size (fun _ => True) u189002 x189002_4) := ⟨by (with_reducible repeat (first | apply Kd.R_alloc | apply Kd.R_drewN | apply Kd.R_drew)); exact Kd.R_mono (Kd.R_far (p := ⟨gb194, 6, none⟩) (Kd.R_far (p := ⟨gb194, 5, none⟩) (Kd.R_far (p := ⟨gb194, 4, none⟩) (Kd.R_far (p := ⟨gb194, 3, none⟩) (Kd.R_far (p := ⟨gb194, 2, none⟩) (Kd.R_far (p := ⟨gb194, 1, none⟩) (Kd.R_far (p := ⟨gb194, 0, none⟩) (Kd.R_types HO_189002.out BK194.out (by decide)) (fun _ hk => hk.2) (.int .u8 ((rd_T34 ((rd_T138 l0_2 x21_1).f0) x62_4).f0))) (fun _ hk => hk.2) (.int .u8 ((rd_T34 ((rd_T138 l0_2 x21_1).f0) x62_4).f1))) (fun _ hk => hk.2) (.int .u8 ((rd_T34 ((rd_T138 l0_2 x21_1).f0) x62_4).f2))) (fun _ hk => hk.2) (.int .u8 ((rd_T34 ((rd_T138 l0_2 x21_1).f0) x62_4).f3))) (fun _ hk => hk.2) (.int .u8 ((rd_T34 ((rd_T138 l0_2 x21_1).f0) x62_4).f4))) (fun _ hk => hk.2) (.int .u8 ((rd_T34 ((rd_T138 l0_2 x21_1).f0) x62_4).f5))) (fun _ hk => hk.2) (.int .i16 ((rd_T34 ((rd_T138 l0_2 x21_1).f0) x62_4).f6))) (fun _ hk => trivial)⟩
                                have n2_ : Aside0 ((((((((w42.setCell ⟨gb194, 0, none⟩ (.int .u8 ((rd_T34 ((rd_T138 l0_2 x21_1).f0) x62_4).f0))).setCell ⟨gb194, 1, none⟩ (.int .u8 ((rd_T34 ((rd_T138 l0_2 x21_1).f0) x62_4).f1))).setCell ⟨gb194, 2, none⟩ (.int .u8 ((rd_T34 ((rd_T138 l0_2 x21_1).f0) x62_4).f2))).setCell ⟨gb194, 3, none⟩ (.int .u8 ((rd_T34 ((rd_T138 l0_2 x21_1).f0) x62_4).f3))).setCell ⟨gb194, 4, none⟩ (.int .u8 ((rd_T34 ((rd_T138 l0_2 x21_1).f0) x62_4).f4))).setCell ⟨gb194, 5, none⟩ (.int .u8 ((rd_T34 ((rd_T138 l0_2 x21_1).f0) x62_4).f5))).setCell ⟨gb194, 6, none⟩ (.int .i16 ((rd_T34 ((rd_T138 l0_2 x21_1).f0) x62_4).f6))).heap[gb184]? = some (.cells #[.int .u8 a0_0, .bool a0_1, .slice (some ad192) l0_2.length c0_2] 65 (0, 0))) := ⟨by (with_reducible repeat (first | refine blk_drewN ?_ _ | refine blk_drew ?_ | refine blk_alloc ?_ _)); refine blk_far ?_ NB184_194.out _; (with_reducible repeat (first | refine blk_drewN ?_ _ | refine blk_drew ?_ | refine blk_alloc ?_ _)); refine blk_far ?_ NB184_194.out _; (with_reducible repeat (first | refine blk_drewN ?_ _ | refine blk_drew ?_ | refine blk_alloc ?_ _)); refine blk_far ?_ NB184_194.out _; (with_reducible repeat (first | refine blk_drewN ?_ _ | refine blk_drew ?_ | refine blk_alloc ?_ _)); refine blk_far ?_ NB184_194.out _; (with_reducible repeat (first | refine blk_drewN ?_ _ | refine blk_drew ?_ | refine blk_alloc ?_ _)); refine blk_far ?_ NB184_194.out _; (with_reducible repeat (first | refine blk_drewN ?_ _ | refine blk_drew ?_ | refine blk_alloc ?_ _)); refine blk_far ?_ NB184_194.out _; (with_reducible repeat (first | refine blk_drewN ?_ _ | refine blk_drew ?_ | refine blk_alloc ?_ _)); refine blk_far ?_ NB184_194.out _; (with_reducible repeat (first | refine blk_drewN ?_ _ | refine blk_drew ?_ | refine blk_alloc ?_ _)); exact BK184.out⟩
                                have n3_ : Aside0 ((((((((w42.setCell ⟨gb194, 0, none⟩ (.int .u8 ((rd_T34 ((rd_T138 l0_2 x21_1).f0) x62_4).f0))).setCell ⟨gb194, 1, none⟩ (.int .u8 ((rd_T34 ((rd_T138 l0_2 x21_1).f0) x62_4).f1))).setCell ⟨gb194, 2, none⟩ (.int .u8 ((rd_T34 ((rd_T138 l0_2 x21_1).f0) x62_4).f2))).setCell ⟨gb194, 3, none⟩ (.int .u8 ((rd_T34 ((rd_T138 l0_2 x21_1).f0) x62_4).f3))).setCell ⟨gb194, 4, none⟩ (.int .u8 ((rd_T34 ((rd_T138 l0_2 x21_1).f0) x62_4).f4))).setCell ⟨gb194, 5, none⟩ (.int .u8 ((rd_T34 ((rd_T138 l0_2 x21_1).f0) x62_4).f5))).setCell ⟨gb194, 6, none⟩ (.int .i16 ((rd_T34 ((rd_T138 l0_2 x21_1).f0) x62_4).f6))).heap[gb185]? = some (.cells #[.slice none 0 0] 57 (0, 0))) := ⟨by (with_reducible repeat (first | refine blk_drewN ?_ _ | refine blk_drew ?_ | refine blk_alloc ?_ _)); refine blk_far ?_ NB185_194.out _; (with_reducible repeat (first | refine blk_drewN ?_ _ | refine blk_drew ?_ | refine blk_alloc ?_ _)); refine blk_far ?_ NB185_194.out _; (with_reducible repeat (first | refine blk_drewN ?_ _ | refine blk_drew ?_ | refine blk_alloc ?_ _)); refine blk_far ?_ NB185_194.out _; (with_reducible repeat (first | refine blk_drewN ?_ _ | refine blk_drew ?_ | refine blk_alloc ?_ _)); refine blk_far ?_ NB185_194.out _; (with_reducible repeat (first | refine blk_drewN ?_ _ | refine blk_drew ?_ | refine blk_alloc ?_ _)); refine blk_far ?_ NB185_194.out _; (with_reducible repeat (first | refine blk_drewN ?_ _ | refine blk_drew ?_ | refine blk_alloc ?_ _)); refine blk_far ?_ NB185_194.out _; (with_reducible repeat (first | refine blk_drewN ?_ _ | refine blk_drew ?_ | refine blk_alloc ?_ _)); refine blk_far ?_ NB185_194.out _; (with_reducible repeat (first | refine blk_drewN ?_ _ | refine blk_drew ?_ | refine blk_alloc ?_ _)); exact BK185.out⟩
                                have n4_ : Aside0 ((((((((w42.setCell ⟨gb194, 0, none⟩ (.int .u8 ((rd_T34 ((rd_T138 l0_2 x21_1).f0) x62_4).f0))).setCell ⟨gb194, 1, none⟩ (.int .u8 ((rd_T34 ((rd_T138 l0_2 x21_1).f0) x62_4).f1))).setCell ⟨gb194, 2, none⟩ (.int .u8 ((rd_T34 ((rd_T138 l0_2 x21_1).f0) x62_4).f2))).setCell ⟨gb194, 3, none⟩ (.int .u8 ((rd_T34 ((rd_T138 l0_2 x21_1).f0) x62_4).f3))).setCell ⟨gb194, 4, none⟩ (.int .u8 ((rd_T34 ((rd_T138 l0_2 x21_1).f0) x62_4).f4))).setCell ⟨gb194, 5, none⟩ (.int .u8 ((rd_T34 ((rd_T138 l0_2 x21_1).f0) x62_4).f5))).setCell ⟨gb194, 6, none⟩ (.int .i16 ((rd_T34 ((rd_T138 l0_2 x21_1).f0) x62_4).f6))).heap[gb186]? = some (.cells #[u187000] 57 (0, 0))) := ⟨by (with_reducible repeat (first | refine blk_drewN ?_ _ | refine blk_drew ?_ | refine blk_alloc ?_ _)); refine blk_far ?_ NB186_194.out _; (with_reducible repeat (first | refine blk_drewN ?_ _ | refine blk_drew ?_ | refine blk_alloc ?_ _)); refine blk_far ?_ NB186_194.out _; (with_reducible repeat (first | refine blk_drewN ?_ _ | refine blk_drew ?_ | refine blk_alloc ?_ _)); refine blk_far ?_ NB186_194.out _; (with_reducible repeat (first | refine blk_drewN ?_ _ | refine blk_drew ?_ | refine blk_alloc ?_ _)); refine blk_far ?_ NB186_194.out _; (with_reducible repeat (first | refine blk_drewN ?_ _ | refine blk_drew ?_ | refine blk_alloc ?_ _)); refine blk_far ?_ NB186_194.out _; (with_reducible repeat (first | refine blk_drewN ?_ _ | refine blk_drew ?_ | refine blk_alloc ?_ _)); refine blk_far ?_ NB186_194.out _; (with_reducible repeat (first | refine blk_drewN ?_ _ | refine blk_drew ?_ | refine blk_alloc ?_ _)); refine blk_far ?_ NB186_194.out _; (with_reducible repeat (first | refine blk_drewN ?_ _ | refine blk_drew ?_ | refine blk_alloc ?_ _)); exact BK186.out⟩
                                have n5_ : Aside0 ((((((((w42.setCell ⟨gb194, 0, none⟩ (.int .u8 ((rd_T34 ((rd_T138 l0_2 x21_1).f0) x62_4).f0))).setCell ⟨gb194, 1, none⟩ (.int .u8 ((rd_T34 ((rd_T138 l0_2 x21_1).f0) x62_4).f1))).setCell ⟨gb194, 2, none⟩ (.int .u8 ((rd_T34 ((rd_T138 l0_2 x21_1).f0) x62_4).f2))).setCell ⟨gb194, 3, none⟩ (.int .u8 ((rd_T34 ((rd_T138 l0_2 x21_1).f0) x62_4).f3))).setCell ⟨gb194, 4, none⟩ (.int .u8 ((rd_T34 ((rd_T138 l0_2 x21_1).f0) x62_4).f4))).setCell ⟨gb194, 5, none⟩ (.int .u8 ((rd_T34 ((rd_T138 l0_2 x21_1).f0) x62_4).f5))).setCell ⟨gb194, 6, none⟩ (.int .i16 ((rd_T34 ((rd_T138 l0_2 x21_1).f0) x62_4).f6))).heap[gb188]? = some (.cells #[.int .i64 t187, .slice none 0 0, u189002, .int .u8 2, .int .i64 0, .int .i64 0, .int .i64 0] 31 (0, 0))) := ⟨by (with_reducible repeat (first | refine blk_drewN ?_ _ | refine blk_drew ?_ | refine blk_alloc ?_ _)); refine blk_far ?_ NB188_194.out _; (with_reducible repeat (first | refine blk_drewN ?_ _ | refine blk_drew ?_ | refine blk_alloc ?_ _)); refine blk_far ?_ NB188_194.out _; (with_reducible repeat (first | refine blk_drewN ?_ _ | refine blk_drew ?_ | refine blk_alloc ?_ _)); refine blk_far ?_ NB188_194.out _; (with_reducible repeat (first | refine blk_drewN ?_ _ | refine blk_drew ?_ | refine blk_alloc ?_ _)); refine blk_far ?_ NB188_194.out _; (with_reducible repeat (first | refine blk_drewN ?_ _ | refine blk_drew ?_ | refine blk_alloc ?_ _)); refine blk_far ?_ NB188_194.out _; (with_reducible repeat (first | refine blk_drewN ?_ _ | refine blk_drew ?_ | refine blk_alloc ?_ _)); refine blk_far ?_ NB188_194.out _; (with_reducible repeat (first | refine blk_drewN ?_ _ | refine blk_drew ?_ | refine blk_alloc ?_ _)); refine blk_far ?_ NB188_194.out _; (with_reducible repeat (first | refine blk_drewN ?_ _ | refine blk_drew ?_ | refine blk_alloc ?_ _)); exact BK188.out⟩
                                have n6_ : Aside0 ((((((((w42.setCell ⟨gb194, 0, none⟩ (.int .u8 ((rd_T34 ((rd_T138 l0_2 x21_1).f0) x62_4).f0))).setCell ⟨gb194, 1, none⟩ (.int .u8 ((rd_T34 ((rd_T138 l0_2 x21_1).f0) x62_4).f1))).setCell ⟨gb194, 2, none⟩ (.int .u8 ((rd_T34 ((rd_T138 l0_2 x21_1).f0) x62_4).f2))).setCell ⟨gb194, 3, none⟩ (.int .u8 ((rd_T34 ((rd_T138 l0_2 x21_1).f0) x62_4).f3))).setCell ⟨gb194, 4, none⟩ (.int .u8 ((rd_T34 ((rd_T138 l0_2 x21_1).f0) x62_4).f4))).setCell ⟨gb194, 5, none⟩ (.int .u8 ((rd_T34 ((rd_T138 l0_2 x21_1).f0) x62_4).f5))).setCell ⟨gb194, 6, none⟩ (.int .i16 ((rd_T34 ((rd_T138 l0_2 x21_1).f0) x62_4).f6))).heap[gb194]? = some (.cells #[.int .u8 ((rd_T34 ((rd_T138 l0_2 x21_1).f0) x62_4).f0), .int .u8 ((rd_T34 ((rd_T138 l0_2 x21_1).f0) x62_4).f1), .int .u8 ((rd_T34 ((rd_T138 l0_2 x21_1).f0) x62_4).f2), .int .u8 ((rd_T34 ((rd_T138 l0_2 x21_1).f0) x62_4).f3), .int .u8 ((rd_T34 ((rd_T138 l0_2 x21_1).f0) x62_4).f4), .int .u8 ((rd_T34 ((rd_T138 l0_2 x21_1).f0) x62_4).f5), .int .i16 ((rd_T34 ((rd_T138 l0_2 x21_1).f0) x62_4).f6)] 34 (0, 0))) := ⟨by (with_reducible repeat (first | refine blk_drewN ?_ _ | refine blk_drew ?_ | refine blk_alloc ?_ _)); refine blk_put (cs := #[.int .u8 ((rd_T34 ((rd_T138 l0_2 x21_1).f0) x62_4).f0), .int .u8 ((rd_T34 ((rd_T138 l0_2 x21_1).f0) x62_4).f1), .int .u8 ((rd_T34 ((rd_T138 l0_2 x21_1).f0) x62_4).f2), .int .u8 ((rd_T34 ((rd_T138 l0_2 x21_1).f0) x62_4).f3), .int .u8 ((rd_T34 ((rd_T138 l0_2 x21_1).f0) x62_4).f4), .int .u8 ((rd_T34 ((rd_T138 l0_2 x21_1).f0) x62_4).f5), .int .i16 0]) ?_ 6 _ rfl; (with_reducible repeat (first | refine blk_drewN ?_ _ | refine blk_drew ?_ | refine blk_alloc ?_ _)); refine blk_put (cs := #[.int .u8 ((rd_T34 ((rd_T138 l0_2 x21_1).f0) x62_4).f0), .int .u8 ((rd_T34 ((rd_T138 l0_2 x21_1).f0) x62_4).f1), .int .u8 ((rd_T34 ((rd_T138 l0_2 x21_1).f0) x62_4).f2), .int .u8 ((rd_T34 ((rd_T138 l0_2 x21_1).f0) x62_4).f3), .int .u8 ((rd_T34 ((rd_T138 l0_2 x21_1).f0) x62_4).f4), .int .u8 0, .int .i16 0]) ?_ 5 _ rfl; (with_reducible repeat (first | refine blk_drewN ?_ _ | refine blk_drew ?_ | refine blk_alloc ?_ _)); refine blk_put (cs := #[.int .u8 ((rd_T34 ((rd_T138 l0_2 x21_1).f0) x62_4).f0), .int .u8 ((rd_T34 ((rd_T138 l0_2 x21_1).f0) x62_4).f1), .int .u8 ((rd_T34 ((rd_T138 l0_2 x21_1).f0) x62_4).f2), .int .u8 ((rd_T34 ((rd_T138 l0_2 x21_1).f0) x62_4).f3), .int .u8 0, .int .u8 0, .int .i16 0]) ?_ 4 _ rfl; (with_reducible repeat (first | refine blk_drewN ?_ _ | refine blk_drew ?_ | refine blk_alloc ?_ _)); refine blk_put (cs := #[.int .u8 ((rd_T34 ((rd_T138 l0_2 x21_1).f0) x62_4).f0), .int .u8 ((rd_T34 ((rd_T138 l0_2 x21_1).f0) x62_4).f1), .int .u8 ((rd_T34 ((rd_T138 l0_2 x21_1).f0) x62_4).f2), .int .u8 0, .int .u8 0, .int .u8 0, .int .i16 0]) ?_ 3 _ rfl; (with_reducible repeat (first | refine blk_drewN ?_ _ | refine blk_drew ?_ | refine blk_alloc ?_ _)); refine blk_put (cs := #[.int .u8 ((rd_T34 ((rd_T138 l0_2 x21_1).f0) x62_4).f0), .int .u8 ((rd_T34 ((rd_T138 l0_2 x21_1).f0) x62_4).f1), .int .u8 0, .int .u8 0, .int .u8 0, .int .u8 0, .int .i16 0]) ?_ 2 _ rfl; (with_reducible repeat (first | refine blk_drewN ?_ _ | refine blk_drew ?_ | refine blk_alloc ?_ _)); refine blk_put (cs := #[.int .u8 ((rd_T34 ((rd_T138 l0_2 x21_1).f0) x62_4).f0), .int .u8 0, .int .u8 0, .int .u8 0, .int .u8 0, .int .u8 0, .int .i16 0]) ?_ 1 _ rfl; (with_reducible repeat (first | refine blk_drewN ?_ _ | refine blk_drew ?_ | refine blk_alloc ?_ _)); refine blk_put (cs := #[.int .u8 0, .int .u8 0, .int .u8 0, .int .u8 0, .int .u8 0, .int .u8 0, .int .i16 0]) ?_ 0 _ rfl; (with_reducible repeat (first | refine blk_drewN ?_ _ | refine blk_drew ?_ | refine blk_alloc ?_ _)); exact BK194.out⟩
                                have n7_ : Aside0 (Below w.heap.size w (((((((w42.setCell ⟨gb194, 0, none⟩ (.int .u8 ((rd_T34 ((rd_T138 l0_2 x21_1).f0) x62_4).f0))).setCell ⟨gb194, 1, none⟩ (.int .u8 ((rd_T34 ((rd_T138 l0_2 x21_1).f0) x62_4).f1))).setCell ⟨gb194, 2, none⟩ (.int .u8 ((rd_T34 ((rd_T138 l0_2 x21_1).f0) x62_4).f2))).setCell ⟨gb194, 3, none⟩ (.int .u8 ((rd_T34 ((rd_T138 l0_2 x21_1).f0) x62_4).f3))).setCell ⟨gb194, 4, none⟩ (.int .u8 ((rd_T34 ((rd_T138 l0_2 x21_1).f0) x62_4).f4))).setCell ⟨gb194, 5, none⟩ (.int .u8 ((rd_T34 ((rd_T138 l0_2 x21_1).f0) x62_4).f5))).setCell ⟨gb194, 6, none⟩ (.int .i16 ((rd_T34 ((rd_T138 l0_2 x21_1).f0) x62_4).f6)))) := ⟨by repeat (first | (with_reducible first | exact HB.out | apply below_alloc | apply pw_below_drewN | apply below_drew1 | refine below_set ?_ GE184.out | refine below_set ?_ GE185.out | refine below_set ?_ GE186.out | refine below_set ?_ GE188.out | refine below_set ?_ GE194.out) | exact HB.out)⟩
                                (try clear HO_187000)
                                (try clear HO_189002)
                                (try clear BK184)
                                (try clear BK185)
                                (try clear BK186)
                                (try clear BK188)
                                (try clear BK194)
                                (try clear HB)
                                generalize (((((((w42.setCell ⟨gb194, 0, none⟩ (.int .u8 ((rd_T34 ((rd_T138 l0_2 x21_1).f0) x62_4).f0))).setCell ⟨gb194, 1, none⟩ (.int .u8 ((rd_T34 ((rd_T138 l0_2 x21_1).f0) x62_4).f1))).setCell ⟨gb194, 2, none⟩ (.int .u8 ((rd_T34 ((rd_T138 l0_2 x21_1).f0) x62_4).f2))).setCell ⟨gb194, 3, none⟩ (.int .u8 ((rd_T34 ((rd_T138 l0_2 x21_1).f0) x62_4).f3))).setCell ⟨gb194, 4, none⟩ (.int .u8 ((rd_T34 ((rd_T138 l0_2 x21_1).f0) x62_4).f4))).setCell ⟨gb194, 5, none⟩ (.int .u8 ((rd_T34 ((rd_T138 l0_2 x21_1).f0) x62_4).f5))).setCell ⟨gb194, 6, none⟩ (.int .i16 ((rd_T34 ((rd_T138 l0_2 x21_1).f0) x62_4).f6))) = w48 at n0_ n1_ n2_ n3_ n4_ n5_ n6_ n7_ ⊢
                                have HO_187000 := n0_
                                have HO_189002 := n1_
                                have BK184 := n2_
                                have BK185 := n3_
                                have BK186 := n4_
                                have BK188 := n5_
                                have BK194 := n6_
                                have HB := n7_
                                clear n0_ n1_ n2_ n3_ n4_ n5_ n6_ n7_
                                have n0_ := Aside0.mk (Kd.R_drew HO_187000.out)
                                have n1_ := Aside0.mk (Kd.R_drew HO_189002.out)
                                have n2_ := Aside0.mk (blk_drew BK184.out)
                                have n3_ := Aside0.mk (blk_drew BK185.out)
                                have n4_ := Aside0.mk (blk_drew BK186.out)
                                have n5_ := Aside0.mk (blk_drew BK188.out)
                                have n6_ := Aside0.mk (blk_drew BK194.out)
                                have n7_ := Aside0.mk (below_drew1 HB.out)
                                clear HO_187000
                                clear HO_189002
                                clear BK184
                                clear BK185
                                clear BK186
                                clear BK188
                                clear BK194
                                clear HB
                                have HO_187000 := n0_
                                have HO_189002 := n1_
                                have BK184 := n2_
                                have BK185 := n3_
                                have BK186 := n4_
                                have BK188 := n5_
                                have BK194 := n6_
                                have HB := n7_
                                clear n0_ n1_ n2_ n3_ n4_ n5_ n6_ n7_
                                refine start_ (n := 9) (S := fun w' => w'.cell? ⟨gb188, 0, none⟩ = some (.int .i64 t187) ∧ w'.cell? ⟨gb188, 1, none⟩ = some (.slice none 0 0) ∧ w'.cell? ⟨gb188, 2, none⟩ = some (u189002) ∧ w'.cell? ⟨gb188, 3, none⟩ = some (.int .u8 2) ∧ w'.cell? ⟨gb188, 4, none⟩ = some (.int .i64 0) ∧ w'.cell? ⟨gb188, 5, none⟩ = some (.int .i64 0) ∧ w'.cell? ⟨gb188, 6, none⟩ = some (.int .i64 0) ∧ w'.cell? ⟨gb194, 0, none⟩ = some (.int .u8 ((rd_T34 ((rd_T138 l0_2 x21_1).f0) x62_4).f0)) ∧ w'.cell? ⟨gb194, 1, none⟩ = some (.int .u8 ((rd_T34 ((rd_T138 l0_2 x21_1).f0) x62_4).f1)) ∧ w'.cell? ⟨gb194, 2, none⟩ = some (.int .u8 ((rd_T34 ((rd_T138 l0_2 x21_1).f0) x62_4).f2)) ∧ w'.cell? ⟨gb194, 3, none⟩ = some (.int .u8 ((rd_T34 ((rd_T138 l0_2 x21_1).f0) x62_4).f3)) ∧ w'.cell? ⟨gb194, 4, none⟩ = some (.int .u8 ((rd_T34 ((rd_T138 l0_2 x21_1).f0) x62_4).f4)) ∧ w'.cell? ⟨gb194, 5, none⟩ = some (.int .u8 ((rd_T34 ((rd_T138 l0_2 x21_1).f0) x62_4).f5)) ∧ w'.cell? ⟨gb194, 6, none⟩ = some (.int .i16 ((rd_T34 ((rd_T138 l0_2 x21_1).f0) x62_4).f6))) (ds := [8]) #[false, false, false, false, false, false, false, false, false] (by kernel_rfl) rfl rfl ⟨(blk_cell BK188.out 0).trans rfl, (blk_cell BK188.out 1).trans rfl, (blk_cell BK188.out 2).trans rfl, (blk_cell BK188.out 3).trans rfl, (blk_cell BK188.out 4).trans rfl, (blk_cell BK188.out 5).trans rfl, (blk_cell BK188.out 6).trans rfl, (blk_cell BK194.out 0).trans rfl, (blk_cell BK194.out 1).trans rfl, (blk_cell BK194.out 2).trans rfl, (blk_cell BK194.out 3).trans rfl, (blk_cell BK194.out 4).trans rfl, (blk_cell BK194.out 5).trans rfl, (blk_cell BK194.out 6).trans rfl⟩ (fun hHeld => ?_); refine with_tabW refinerylaw03_Small_Program.tab17 refinerylaw03_Small_Program.bits17 (fun HT_ HW_ => ?_)
                                generalize w48.drew = w49 at HO_187000 HO_189002 BK184 BK185 BK186 BK188 BK194 HB hHeld ⊢
                                refine pure_ (i := 0) (N := some 66) (v := ?_) (a' := ?_) #[true, false, false, false, false, false, false, false, false] rfl rfl (any_of HT_.out (by kernel_rfl)) (fun _ _ _ h => h) (Or.inl ⟨by rfl, ?_⟩) ?_ ?_
                                rotate_left
                                · intro w'
                                  go_simp
                                  with_reducible rfl
                                rotate_left
                                · simp only [Act.put, List.setIfInBounds_toArray, List.set_cons_zero, List.set_cons_succ, i64_w, i32_w]
                                  rfl
                                refine pure_ (i := 3) (N := some 69) (v := ?_) (a' := ?_) #[true, false, false, true, false, false, false, false, false] rfl rfl (any_of HT_.out (by kernel_rfl)) (fun _ _ _ h => h) (Or.inl ⟨by rfl, ?_⟩) ?_ ?_
                                rotate_left
                                · intro w'
                                  go_simp
                                  with_reducible rfl
                                rotate_left
                                · simp only [Act.put, List.setIfInBounds_toArray, List.set_cons_zero, List.set_cons_succ, i64_w, i32_w]
                                  rfl
                                refine take_ (i := 1) (N := some 67) (v := ?_) (a' := ?_) #[true, true, false, true, false, false, false, false, false] rfl rfl (take_ofW HT_.out HW_.out (by kernel_rfl)) (fun _ _ _ h => h) (Or.inl ⟨by rfl, ?_⟩) hHeld ?_ ?_
                                rotate_left
                                · rintro w' ⟨s0, s1, s2, s3, s4, s5, s6, s7, s8, s9, s10, s11, s12, s13⟩
                                  go_simp
                                  with_reducible rfl
                                rotate_left
                                · simp only [Act.put, List.setIfInBounds_toArray, List.set_cons_zero, List.set_cons_succ, i64_w, i32_w]
                                  rfl
                                refine take_ (i := 2) (N := some 68) (v := ?_) (a' := ?_) #[true, true, true, true, false, false, false, false, false] rfl rfl (take_ofW HT_.out HW_.out (by kernel_rfl)) (fun _ _ _ h => h) (Or.inl ⟨by rfl, ?_⟩) hHeld ?_ ?_
                                rotate_left
                                · rintro w' ⟨s0, s1, s2, s3, s4, s5, s6, s7, s8, s9, s10, s11, s12, s13⟩
                                  go_simp
                                  with_reducible rfl
                                rotate_left
                                · simp only [Act.put, List.setIfInBounds_toArray, List.set_cons_zero, List.set_cons_succ, i64_w, i32_w]
                                  rfl
                                refine one_ (i := 4) (N := some 70) #[true, true, true, true, true, false, false, false, false] rfl rfl (one_of HT_.out (by kernel_rfl)) (by decide) (fun K hK => ?_)
                                refine goes_ Try.func16 (by kernel_rfl) rfl #[.agg #[.int .u8 ((rd_T34 ((rd_T138 l0_2 x21_1).f0) x62_4).f0), .int .u8 ((rd_T34 ((rd_T138 l0_2 x21_1).f0) x62_4).f1), .int .u8 ((rd_T34 ((rd_T138 l0_2 x21_1).f0) x62_4).f2), .int .u8 ((rd_T34 ((rd_T138 l0_2 x21_1).f0) x62_4).f3), .int .u8 ((rd_T34 ((rd_T138 l0_2 x21_1).f0) x62_4).f4), .int .u8 ((rd_T34 ((rd_T138 l0_2 x21_1).f0) x62_4).f5), .int .i16 ((rd_T34 ((rd_T138 l0_2 x21_1).f0) x62_4).f6)], .int .i64 (wrap64 (1 + (wrap64 (Int.tmod a0_0 6))))] (by rfl) rfl rfl (by (try simp only [List.map_toArray, List.map_cons, List.map_nil]); first | done | rfl | (simp only [List.length_drop, List.length_take]; rfl)) ?_
                                with_reducible refine (refinerylaw03_Line_Instr.calls k4 ((rd_T34 ((rd_T138 l0_2 x21_1).f0) x62_4).f0) ((rd_T34 ((rd_T138 l0_2 x21_1).f0) x62_4).f1) ((rd_T34 ((rd_T138 l0_2 x21_1).f0) x62_4).f2) ((rd_T34 ((rd_T138 l0_2 x21_1).f0) x62_4).f3) ((rd_T34 ((rd_T138 l0_2 x21_1).f0) x62_4).f4) ((rd_T34 ((rd_T138 l0_2 x21_1).f0) x62_4).f5) ((rd_T34 ((rd_T138 l0_2 x21_1).f0) x62_4).f6) (wrap64 (1 + (wrap64 (Int.tmod a0_0 6)))) t195 t196 t197 t198 t199 t200 t201 _ A40.out).mono ?_
                                rintro e w50 ⟨rfl, hb⟩
                                refine ⟨_, rfl, ?_⟩
                                have n0_ := Aside0.mk (Kd.R_below (by (with_reducible repeat (first | apply Kd.R_alloc | apply Kd.R_drewN | apply Kd.R_drew)); exact HO_187000.out) hb)
                                have n1_ := Aside0.mk (Kd.R_below (by (with_reducible repeat (first | apply Kd.R_alloc | apply Kd.R_drewN | apply Kd.R_drew)); exact HO_189002.out) hb)
                                have n2_ := Aside0.mk (blk_below (g := gb184) (o := .cells #[.int .u8 a0_0, .bool a0_1, .slice (some ad192) l0_2.length c0_2] 65 (0, 0)) (by (with_reducible repeat (first | refine blk_drewN ?_ _ | refine blk_drew ?_ | refine blk_alloc ?_ _)); exact BK184.out) hb)
                                have n3_ := Aside0.mk (blk_below (g := gb185) (o := .cells #[.slice none 0 0] 57 (0, 0)) (by (with_reducible repeat (first | refine blk_drewN ?_ _ | refine blk_drew ?_ | refine blk_alloc ?_ _)); exact BK185.out) hb)
                                have n4_ := Aside0.mk (blk_below (g := gb186) (o := .cells #[u187000] 57 (0, 0)) (by (with_reducible repeat (first | refine blk_drewN ?_ _ | refine blk_drew ?_ | refine blk_alloc ?_ _)); exact BK186.out) hb)
                                have n5_ := Aside0.mk (blk_below (g := gb188) (o := .cells #[.int .i64 t187, .slice none 0 0, u189002, .int .u8 2, .int .i64 0, .int .i64 0, .int .i64 0] 31 (0, 0)) (by (with_reducible repeat (first | refine blk_drewN ?_ _ | refine blk_drew ?_ | refine blk_alloc ?_ _)); exact BK188.out) hb)
                                have n6_ := Aside0.mk (blk_below (g := gb194) (o := .cells #[.int .u8 ((rd_T34 ((rd_T138 l0_2 x21_1).f0) x62_4).f0), .int .u8 ((rd_T34 ((rd_T138 l0_2 x21_1).f0) x62_4).f1), .int .u8 ((rd_T34 ((rd_T138 l0_2 x21_1).f0) x62_4).f2), .int .u8 ((rd_T34 ((rd_T138 l0_2 x21_1).f0) x62_4).f3), .int .u8 ((rd_T34 ((rd_T138 l0_2 x21_1).f0) x62_4).f4), .int .u8 ((rd_T34 ((rd_T138 l0_2 x21_1).f0) x62_4).f5), .int .i16 ((rd_T34 ((rd_T138 l0_2 x21_1).f0) x62_4).f6)] 34 (0, 0)) (by (with_reducible repeat (first | refine blk_drewN ?_ _ | refine blk_drew ?_ | refine blk_alloc ?_ _)); exact BK194.out) hb)
                                have n7_ := Aside0.mk (below_step (by repeat (first | (with_reducible first | exact HB.out | apply below_alloc | apply pw_below_drewN | apply below_drew1 | refine below_set ?_ GE184.out | refine below_set ?_ GE185.out | refine below_set ?_ GE186.out | refine below_set ?_ GE188.out | refine below_set ?_ GE194.out) | exact HB.out)) hb)
                                clear HO_187000
                                clear HO_189002
                                clear BK184
                                clear BK185
                                clear BK186
                                clear BK188
                                clear BK194
                                clear HB
                                have HO_187000 := n0_
                                have HO_189002 := n1_
                                have BK184 := n2_
                                have BK185 := n3_
                                have BK186 := n4_
                                have BK188 := n5_
                                have BK194 := n6_
                                have HB := n7_
                                clear n0_ n1_ n2_ n3_ n4_ n5_ n6_ n7_
                                (try clear hb)
                                (try clear hb2)
                                (try clear hk)
                                (try clear hi)
                                refine hK.out _ _ ⟨(blk_cell BK188.out 0).trans rfl, (blk_cell BK188.out 1).trans rfl, (blk_cell BK188.out 2).trans rfl, (blk_cell BK188.out 3).trans rfl, (blk_cell BK188.out 4).trans rfl, (blk_cell BK188.out 5).trans rfl, (blk_cell BK188.out 6).trans rfl, (blk_cell BK194.out 0).trans rfl, (blk_cell BK194.out 1).trans rfl, (blk_cell BK194.out 2).trans rfl, (blk_cell BK194.out 3).trans rfl, (blk_cell BK194.out 4).trans rfl, (blk_cell BK194.out 5).trans rfl, (blk_cell BK194.out 6).trans rfl⟩ (fun hHeld => ?_)
                                clear hK K
                                refine norm_ (a' := ?_) ?_ ?_
                                rotate_left
                                · show Act.put _ (some 70) _ = _
                                  simp only [Act.put, List.setIfInBounds_toArray, List.set_cons_zero, List.set_cons_succ, i64_w, i32_w]
                                  rfl
                                refine one_ (i := 5) (N := some 71) #[true, true, true, true, true, true, false, false, false] rfl rfl (one_of HT_.out (by kernel_rfl)) (by decide) (fun K hK => ?_)
                                refine value_ (w1 := ?_) (v := ?_) (by rfl) rfl ?_ ?_
                                rotate_left 2
                                · go_simp
                                  constructor
                                  · rfl
                                  · rfl
                                refine hK.out _ _ ⟨(blk_cell (blk_alloc BK188.out _) 0).trans rfl, (blk_cell (blk_alloc BK188.out _) 1).trans rfl, (blk_cell (blk_alloc BK188.out _) 2).trans rfl, (blk_cell (blk_alloc BK188.out _) 3).trans rfl, (blk_cell (blk_alloc BK188.out _) 4).trans rfl, (blk_cell (blk_alloc BK188.out _) 5).trans rfl, (blk_cell (blk_alloc BK188.out _) 6).trans rfl, (blk_cell (blk_alloc BK194.out _) 0).trans rfl, (blk_cell (blk_alloc BK194.out _) 1).trans rfl, (blk_cell (blk_alloc BK194.out _) 2).trans rfl, (blk_cell (blk_alloc BK194.out _) 3).trans rfl, (blk_cell (blk_alloc BK194.out _) 4).trans rfl, (blk_cell (blk_alloc BK194.out _) 5).trans rfl, (blk_cell (blk_alloc BK194.out _) 6).trans rfl⟩ (fun hHeld => ?_)
                                clear hK K
                                refine norm_ (a' := ?_) ?_ ?_
                                rotate_left
                                · show Act.put _ (some 71) _ = _
                                  simp only [Act.put, List.setIfInBounds_toArray, List.set_cons_zero, List.set_cons_succ, i64_w, i32_w]
                                  rfl
                                refine one_ (i := 6) (N := some 72) #[true, true, true, true, true, true, true, false, false] rfl rfl (one_of HT_.out (by kernel_rfl)) (by decide) (fun K hK => ?_)
                                refine Kd.R_append_step k38 (w0 := w) w.heap.size (by rfl) (.tmp 67) (.tmp 71) 26 38 (.agg #[(.int .u8 0), (.int .u8 0), (.int .i64 0), (.int .i64 0), (.int .i64 0), (.int .i64 0), (.int .i64 0)]) 48 rfl Try.underlying26 info38 rfl (by decide) (by omega) u189002 x189002_4 (⟨t195, t196, t197, t198, t199, t200, t201⟩ : S38) [.int .u8 t195, .int .u8 t196, .int .i64 t197, .int .i64 t198, .int .i64 t199, .int .i64 t200, .int .i64 t201] (fun _ => True) (fun _ => False) rfl rfl ?aP (fun _ hk => hk.elim) ?aF ?aO ?aB ?aS ?aL ?_
                                (case aP => exact k38_mkM _ _ _ (⟨t195, t196, t197, t198, t199, t200, t201⟩ : S38))
                                (case aB => exact (by repeat (first | (with_reducible first | exact HB.out | apply below_alloc | apply pw_below_drewN | apply below_drew1 | refine below_set ?_ GE184.out | refine below_set ?_ GE185.out | refine below_set ?_ GE186.out | refine below_set ?_ GE188.out | refine below_set ?_ GE194.out) | exact HB.out)))
                                (case aF => exact (fun _ _ => trivial))
                                (case aO => exact (by (with_reducible repeat (first | apply Kd.R_alloc | apply Kd.R_drewN | apply Kd.R_drew)); exact HO_189002.out))
                                (case aS => exact (below_size (by repeat (first | (with_reducible first | exact HB.out | apply below_alloc | apply pw_below_drewN | apply below_drew1 | refine below_set ?_ GE184.out | refine below_set ?_ GE185.out | refine below_set ?_ GE186.out | refine below_set ?_ GE188.out | refine below_set ?_ GE194.out) | exact HB.out))))
                                (case aL => have := LMc41.out; omega)
                                intro v203 w51 ho hb hg hat
                                rw [← Ny202.out] at ho
                                have n0_ := Aside0.mk (Kd.R_after (ok := (fun k_ => k_ ≠ gb188)) (by (with_reducible repeat (first | apply Kd.R_alloc | apply Kd.R_drewN | apply Kd.R_drew)); exact Kd.R_mono HO_187000.out (fun _ hk => ⟨hk.2, hk.1⟩)) hg hat)
                                have n1_ := Aside0.mk (blk_grown (g := gb184) (o := .cells #[.int .u8 a0_0, .bool a0_1, .slice (some ad192) l0_2.length c0_2] 65 (0, 0)) (by (with_reducible repeat (first | refine blk_drewN ?_ _ | refine blk_drew ?_ | refine blk_alloc ?_ _)); exact BK184.out) hg (Kd.R_ne HO_189002.out BK184.out (by decide)))
                                have n2_ := Aside0.mk (blk_grown (g := gb185) (o := .cells #[.slice none 0 0] 57 (0, 0)) (by (with_reducible repeat (first | refine blk_drewN ?_ _ | refine blk_drew ?_ | refine blk_alloc ?_ _)); exact BK185.out) hg (Kd.R_ne HO_189002.out BK185.out (by decide)))
                                have n3_ := Aside0.mk (blk_grown (g := gb186) (o := .cells #[u187000] 57 (0, 0)) (by (with_reducible repeat (first | refine blk_drewN ?_ _ | refine blk_drew ?_ | refine blk_alloc ?_ _)); exact BK186.out) hg (Kd.R_ne HO_189002.out BK186.out (by decide)))
                                have n4_ := Aside0.mk (blk_grown (g := gb188) (o := .cells #[.int .i64 t187, .slice none 0 0, u189002, .int .u8 2, .int .i64 0, .int .i64 0, .int .i64 0] 31 (0, 0)) (by (with_reducible repeat (first | refine blk_drewN ?_ _ | refine blk_drew ?_ | refine blk_alloc ?_ _)); exact BK188.out) hg (Kd.R_ne HO_189002.out BK188.out (by decide)))
                                have n5_ := Aside0.mk (blk_grown (g := gb194) (o := .cells #[.int .u8 ((rd_T34 ((rd_T138 l0_2 x21_1).f0) x62_4).f0), .int .u8 ((rd_T34 ((rd_T138 l0_2 x21_1).f0) x62_4).f1), .int .u8 ((rd_T34 ((rd_T138 l0_2 x21_1).f0) x62_4).f2), .int .u8 ((rd_T34 ((rd_T138 l0_2 x21_1).f0) x62_4).f3), .int .u8 ((rd_T34 ((rd_T138 l0_2 x21_1).f0) x62_4).f4), .int .u8 ((rd_T34 ((rd_T138 l0_2 x21_1).f0) x62_4).f5), .int .i16 ((rd_T34 ((rd_T138 l0_2 x21_1).f0) x62_4).f6)] 34 (0, 0)) (by (with_reducible repeat (first | refine blk_drewN ?_ _ | refine blk_drew ?_ | refine blk_alloc ?_ _)); exact BK194.out) hg (Kd.R_ne HO_189002.out BK194.out (by decide)))
                                have n6_ := Aside0.mk (hb)
                                have n7_ := Aside0.mk (ho)
                                clear HO_187000
                                clear BK184
                                clear BK185
                                clear BK186
                                clear BK188
                                clear BK194
                                clear HB
                                clear HO_189002
                                have HO_187000 := n0_
                                have BK184 := n1_
                                have BK185 := n2_
                                have BK186 := n3_
                                have BK188 := n4_
                                have BK194 := n5_
                                have HB := n6_
                                have HO204 := n7_
                                clear n0_ n1_ n2_ n3_ n4_ n5_ n6_ n7_
                                clear ho hb hg hat
                                obtain ⟨Ao52, co52, eo52⟩ := Kd.R_slice HO204.out
                                (first | subst eo52 | (injection eo52 with f1_ f2_ f3_; have f4_ := f1_.symm; have f5_ := f3_.symm; clear f1_ f2_ f3_; subst f4_; subst f5_))
                                refine hK.out _ _ ⟨(blk_cell BK188.out 0).trans rfl, (blk_cell BK188.out 1).trans rfl, (blk_cell BK188.out 2).trans rfl, (blk_cell BK188.out 3).trans rfl, (blk_cell BK188.out 4).trans rfl, (blk_cell BK188.out 5).trans rfl, (blk_cell BK188.out 6).trans rfl, (blk_cell BK194.out 0).trans rfl, (blk_cell BK194.out 1).trans rfl, (blk_cell BK194.out 2).trans rfl, (blk_cell BK194.out 3).trans rfl, (blk_cell BK194.out 4).trans rfl, (blk_cell BK194.out 5).trans rfl, (blk_cell BK194.out 6).trans rfl⟩ (fun hHeld => ?_)
                                clear hK K
                                refine norm_ (a' := ?_) ?_ ?_
                                rotate_left
                                · show Act.put _ (some 72) _ = _
                                  simp only [Act.put, List.setIfInBounds_toArray, List.set_cons_zero, List.set_cons_succ, i64_w, i32_w]
                                  rfl
                                refine pure_ (i := 7) (N := some 73) (v := ?_) (a' := ?_) #[true, true, true, true, true, true, true, true, false] rfl rfl (any_of HT_.out (by kernel_rfl)) (fun _ _ _ h => h) (Or.inl ⟨by rfl, ?_⟩) ?_ ?_
                                rotate_left
                                · intro w'
                                  go_simp
                                  with_reducible rfl
                                rotate_left
                                · simp only [Act.put, List.setIfInBounds_toArray, List.set_cons_zero, List.set_cons_succ, i64_w, i32_w]
                                  rfl
                                refine last_ (i := 8) (N := none) #[true, true, true, true, true, true, true, true, true] rfl rfl (one_of HT_.out (by kernel_rfl)) (by decide) (fun K hK => ?_)
                                have hs53 : w51.cell? ⟨gb188, 2, none⟩ = some (u189002) := (blk_cell BK188.out 2).trans rfl
                                have hfs53 := blk_frozen BK188.out 2
                                have hns53_0 := NB184_188.out
                                have hns53_1 := NB185_188.out
                                have hns53_2 := NB186_188.out
                                have hns53_4 := NB194_188.out
                                have hms53_0 := NB188_184.out
                                have hms53_1 := NB188_185.out
                                have hms53_2 := NB188_186.out
                                have hms53_4 := NB188_194.out
                                refine skip_ (w1 := ?_) (by rfl) rfl ?_ ?_
                                rotate_left
                                · go_simp
                                  rfl
                                refine hK.out _ _ ?_
                                clear hK K
                                refine done_ (done_of HT_.out (by kernel_rfl)) ?_
                                try go_wp2
                                go_roundg k4
                                case measure => have := HK1.out; have := HJ8.out; have := HJ19.out; have := HK4.out; omega
                                case rel => exact ⟨(wrap64 (x62_4 + 1)), (y202), (.slice Ao52 y202.length co52), (by first | rfl | (simp; done) | (simp [*]; done)), H', ⟨by have := HK1.out; have := HJ8.out; have := HJ19.out; have := HK4.out; omega⟩, ⟨by (with_reducible repeat (first | apply Kd.R_alloc | apply Kd.R_drewN | apply Kd.R_drew)); exact Kd.R_mono (Kd.R_far (p := ⟨gb188, 2, none⟩) (Kd.R_mono HO_187000.out (fun k_ hk => (⟨hk, hk.1⟩ : _ ∧ k_ ≠ gb188))) (fun _ hk => hk.2) (.slice Ao52 y202.length co52)) (fun _ hk => ⟨hk.1.2, hk.1.1⟩)⟩, ⟨by (with_reducible repeat (first | apply Kd.R_alloc | apply Kd.R_drewN | apply Kd.R_drew)); exact Kd.R_mono (Kd.R_far (p := ⟨gb188, 2, none⟩) (Kd.R_types HO204.out BK188.out (by decide)) (fun _ hk => hk.2) (.slice Ao52 y202.length co52)) (fun _ hk => trivial)⟩, ⟨by (with_reducible repeat (first | refine blk_drewN ?_ _ | refine blk_drew ?_ | refine blk_alloc ?_ _)); refine blk_far ?_ NB184_188.out _; (with_reducible repeat (first | refine blk_drewN ?_ _ | refine blk_drew ?_ | refine blk_alloc ?_ _)); exact BK184.out⟩, ⟨by (with_reducible repeat (first | refine blk_drewN ?_ _ | refine blk_drew ?_ | refine blk_alloc ?_ _)); refine blk_far ?_ NB185_188.out _; (with_reducible repeat (first | refine blk_drewN ?_ _ | refine blk_drew ?_ | refine blk_alloc ?_ _)); exact BK185.out⟩, ⟨by (with_reducible repeat (first | refine blk_drewN ?_ _ | refine blk_drew ?_ | refine blk_alloc ?_ _)); refine blk_far ?_ NB186_188.out _; (with_reducible repeat (first | refine blk_drewN ?_ _ | refine blk_drew ?_ | refine blk_alloc ?_ _)); exact BK186.out⟩, ⟨by (with_reducible repeat (first | refine blk_drewN ?_ _ | refine blk_drew ?_ | refine blk_alloc ?_ _)); refine blk_put (cs := #[.int .i64 t187, .slice none 0 0, u189002, .int .u8 2, .int .i64 0, .int .i64 0, .int .i64 0]) ?_ 2 _ rfl; (with_reducible repeat (first | refine blk_drewN ?_ _ | refine blk_drew ?_ | refine blk_alloc ?_ _)); exact BK188.out⟩, ⟨by repeat (first | (with_reducible first | exact HB.out | apply below_alloc | apply pw_below_drewN | apply below_drew1 | refine below_set ?_ GE184.out | refine below_set ?_ GE185.out | refine below_set ?_ GE186.out | refine below_set ?_ GE188.out | refine below_set ?_ GE194.out) | exact HB.out)⟩⟩
                              · rw [if_neg c41] at H
                                exact absurd H (by simp)
                            · rw [if_neg c39] at H
                              exact absurd H (by simp)
                          · rw [if_neg c38] at H
                            exact absurd H (by simp)
                        · rw [if_neg c37] at H
                          have c37b0 : decide (x62_4 < (((rd_T138 l0_2 x21_1).f0).length : Int)) = false := decide_eq_false c37
                          clear c37
                          by_cases c54 : 0 ≤ x21_1
                          · rw [if_pos c54] at H
                            have c54b0 : decide (0 ≤ x21_1) = true := decide_eq_true c54
                            clear c54
                            by_cases c55 : x21_1 < (l0_2.length : Int)
                            · rw [if_pos c55] at H
                              have c55b0 : decide (x21_1 < (l0_2.length : Int)) = true := decide_eq_true c55
                              clear c55
                              replace H := Option.bind_eq_some_iff.mp H
                              obtain ⟨⟨t206, t207, t208, t209⟩, A560, H⟩ := H
                              replace H : (if x187000_1.length < 1599289640401 then (refinerylaw03_Small_Program.l0 k4 (wrap64 (1 + (wrap64 (Int.tmod a0_0 6)))) ji2 ji2 (wrap64 (x21_1 + 1)) a0_0 a0_1 l0_2 (x187000_1 ++ [(⟨t187, ([] : List (S147)), x189002_4, (⟨t206, t207, t208, t209⟩ : S29)⟩ : S31)])) else (none)) = some r := H
                              have A56 := Aside0.mk A560
                              clear A560
                              by_cases c57 : x187000_1.length < 1599289640401
                              · rw [if_pos c57] at H
                                have LMc57 := Aside0.mk c57
                                clear c57
                                obtain ⟨y210, hy210⟩ : ∃ y_ : List (S31), y_ = (x187000_1 ++ [(⟨t187, ([] : List (S147)), x189002_4, (⟨t206, t207, t208, t209⟩ : S29)⟩ : S31)]) := ⟨_, rfl⟩
                                replace H : (refinerylaw03_Small_Program.l0 k4 (wrap64 (1 + (wrap64 (Int.tmod a0_0 6)))) ji2 ji2 (wrap64 (x21_1 + 1)) a0_0 a0_1 l0_2 y210) = some r := by first | (rw [hy210]; with_reducible exact H) | (have H2_ := (Option.bind_some _ _).symm.trans H; rw [hy210]; with_reducible exact H2_) | (have H2_ := (Option.bind_some _ _).symm.trans H; with_reducible exact H2_) | with_reducible exact H | (rw [hy210]; exact H) | exact H
                                have Ny210 := Aside0.mk hy210
                                clear hy210
                                have H' := Aside0.mk H
                                clear H
                                have hnb58 := NB184_185.out
                                have hnc58 := NB185_184.out
                                have hnb59 := NB184_186.out
                                have hnc59 := NB186_184.out
                                have hnb60 := NB184_188.out
                                have hnc60 := NB188_184.out
                                have hcz61_0 : wr.cell? ⟨gb184, 0, none⟩ = some (.int .u8 a0_0) := (blk_cell BK184.out 0).trans rfl
                                have hcz61_1 : wr.cell? ⟨gb184, 1, none⟩ = some (.bool a0_1) := (blk_cell BK184.out 1).trans rfl
                                have hcz61_2 : wr.cell? ⟨gb184, 2, none⟩ = some (.slice (some ad192) l0_2.length c0_2) := (blk_cell BK184.out 2).trans rfl
                                have hfz61_0 := blk_frozen BK184.out 0
                                have hfz61_1 := blk_frozen BK184.out 1
                                have hfz61_2 := blk_frozen BK184.out 2
                                have p205 : 0 ≤ (x21_1 : Int) := of_decide_eq_true (by first | (with_reducible assumption) | assumption)
                                have q205 : x21_1 < (l0_2.length : Int) := of_decide_eq_true (by first | (with_reducible assumption) | assumption)
                                obtain ⟨ad205, A205_0, c205_0, e205, hx205_0, hx205_1, hx205_2, hx205_3, hx205_4, hl205_0, hi205_0⟩ := at_T138 HR0_2.out x21_1 p205 q205
                                obtain rfl : ad192 = ad205 := (by injection e205)
                                replace hx205_0 := (HB.out.cell (World.block_lt_of_cell? w _ hx205_0)).trans hx205_0
                                replace hx205_1 := (HB.out.cell (World.block_lt_of_cell? w _ hx205_1)).trans hx205_1
                                replace hx205_2 := (HB.out.cell (World.block_lt_of_cell? w _ hx205_2)).trans hx205_2
                                replace hx205_3 := (HB.out.cell (World.block_lt_of_cell? w _ hx205_3)).trans hx205_3
                                replace hx205_4 := (HB.out.cell (World.block_lt_of_cell? w _ hx205_4)).trans hx205_4
                                have HR205_0 := Aside0.mk hi205_0
                                have HC205_0 := Aside0.mk hl205_0
                                clear hi205_0 hl205_0
                                replace p205 := eq_true p205
                                replace q205 := eq_true q205
                                go_wp2_with (first | ((with_reducible refine gate_callee (f := 77) rfl ?_); refine goesL_ (some 82) rfl rfl Try.func77 (by kernel_rfl) rfl #[.agg #[.slice A205_0 ((rd_T138 l0_2 x21_1).f0).length c205_0, .int .u8 ((rd_T138 l0_2 x21_1).f1), .int .u8 ((rd_T138 l0_2 x21_1).f2), .int .u8 ((rd_T138 l0_2 x21_1).f3), .int .u8 ((rd_T138 l0_2 x21_1).f4)], .int .i64 (wrap64 (1 + (wrap64 (Int.tmod a0_0 6)))), .int .i64 ji2] rfl (by (try simp only [List.map_toArray, List.map_cons, List.map_nil]); first | done | (simp only [hji2]; rfl) | rfl | (simp only [List.length_drop, List.length_take]; rfl)) ?_; (with_reducible refine (refinerylaw03_Block_Last.calls k4 _ _ ((rd_T138 l0_2 x21_1).f0) ((rd_T138 l0_2 x21_1).f1) ((rd_T138 l0_2 x21_1).f2) ((rd_T138 l0_2 x21_1).f3) ((rd_T138 l0_2 x21_1).f4) (wrap64 (1 + (wrap64 (Int.tmod a0_0 6)))) ji2 t206 t207 t208 t209 _ ?side1 ?side2 A56.out).mono ?_); (case side1 => repeat (first | exact (Kd.C_below HR205_0.out HB.out) | (with_reducible refine Kd.C_alloc ?_ _) | (with_reducible refine Kd.C_drewN ?_ _) | (with_reducible refine Kd.C_drew ?_))); (case side2 => exact HC205_0.out); rintro e w62 ⟨rfl, hb⟩; refine ⟨_, rfl, ?_⟩; have n0_ := Aside0.mk (Kd.R_below (by (with_reducible repeat (first | apply Kd.R_alloc | apply Kd.R_drewN | apply Kd.R_drew)); exact HO_187000.out) hb); have n1_ := Aside0.mk (Kd.R_below (by (with_reducible repeat (first | apply Kd.R_alloc | apply Kd.R_drewN | apply Kd.R_drew)); exact HO_189002.out) hb); have n2_ := Aside0.mk (blk_below (g := gb184) (o := .cells #[.int .u8 a0_0, .bool a0_1, .slice (some ad192) l0_2.length c0_2] 65 (0, 0)) (by (with_reducible repeat (first | refine blk_drewN ?_ _ | refine blk_drew ?_ | refine blk_alloc ?_ _)); exact BK184.out) hb); have n3_ := Aside0.mk (blk_below (g := gb185) (o := .cells #[.slice none 0 0] 57 (0, 0)) (by (with_reducible repeat (first | refine blk_drewN ?_ _ | refine blk_drew ?_ | refine blk_alloc ?_ _)); exact BK185.out) hb); have n4_ := Aside0.mk (blk_below (g := gb186) (o := .cells #[u187000] 57 (0, 0)) (by (with_reducible repeat (first | refine blk_drewN ?_ _ | refine blk_drew ?_ | refine blk_alloc ?_ _)); exact BK186.out) hb); have n5_ := Aside0.mk (blk_below (g := gb188) (o := .cells #[.int .i64 t187, .slice none 0 0, u189002, .int .u8 2, .int .i64 0, .int .i64 0, .int .i64 0] 31 (0, 0)) (by (with_reducible repeat (first | refine blk_drewN ?_ _ | refine blk_drew ?_ | refine blk_alloc ?_ _)); exact BK188.out) hb); have n6_ := Aside0.mk (below_step (by repeat (first | (with_reducible first | exact HB.out | apply below_alloc | apply pw_below_drewN | apply below_drew1 | refine below_set ?_ GE184.out | refine below_set ?_ GE185.out | refine below_set ?_ GE186.out | refine below_set ?_ GE188.out) | exact HB.out)) hb); clear HO_187000; clear HO_189002; clear BK184; clear BK185; clear BK186; clear BK188; clear HB; have HO_187000 := n0_; have HO_189002 := n1_; have BK184 := n2_; have BK185 := n3_; have BK186 := n4_; have BK188 := n5_; have HB := n6_; clear n0_ n1_ n2_ n3_ n4_ n5_ n6_; (try clear hb); (try clear hb2); (try clear hk); (try clear hi); have hnb63 := NB188_185.out; have hnc63 := NB185_188.out; have hnb64 := NB188_186.out; have hnc64 := NB186_188.out; have hcz65_0 : w62.cell? ⟨gb188, 0, none⟩ = some (.int .i64 t187) := (blk_cell BK188.out 0).trans rfl; have hcz65_1 : w62.cell? ⟨gb188, 1, none⟩ = some (.slice none 0 0) := (blk_cell BK188.out 1).trans rfl; have hcz65_2 : w62.cell? ⟨gb188, 2, none⟩ = some (u189002) := (blk_cell BK188.out 2).trans rfl; have hcz65_3 : w62.cell? ⟨gb188, 3, none⟩ = some (.int .u8 2) := (blk_cell BK188.out 3).trans rfl; have hcz65_4 : w62.cell? ⟨gb188, 4, none⟩ = some (.int .i64 0) := (blk_cell BK188.out 4).trans rfl; have hcz65_5 : w62.cell? ⟨gb188, 5, none⟩ = some (.int .i64 0) := (blk_cell BK188.out 5).trans rfl; have hcz65_6 : w62.cell? ⟨gb188, 6, none⟩ = some (.int .i64 0) := (blk_cell BK188.out 6).trans rfl; have hfz65_0 := blk_frozen BK188.out 0; have hfz65_1 := blk_frozen BK188.out 1; have hfz65_2 := blk_frozen BK188.out 2; have hfz65_3 := blk_frozen BK188.out 3; have hfz65_4 := blk_frozen BK188.out 4; have hfz65_5 := blk_frozen BK188.out 5; have hfz65_6 := blk_frozen BK188.out 6) | ((with_reducible refine gate_store (t := 29) (p := 83) rfl ?_); refine store_event (t := 29) (p := 83) (v := ?vo_w66) (w1 := ((((w62.setCell ⟨gb188, 3, none⟩ (.int .u8 t206)).setCell ⟨gb188, 4, none⟩ (.int .i64 t207)).setCell ⟨gb188, 5, none⟩ (.int .i64 t208)).setCell ⟨gb188, 6, none⟩ (.int .i64 t209))) ?hg ?ho ?hn ?hr ?_; (case ho => rfl); (case hg => rfl); (case hn => rfl); (case hr => first | (go_simp; done) | (go_simp; rfl)); intro w66 hw; have n0_ : Aside0 (Kd.R k31 31 w66 w.heap.size (fun k_ => some k_ ≠ (u189002 : Value).ownBlock ∧ k_ ≠ gb188) u187000 x187000_1) := ⟨(by rw [hw]; exact (by (with_reducible repeat (first | apply Kd.R_alloc | apply Kd.R_drewN | apply Kd.R_drew)); exact Kd.R_mono (Kd.R_far (p := ⟨gb188, 6, none⟩) (Kd.R_far (p := ⟨gb188, 5, none⟩) (Kd.R_far (p := ⟨gb188, 4, none⟩) (Kd.R_far (p := ⟨gb188, 3, none⟩) (Kd.R_mono HO_187000.out (fun k_ hk => (⟨hk, hk.2⟩ : _ ∧ k_ ≠ gb188))) (fun _ hk => hk.2) (.int .u8 t206)) (fun _ hk => hk.2) (.int .i64 t207)) (fun _ hk => hk.2) (.int .i64 t208)) (fun _ hk => hk.2) (.int .i64 t209)) (fun _ hk => ⟨hk.1.1, hk.1.2⟩)))⟩; have n1_ : Aside0 (Kd.R k38 38 w66 w.heap.size (fun _ => True) u189002 x189002_4) := ⟨(by rw [hw]; exact (by (with_reducible repeat (first | apply Kd.R_alloc | apply Kd.R_drewN | apply Kd.R_drew)); exact Kd.R_mono (Kd.R_far (p := ⟨gb188, 6, none⟩) (Kd.R_far (p := ⟨gb188, 5, none⟩) (Kd.R_far (p := ⟨gb188, 4, none⟩) (Kd.R_far (p := ⟨gb188, 3, none⟩) (Kd.R_types HO_189002.out BK188.out (by decide)) (fun _ hk => hk.2) (.int .u8 t206)) (fun _ hk => hk.2) (.int .i64 t207)) (fun _ hk => hk.2) (.int .i64 t208)) (fun _ hk => hk.2) (.int .i64 t209)) (fun _ hk => trivial)))⟩; have n2_ : Aside0 (w66.heap[gb184]? = some (.cells #[.int .u8 a0_0, .bool a0_1, .slice (some ad192) l0_2.length c0_2] 65 (0, 0))) := ⟨(by rw [hw]; exact (by (with_reducible repeat (first | refine blk_drewN ?_ _ | refine blk_drew ?_ | refine blk_alloc ?_ _)); refine blk_far ?_ NB184_188.out _; (with_reducible repeat (first | refine blk_drewN ?_ _ | refine blk_drew ?_ | refine blk_alloc ?_ _)); refine blk_far ?_ NB184_188.out _; (with_reducible repeat (first | refine blk_drewN ?_ _ | refine blk_drew ?_ | refine blk_alloc ?_ _)); refine blk_far ?_ NB184_188.out _; (with_reducible repeat (first | refine blk_drewN ?_ _ | refine blk_drew ?_ | refine blk_alloc ?_ _)); refine blk_far ?_ NB184_188.out _; (with_reducible repeat (first | refine blk_drewN ?_ _ | refine blk_drew ?_ | refine blk_alloc ?_ _)); exact BK184.out))⟩; have n3_ : Aside0 (w66.heap[gb185]? = some (.cells #[.slice none 0 0] 57 (0, 0))) := ⟨(by rw [hw]; exact (by (with_reducible repeat (first | refine blk_drewN ?_ _ | refine blk_drew ?_ | refine blk_alloc ?_ _)); refine blk_far ?_ NB185_188.out _; (with_reducible repeat (first | refine blk_drewN ?_ _ | refine blk_drew ?_ | refine blk_alloc ?_ _)); refine blk_far ?_ NB185_188.out _; (with_reducible repeat (first | refine blk_drewN ?_ _ | refine blk_drew ?_ | refine blk_alloc ?_ _)); refine blk_far ?_ NB185_188.out _; (with_reducible repeat (first | refine blk_drewN ?_ _ | refine blk_drew ?_ | refine blk_alloc ?_ _)); refine blk_far ?_ NB185_188.out _; (with_reducible repeat (first | refine blk_drewN ?_ _ | refine blk_drew ?_ | refine blk_alloc ?_ _)); exact BK185.out))⟩; have n4_ : Aside0 (w66.heap[gb186]? = some (.cells #[u187000] 57 (0, 0))) := ⟨(by rw [hw]; exact (by (with_reducible repeat (first | refine blk_drewN ?_ _ | refine blk_drew ?_ | refine blk_alloc ?_ _)); refine blk_far ?_ NB186_188.out _; (with_reducible repeat (first | refine blk_drewN ?_ _ | refine blk_drew ?_ | refine blk_alloc ?_ _)); refine blk_far ?_ NB186_188.out _; (with_reducible repeat (first | refine blk_drewN ?_ _ | refine blk_drew ?_ | refine blk_alloc ?_ _)); refine blk_far ?_ NB186_188.out _; (with_reducible repeat (first | refine blk_drewN ?_ _ | refine blk_drew ?_ | refine blk_alloc ?_ _)); refine blk_far ?_ NB186_188.out _; (with_reducible repeat (first | refine blk_drewN ?_ _ | refine blk_drew ?_ | refine blk_alloc ?_ _)); exact BK186.out))⟩; have n5_ : Aside0 (w66.heap[gb188]? = some (.cells #[.int .i64 t187, .slice none 0 0, u189002, .int .u8 t206, .int .i64 t207, .int .i64 t208, .int .i64 t209] 31 (0, 0))) := ⟨(by rw [hw]; exact (by (with_reducible repeat (first | refine blk_drewN ?_ _ | refine blk_drew ?_ | refine blk_alloc ?_ _)); refine blk_put (cs := #[.int .i64 t187, .slice none 0 0, u189002, .int .u8 t206, .int .i64 t207, .int .i64 t208, .int .i64 0]) ?_ 6 _ rfl; (with_reducible repeat (first | refine blk_drewN ?_ _ | refine blk_drew ?_ | refine blk_alloc ?_ _)); refine blk_put (cs := #[.int .i64 t187, .slice none 0 0, u189002, .int .u8 t206, .int .i64 t207, .int .i64 0, .int .i64 0]) ?_ 5 _ rfl; (with_reducible repeat (first | refine blk_drewN ?_ _ | refine blk_drew ?_ | refine blk_alloc ?_ _)); refine blk_put (cs := #[.int .i64 t187, .slice none 0 0, u189002, .int .u8 t206, .int .i64 0, .int .i64 0, .int .i64 0]) ?_ 4 _ rfl; (with_reducible repeat (first | refine blk_drewN ?_ _ | refine blk_drew ?_ | refine blk_alloc ?_ _)); refine blk_put (cs := #[.int .i64 t187, .slice none 0 0, u189002, .int .u8 2, .int .i64 0, .int .i64 0, .int .i64 0]) ?_ 3 _ rfl; (with_reducible repeat (first | refine blk_drewN ?_ _ | refine blk_drew ?_ | refine blk_alloc ?_ _)); exact BK188.out))⟩; have n6_ : Aside0 (Below w.heap.size w w66) := ⟨(by rw [hw]; exact (by repeat (first | (with_reducible first | exact HB.out | apply below_alloc | apply pw_below_drewN | apply below_drew1 | refine below_set ?_ GE184.out | refine below_set ?_ GE185.out | refine below_set ?_ GE186.out | refine below_set ?_ GE188.out) | exact HB.out)))⟩; clear hw; clear HO_187000; clear HO_189002; clear BK184; clear BK185; clear BK186; clear BK188; clear HB; have HO_187000 := n0_; have HO_189002 := n1_; have BK184 := n2_; have BK185 := n3_; have BK186 := n4_; have BK188 := n5_; have HB := n6_; clear n0_ n1_ n2_ n3_ n4_ n5_ n6_; have hnb67 := NB186_185.out; have hnc67 := NB185_186.out; have hcz68_0 : w66.cell? ⟨gb186, 0, none⟩ = some (u187000) := (blk_cell BK186.out 0).trans rfl; have hfz68_0 := blk_frozen BK186.out 0; have hcz69_0 : w66.cell? ⟨gb188, 0, none⟩ = some (.int .i64 t187) := (blk_cell BK188.out 0).trans rfl; have hcz69_1 : w66.cell? ⟨gb188, 1, none⟩ = some (.slice none 0 0) := (blk_cell BK188.out 1).trans rfl; have hcz69_2 : w66.cell? ⟨gb188, 2, none⟩ = some (u189002) := (blk_cell BK188.out 2).trans rfl; have hcz69_3 : w66.cell? ⟨gb188, 3, none⟩ = some (.int .u8 t206) := (blk_cell BK188.out 3).trans rfl; have hcz69_4 : w66.cell? ⟨gb188, 4, none⟩ = some (.int .i64 t207) := (blk_cell BK188.out 4).trans rfl; have hcz69_5 : w66.cell? ⟨gb188, 5, none⟩ = some (.int .i64 t208) := (blk_cell BK188.out 5).trans rfl; have hcz69_6 : w66.cell? ⟨gb188, 6, none⟩ = some (.int .i64 t209) := (blk_cell BK188.out 6).trans rfl; have hfz69_0 := blk_frozen BK188.out 0; have hfz69_1 := blk_frozen BK188.out 1; have hfz69_2 := blk_frozen BK188.out 2; have hfz69_3 := blk_frozen BK188.out 3; have hfz69_4 := blk_frozen BK188.out 4; have hfz69_5 := blk_frozen BK188.out 5; have hfz69_6 := blk_frozen BK188.out 6; obtain ⟨Ao71, co71, eo71⟩ := Kd.R_slice HO_189002.out; subst eo71) | ((with_reducible refine gate_builtin (b := .append) (xs := #[.tmp 89, .tmp 91]) rfl ?_); at_builtin; refine Kd.R_append k31 (w0 := w) w.heap.size rfl (.tmp 89) (.tmp 91) 55 31 (.agg #[(.int .i64 0), (.slice none 0 0), (.slice none 0 0), (.int .u8 0), (.int .i64 0), (.int .i64 0), (.int .i64 0)]) 88 rfl Try.underlying55 info31 rfl (by decide) (by omega) u187000 x187000_1 (⟨t187, ([] : List (S147)), x189002_4, (⟨t206, t207, t208, t209⟩ : S29)⟩ : S31) [.int .i64 t187, .slice none 0 0, .slice Ao71 x189002_4.length co71, .int .u8 t206, .int .i64 t207, .int .i64 t208, .int .i64 t209] (fun k_ => k_ ≠ gb188) (fun k_ => ((fun k_ => k_ ≠ gb188)) k_ ∧ some k_ ≠ (u187000 : Value).ownBlock) rfl rfl ?aP (fun _ hk => hk) ?aF ?aO ?aB ?aS ?aL ?_; (case aP => exact k31_mkM _ _ _ (⟨t187, ([] : List (S147)), x189002_4, (⟨t206, t207, t208, t209⟩ : S29)⟩ : S31) (Kd.R_nil _ _ _ _ _) (Kd.R_mono (Kd.R_types (Kd.R_apart' (HO_189002.out) (Kd.R_typed HO_187000.out) (by decide)) BK188.out (by decide)) (fun k_ hk => ⟨hk.2, hk.1.2⟩))); (case aB => exact (by repeat (first | (with_reducible first | exact HB.out | apply below_alloc | apply pw_below_drewN | apply below_drew1 | refine below_set ?_ GE184.out | refine below_set ?_ GE185.out | refine below_set ?_ GE186.out | refine below_set ?_ GE188.out) | exact HB.out))); (case aF => exact (fun k_ hk => Kd.freshB (g := gb188) (o := .cells #[.int .i64 t187, .slice none 0 0, .slice Ao71 x189002_4.length co71, .int .u8 t206, .int .i64 t207, .int .i64 t208, .int .i64 t209] 31 (0, 0)) (by (with_reducible repeat (first | refine blk_drewN ?_ _ | refine blk_drew ?_ | refine blk_alloc ?_ _)); exact BK188.out) k_ hk)); (case aO => exact (by (with_reducible repeat (first | apply Kd.R_alloc | apply Kd.R_drewN | apply Kd.R_drew)); exact Kd.R_mono HO_187000.out (fun _ hk => hk.2))); (case aS => exact (below_size (by repeat (first | (with_reducible first | exact HB.out | apply below_alloc | apply pw_below_drewN | apply below_drew1 | refine below_set ?_ GE184.out | refine below_set ?_ GE185.out | refine below_set ?_ GE186.out | refine below_set ?_ GE188.out) | exact HB.out)))); (case aL => have := LMc57.out; omega); intro v211 w70 ho hb hg hat; rw [← Ny210.out] at ho; have n0_ := Aside0.mk (blk_grown (g := gb184) (o := .cells #[.int .u8 a0_0, .bool a0_1, .slice (some ad192) l0_2.length c0_2] 65 (0, 0)) (by (with_reducible repeat (first | refine blk_drewN ?_ _ | refine blk_drew ?_ | refine blk_alloc ?_ _)); exact BK184.out) hg (Kd.R_ne HO_187000.out BK184.out (by decide))); have n1_ := Aside0.mk (blk_grown (g := gb185) (o := .cells #[.slice none 0 0] 57 (0, 0)) (by (with_reducible repeat (first | refine blk_drewN ?_ _ | refine blk_drew ?_ | refine blk_alloc ?_ _)); exact BK185.out) hg (Kd.R_ne HO_187000.out BK185.out (by decide))); have n2_ := Aside0.mk (blk_grown (g := gb186) (o := .cells #[u187000] 57 (0, 0)) (by (with_reducible repeat (first | refine blk_drewN ?_ _ | refine blk_drew ?_ | refine blk_alloc ?_ _)); exact BK186.out) hg (Kd.R_ne HO_187000.out BK186.out (by decide))); have n3_ := Aside0.mk (blk_grown (g := gb188) (o := .cells #[.int .i64 t187, .slice none 0 0, .slice Ao71 x189002_4.length co71, .int .u8 t206, .int .i64 t207, .int .i64 t208, .int .i64 t209] 31 (0, 0)) (by (with_reducible repeat (first | refine blk_drewN ?_ _ | refine blk_drew ?_ | refine blk_alloc ?_ _)); exact BK188.out) hg (Kd.R_away HO_187000.out (fun _ hk => hk.2))); have n4_ := Aside0.mk (hb); have n5_ := Aside0.mk (ho); clear BK184; clear BK185; clear BK186; clear BK188; clear HB; clear HO_187000; clear HO_189002; have BK184 := n0_; have BK185 := n1_; have BK186 := n2_; have BK188 := n3_; have HB := n4_; have HO212 := n5_; clear n0_ n1_ n2_ n3_ n4_ n5_; clear ho hb hg hat; obtain ⟨Ao72, co72, eo72⟩ := Kd.R_slice HO212.out; subst eo72; have hcz73_0 : w70.cell? ⟨gb186, 0, none⟩ = some (u187000) := (blk_cell BK186.out 0).trans rfl; have hfz73_0 := blk_frozen BK186.out 0))
                                go_roundg k4
                                case measure => have := HK1.out; have := HJ8.out; have := HJ19.out; have := HK4.out; omega
                                case rel => exact ⟨(wrap64 (x21_1 + 1)), (y210), (.slice Ao72 y210.length co72), (by first | rfl | (simp; done) | (simp [*]; done)), H', ⟨by have := HK1.out; have := HJ8.out; have := HJ19.out; have := HK4.out; omega⟩, ⟨by (with_reducible repeat (first | apply Kd.R_alloc | apply Kd.R_drewN | apply Kd.R_drew)); exact Kd.R_mono (Kd.R_far (p := ⟨gb186, 0, none⟩) (Kd.R_types HO212.out BK186.out (by decide)) (fun _ hk => hk.2) (.slice Ao72 y210.length co72)) (fun _ hk => trivial)⟩, ⟨by (with_reducible repeat (first | refine blk_drewN ?_ _ | refine blk_drew ?_ | refine blk_alloc ?_ _)); refine blk_far ?_ NB184_186.out _; (with_reducible repeat (first | refine blk_drewN ?_ _ | refine blk_drew ?_ | refine blk_alloc ?_ _)); exact BK184.out⟩, ⟨by (with_reducible repeat (first | refine blk_drewN ?_ _ | refine blk_drew ?_ | refine blk_alloc ?_ _)); refine blk_far ?_ NB185_186.out _; (with_reducible repeat (first | refine blk_drewN ?_ _ | refine blk_drew ?_ | refine blk_alloc ?_ _)); exact BK185.out⟩, ⟨by (with_reducible repeat (first | refine blk_drewN ?_ _ | refine blk_drew ?_ | refine blk_alloc ?_ _)); refine blk_put (cs := #[u187000]) ?_ 0 _ rfl; (with_reducible repeat (first | refine blk_drewN ?_ _ | refine blk_drew ?_ | refine blk_alloc ?_ _)); exact BK186.out⟩, ⟨by repeat (first | (with_reducible first | exact HB.out | apply below_alloc | apply pw_below_drewN | apply below_drew1 | refine below_set ?_ GE184.out | refine below_set ?_ GE185.out | refine below_set ?_ GE186.out | refine below_set ?_ GE188.out) | exact HB.out)⟩⟩
                              · rw [if_neg c57] at H
                                exact absurd H (by simp)
                            · rw [if_neg c55] at H
                              exact absurd H (by simp)
                          · rw [if_neg c54] at H
                            exact absurd H (by simp)
                  · rw [if_neg c32] at H
                    exact absurd H (by simp)
                · rw [if_neg c31] at H
                  have c31b0 : decide (x21_1 < (l0_2.length : Int)) = false := decide_eq_false c31
                  clear c31
                  by_cases c74 : a0_1 = true
                  · subst c74
                    have H1 : (if x187000_1.length < 1599289640401 then (refinerylaw03_Small_Program.l0 kj19 (wrap64 (1 + (wrap64 (Int.tmod a0_0 6)))) ji2 ji2 (wrap64 (x21_1 + 1)) a0_0 true l0_2 (x187000_1 ++ [(⟨t187, ([] : List (S147)), x189002_19, (⟨3, 0, 0, 0⟩ : S29)⟩ : S31)])) else (none)) = some r := by rw [if_pos rfl] at H; exact H
                    clear H
                    have H := H1
                    clear H1
                    by_cases c75 : x187000_1.length < 1599289640401
                    · rw [if_pos c75] at H
                      have LMc75 := Aside0.mk c75
                      clear c75
                      obtain ⟨y213, hy213⟩ : ∃ y_ : List (S31), y_ = (x187000_1 ++ [(⟨t187, ([] : List (S147)), x189002_19, (⟨3, 0, 0, 0⟩ : S29)⟩ : S31)]) := ⟨_, rfl⟩
                      replace H : (refinerylaw03_Small_Program.l0 kj19 (wrap64 (1 + (wrap64 (Int.tmod a0_0 6)))) ji2 ji2 (wrap64 (x21_1 + 1)) a0_0 true l0_2 y213) = some r := by first | (rw [hy213]; with_reducible exact H) | (have H2_ := (Option.bind_some _ _).symm.trans H; rw [hy213]; with_reducible exact H2_) | (have H2_ := (Option.bind_some _ _).symm.trans H; with_reducible exact H2_) | with_reducible exact H | (rw [hy213]; exact H) | exact H
                      have Ny213 := Aside0.mk hy213
                      clear hy213
                      have H' := Aside0.mk H
                      clear H
                      have hnb76 := NB184_185.out
                      have hnc76 := NB185_184.out
                      have hnb77 := NB184_186.out
                      have hnc77 := NB186_184.out
                      have hnb78 := NB184_188.out
                      have hnc78 := NB188_184.out
                      have hcz79_0 : wc.cell? ⟨gb184, 0, none⟩ = some (.int .u8 a0_0) := (blk_cell BK184.out 0).trans rfl
                      have hcz79_1 : wc.cell? ⟨gb184, 1, none⟩ = some (.bool true) := (blk_cell BK184.out 1).trans rfl
                      have hcz79_2 : wc.cell? ⟨gb184, 2, none⟩ = some (.slice A0_2 l0_2.length c0_2) := (blk_cell BK184.out 2).trans rfl
                      have hfz79_0 := blk_frozen BK184.out 0
                      have hfz79_1 := blk_frozen BK184.out 1
                      have hfz79_2 := blk_frozen BK184.out 2
                      have hnb80 := NB188_185.out
                      have hnc80 := NB185_188.out
                      have hnb81 := NB188_186.out
                      have hnc81 := NB186_188.out
                      have hcz82_0 : wc.cell? ⟨gb188, 0, none⟩ = some (.int .i64 t187) := (blk_cell BK188.out 0).trans rfl
                      have hcz82_1 : wc.cell? ⟨gb188, 1, none⟩ = some (.slice none 0 0) := (blk_cell BK188.out 1).trans rfl
                      have hcz82_2 : wc.cell? ⟨gb188, 2, none⟩ = some (u189002) := (blk_cell BK188.out 2).trans rfl
                      have hcz82_3 : wc.cell? ⟨gb188, 3, none⟩ = some (.int .u8 2) := (blk_cell BK188.out 3).trans rfl
                      have hcz82_4 : wc.cell? ⟨gb188, 4, none⟩ = some (.int .i64 0) := (blk_cell BK188.out 4).trans rfl
                      have hcz82_5 : wc.cell? ⟨gb188, 5, none⟩ = some (.int .i64 0) := (blk_cell BK188.out 5).trans rfl
                      have hcz82_6 : wc.cell? ⟨gb188, 6, none⟩ = some (.int .i64 0) := (blk_cell BK188.out 6).trans rfl
                      have hfz82_0 := blk_frozen BK188.out 0
                      have hfz82_1 := blk_frozen BK188.out 1
                      have hfz82_2 := blk_frozen BK188.out 2
                      have hfz82_3 := blk_frozen BK188.out 3
                      have hfz82_4 := blk_frozen BK188.out 4
                      have hfz82_5 := blk_frozen BK188.out 5
                      have hfz82_6 := blk_frozen BK188.out 6
                      go_wp2_with (first | ((with_reducible refine gate_store (t := 29) (p := 87) rfl ?_); refine store_event (t := 29) (p := 87) (v := ?vo_w83) (w1 := ((((wc.setCell ⟨gb188, 3, none⟩ (.int .u8 3)).setCell ⟨gb188, 4, none⟩ (.int .i64 0)).setCell ⟨gb188, 5, none⟩ (.int .i64 0)).setCell ⟨gb188, 6, none⟩ (.int .i64 0))) ?hg ?ho ?hn ?hr ?_; (case ho => rfl); (case hg => rfl); (case hn => rfl); (case hr => first | (go_simp; done) | (go_simp; rfl)); intro w83 hw; have n0_ : Aside0 (Kd.R k31 31 w83 w.heap.size (fun k_ => some k_ ≠ (u189002 : Value).ownBlock ∧ k_ ≠ gb188) u187000 x187000_1) := ⟨(by rw [hw]; exact (by (with_reducible repeat (first | apply Kd.R_alloc | apply Kd.R_drewN | apply Kd.R_drew)); exact Kd.R_mono (Kd.R_far (p := ⟨gb188, 6, none⟩) (Kd.R_far (p := ⟨gb188, 5, none⟩) (Kd.R_far (p := ⟨gb188, 4, none⟩) (Kd.R_far (p := ⟨gb188, 3, none⟩) (Kd.R_mono HO_187000.out (fun k_ hk => (⟨hk, hk.2⟩ : _ ∧ k_ ≠ gb188))) (fun _ hk => hk.2) (.int .u8 3)) (fun _ hk => hk.2) (.int .i64 0)) (fun _ hk => hk.2) (.int .i64 0)) (fun _ hk => hk.2) (.int .i64 0)) (fun _ hk => ⟨hk.1.1, hk.1.2⟩)))⟩; have n1_ : Aside0 (Kd.R k38 38 w83 w.heap.size (fun _ => True) u189002 x189002_19) := ⟨(by rw [hw]; exact (by (with_reducible repeat (first | apply Kd.R_alloc | apply Kd.R_drewN | apply Kd.R_drew)); exact Kd.R_mono (Kd.R_far (p := ⟨gb188, 6, none⟩) (Kd.R_far (p := ⟨gb188, 5, none⟩) (Kd.R_far (p := ⟨gb188, 4, none⟩) (Kd.R_far (p := ⟨gb188, 3, none⟩) (Kd.R_types HO_189002.out BK188.out (by decide)) (fun _ hk => hk.2) (.int .u8 3)) (fun _ hk => hk.2) (.int .i64 0)) (fun _ hk => hk.2) (.int .i64 0)) (fun _ hk => hk.2) (.int .i64 0)) (fun _ hk => trivial)))⟩; have n2_ : Aside0 (w83.heap[gb184]? = some (.cells #[.int .u8 a0_0, .bool true, .slice A0_2 l0_2.length c0_2] 65 (0, 0))) := ⟨(by rw [hw]; exact (by (with_reducible repeat (first | refine blk_drewN ?_ _ | refine blk_drew ?_ | refine blk_alloc ?_ _)); refine blk_far ?_ NB184_188.out _; (with_reducible repeat (first | refine blk_drewN ?_ _ | refine blk_drew ?_ | refine blk_alloc ?_ _)); refine blk_far ?_ NB184_188.out _; (with_reducible repeat (first | refine blk_drewN ?_ _ | refine blk_drew ?_ | refine blk_alloc ?_ _)); refine blk_far ?_ NB184_188.out _; (with_reducible repeat (first | refine blk_drewN ?_ _ | refine blk_drew ?_ | refine blk_alloc ?_ _)); refine blk_far ?_ NB184_188.out _; (with_reducible repeat (first | refine blk_drewN ?_ _ | refine blk_drew ?_ | refine blk_alloc ?_ _)); exact BK184.out))⟩; have n3_ : Aside0 (w83.heap[gb185]? = some (.cells #[.slice none 0 0] 57 (0, 0))) := ⟨(by rw [hw]; exact (by (with_reducible repeat (first | refine blk_drewN ?_ _ | refine blk_drew ?_ | refine blk_alloc ?_ _)); refine blk_far ?_ NB185_188.out _; (with_reducible repeat (first | refine blk_drewN ?_ _ | refine blk_drew ?_ | refine blk_alloc ?_ _)); refine blk_far ?_ NB185_188.out _; (with_reducible repeat (first | refine blk_drewN ?_ _ | refine blk_drew ?_ | refine blk_alloc ?_ _)); refine blk_far ?_ NB185_188.out _; (with_reducible repeat (first | refine blk_drewN ?_ _ | refine blk_drew ?_ | refine blk_alloc ?_ _)); refine blk_far ?_ NB185_188.out _; (with_reducible repeat (first | refine blk_drewN ?_ _ | refine blk_drew ?_ | refine blk_alloc ?_ _)); exact BK185.out))⟩; have n4_ : Aside0 (w83.heap[gb186]? = some (.cells #[u187000] 57 (0, 0))) := ⟨(by rw [hw]; exact (by (with_reducible repeat (first | refine blk_drewN ?_ _ | refine blk_drew ?_ | refine blk_alloc ?_ _)); refine blk_far ?_ NB186_188.out _; (with_reducible repeat (first | refine blk_drewN ?_ _ | refine blk_drew ?_ | refine blk_alloc ?_ _)); refine blk_far ?_ NB186_188.out _; (with_reducible repeat (first | refine blk_drewN ?_ _ | refine blk_drew ?_ | refine blk_alloc ?_ _)); refine blk_far ?_ NB186_188.out _; (with_reducible repeat (first | refine blk_drewN ?_ _ | refine blk_drew ?_ | refine blk_alloc ?_ _)); refine blk_far ?_ NB186_188.out _; (with_reducible repeat (first | refine blk_drewN ?_ _ | refine blk_drew ?_ | refine blk_alloc ?_ _)); exact BK186.out))⟩; have n5_ : Aside0 (w83.heap[gb188]? = some (.cells #[.int .i64 t187, .slice none 0 0, u189002, .int .u8 3, .int .i64 0, .int .i64 0, .int .i64 0] 31 (0, 0))) := ⟨(by rw [hw]; exact (by (with_reducible repeat (first | refine blk_drewN ?_ _ | refine blk_drew ?_ | refine blk_alloc ?_ _)); refine blk_put (cs := #[.int .i64 t187, .slice none 0 0, u189002, .int .u8 3, .int .i64 0, .int .i64 0, .int .i64 0]) ?_ 6 _ rfl; (with_reducible repeat (first | refine blk_drewN ?_ _ | refine blk_drew ?_ | refine blk_alloc ?_ _)); refine blk_put (cs := #[.int .i64 t187, .slice none 0 0, u189002, .int .u8 3, .int .i64 0, .int .i64 0, .int .i64 0]) ?_ 5 _ rfl; (with_reducible repeat (first | refine blk_drewN ?_ _ | refine blk_drew ?_ | refine blk_alloc ?_ _)); refine blk_put (cs := #[.int .i64 t187, .slice none 0 0, u189002, .int .u8 3, .int .i64 0, .int .i64 0, .int .i64 0]) ?_ 4 _ rfl; (with_reducible repeat (first | refine blk_drewN ?_ _ | refine blk_drew ?_ | refine blk_alloc ?_ _)); refine blk_put (cs := #[.int .i64 t187, .slice none 0 0, u189002, .int .u8 2, .int .i64 0, .int .i64 0, .int .i64 0]) ?_ 3 _ rfl; (with_reducible repeat (first | refine blk_drewN ?_ _ | refine blk_drew ?_ | refine blk_alloc ?_ _)); exact BK188.out))⟩; have n6_ : Aside0 (Below w.heap.size w w83) := ⟨(by rw [hw]; exact (by repeat (first | (with_reducible first | exact HB.out | apply below_alloc | apply pw_below_drewN | apply below_drew1 | refine below_set ?_ GE184.out | refine below_set ?_ GE185.out | refine below_set ?_ GE186.out | refine below_set ?_ GE188.out) | exact HB.out)))⟩; clear hw; clear HO_187000; clear HO_189002; clear BK184; clear BK185; clear BK186; clear BK188; clear HB; have HO_187000 := n0_; have HO_189002 := n1_; have BK184 := n2_; have BK185 := n3_; have BK186 := n4_; have BK188 := n5_; have HB := n6_; clear n0_ n1_ n2_ n3_ n4_ n5_ n6_; have hnb84 := NB186_185.out; have hnc84 := NB185_186.out; have hcz85_0 : w83.cell? ⟨gb186, 0, none⟩ = some (u187000) := (blk_cell BK186.out 0).trans rfl; have hfz85_0 := blk_frozen BK186.out 0; have hcz86_0 : w83.cell? ⟨gb188, 0, none⟩ = some (.int .i64 t187) := (blk_cell BK188.out 0).trans rfl; have hcz86_1 : w83.cell? ⟨gb188, 1, none⟩ = some (.slice none 0 0) := (blk_cell BK188.out 1).trans rfl; have hcz86_2 : w83.cell? ⟨gb188, 2, none⟩ = some (u189002) := (blk_cell BK188.out 2).trans rfl; have hcz86_3 : w83.cell? ⟨gb188, 3, none⟩ = some (.int .u8 3) := (blk_cell BK188.out 3).trans rfl; have hcz86_4 : w83.cell? ⟨gb188, 4, none⟩ = some (.int .i64 0) := (blk_cell BK188.out 4).trans rfl; have hcz86_5 : w83.cell? ⟨gb188, 5, none⟩ = some (.int .i64 0) := (blk_cell BK188.out 5).trans rfl; have hcz86_6 : w83.cell? ⟨gb188, 6, none⟩ = some (.int .i64 0) := (blk_cell BK188.out 6).trans rfl; have hfz86_0 := blk_frozen BK188.out 0; have hfz86_1 := blk_frozen BK188.out 1; have hfz86_2 := blk_frozen BK188.out 2; have hfz86_3 := blk_frozen BK188.out 3; have hfz86_4 := blk_frozen BK188.out 4; have hfz86_5 := blk_frozen BK188.out 5; have hfz86_6 := blk_frozen BK188.out 6; obtain ⟨Ao88, co88, eo88⟩ := Kd.R_slice HO_189002.out; subst eo88) | ((with_reducible refine gate_builtin (b := .append) (xs := #[.tmp 89, .tmp 91]) rfl ?_); at_builtin; refine Kd.R_append k31 (w0 := w) w.heap.size rfl (.tmp 89) (.tmp 91) 55 31 (.agg #[(.int .i64 0), (.slice none 0 0), (.slice none 0 0), (.int .u8 0), (.int .i64 0), (.int .i64 0), (.int .i64 0)]) 88 rfl Try.underlying55 info31 rfl (by decide) (by omega) u187000 x187000_1 (⟨t187, ([] : List (S147)), x189002_19, (⟨3, 0, 0, 0⟩ : S29)⟩ : S31) [.int .i64 t187, .slice none 0 0, .slice Ao88 x189002_19.length co88, .int .u8 3, .int .i64 0, .int .i64 0, .int .i64 0] (fun k_ => k_ ≠ gb188) (fun k_ => ((fun k_ => k_ ≠ gb188)) k_ ∧ some k_ ≠ (u187000 : Value).ownBlock) rfl rfl ?aP (fun _ hk => hk) ?aF ?aO ?aB ?aS ?aL ?_; (case aP => exact k31_mkM _ _ _ (⟨t187, ([] : List (S147)), x189002_19, (⟨3, 0, 0, 0⟩ : S29)⟩ : S31) (Kd.R_nil _ _ _ _ _) (Kd.R_mono (Kd.R_types (Kd.R_apart' (HO_189002.out) (Kd.R_typed HO_187000.out) (by decide)) BK188.out (by decide)) (fun k_ hk => ⟨hk.2, hk.1.2⟩))); (case aB => exact (by repeat (first | (with_reducible first | exact HB.out | apply below_alloc | apply pw_below_drewN | apply below_drew1 | refine below_set ?_ GE184.out | refine below_set ?_ GE185.out | refine below_set ?_ GE186.out | refine below_set ?_ GE188.out) | exact HB.out))); (case aF => exact (fun k_ hk => Kd.freshB (g := gb188) (o := .cells #[.int .i64 t187, .slice none 0 0, .slice Ao88 x189002_19.length co88, .int .u8 3, .int .i64 0, .int .i64 0, .int .i64 0] 31 (0, 0)) (by (with_reducible repeat (first | refine blk_drewN ?_ _ | refine blk_drew ?_ | refine blk_alloc ?_ _)); exact BK188.out) k_ hk)); (case aO => exact (by (with_reducible repeat (first | apply Kd.R_alloc | apply Kd.R_drewN | apply Kd.R_drew)); exact Kd.R_mono HO_187000.out (fun _ hk => hk.2))); (case aS => exact (below_size (by repeat (first | (with_reducible first | exact HB.out | apply below_alloc | apply pw_below_drewN | apply below_drew1 | refine below_set ?_ GE184.out | refine below_set ?_ GE185.out | refine below_set ?_ GE186.out | refine below_set ?_ GE188.out) | exact HB.out)))); (case aL => have := LMc75.out; omega); intro v214 w87 ho hb hg hat; rw [← Ny213.out] at ho; have n0_ := Aside0.mk (blk_grown (g := gb184) (o := .cells #[.int .u8 a0_0, .bool true, .slice A0_2 l0_2.length c0_2] 65 (0, 0)) (by (with_reducible repeat (first | refine blk_drewN ?_ _ | refine blk_drew ?_ | refine blk_alloc ?_ _)); exact BK184.out) hg (Kd.R_ne HO_187000.out BK184.out (by decide))); have n1_ := Aside0.mk (blk_grown (g := gb185) (o := .cells #[.slice none 0 0] 57 (0, 0)) (by (with_reducible repeat (first | refine blk_drewN ?_ _ | refine blk_drew ?_ | refine blk_alloc ?_ _)); exact BK185.out) hg (Kd.R_ne HO_187000.out BK185.out (by decide))); have n2_ := Aside0.mk (blk_grown (g := gb186) (o := .cells #[u187000] 57 (0, 0)) (by (with_reducible repeat (first | refine blk_drewN ?_ _ | refine blk_drew ?_ | refine blk_alloc ?_ _)); exact BK186.out) hg (Kd.R_ne HO_187000.out BK186.out (by decide))); have n3_ := Aside0.mk (blk_grown (g := gb188) (o := .cells #[.int .i64 t187, .slice none 0 0, .slice Ao88 x189002_19.length co88, .int .u8 3, .int .i64 0, .int .i64 0, .int .i64 0] 31 (0, 0)) (by (with_reducible repeat (first | refine blk_drewN ?_ _ | refine blk_drew ?_ | refine blk_alloc ?_ _)); exact BK188.out) hg (Kd.R_away HO_187000.out (fun _ hk => hk.2))); have n4_ := Aside0.mk (hb); have n5_ := Aside0.mk (ho); clear BK184; clear BK185; clear BK186; clear BK188; clear HB; clear HO_187000; clear HO_189002; have BK184 := n0_; have BK185 := n1_; have BK186 := n2_; have BK188 := n3_; have HB := n4_; have HO215 := n5_; clear n0_ n1_ n2_ n3_ n4_ n5_; clear ho hb hg hat; obtain ⟨Ao89, co89, eo89⟩ := Kd.R_slice HO215.out; subst eo89; have hcz90_0 : w87.cell? ⟨gb186, 0, none⟩ = some (u187000) := (blk_cell BK186.out 0).trans rfl; have hfz90_0 := blk_frozen BK186.out 0))
                      go_roundg kj19
                      case measure => have := HK1.out; have := HJ8.out; have := HJ19.out; omega
                      case rel => exact ⟨(wrap64 (x21_1 + 1)), (y213), (.slice Ao89 y213.length co89), (by first | rfl | (simp; done) | (simp [*]; done)), H', ⟨by have := HK1.out; have := HJ8.out; have := HJ19.out; omega⟩, ⟨by (with_reducible repeat (first | apply Kd.R_alloc | apply Kd.R_drewN | apply Kd.R_drew)); exact Kd.R_mono (Kd.R_far (p := ⟨gb186, 0, none⟩) (Kd.R_types HO215.out BK186.out (by decide)) (fun _ hk => hk.2) (.slice Ao89 y213.length co89)) (fun _ hk => trivial)⟩, ⟨by (with_reducible repeat (first | refine blk_drewN ?_ _ | refine blk_drew ?_ | refine blk_alloc ?_ _)); refine blk_far ?_ NB184_186.out _; (with_reducible repeat (first | refine blk_drewN ?_ _ | refine blk_drew ?_ | refine blk_alloc ?_ _)); exact BK184.out⟩, ⟨by (with_reducible repeat (first | refine blk_drewN ?_ _ | refine blk_drew ?_ | refine blk_alloc ?_ _)); refine blk_far ?_ NB185_186.out _; (with_reducible repeat (first | refine blk_drewN ?_ _ | refine blk_drew ?_ | refine blk_alloc ?_ _)); exact BK185.out⟩, ⟨by (with_reducible repeat (first | refine blk_drewN ?_ _ | refine blk_drew ?_ | refine blk_alloc ?_ _)); refine blk_put (cs := #[u187000]) ?_ 0 _ rfl; (with_reducible repeat (first | refine blk_drewN ?_ _ | refine blk_drew ?_ | refine blk_alloc ?_ _)); exact BK186.out⟩, ⟨by repeat (first | (with_reducible first | exact HB.out | apply below_alloc | apply pw_below_drewN | apply below_drew1 | refine below_set ?_ GE184.out | refine below_set ?_ GE185.out | refine below_set ?_ GE186.out | refine below_set ?_ GE188.out) | exact HB.out)⟩⟩
                    · rw [if_neg c75] at H
                      exact absurd H (by simp)
                  · replace c74 := Bool.eq_false_iff.mpr c74
                    subst c74
                    have H1 : (if x187000_1.length < 1599289640401 then (refinerylaw03_Small_Program.l0 kj19 (wrap64 (1 + (wrap64 (Int.tmod a0_0 6)))) ji2 ji2 (wrap64 (x21_1 + 1)) a0_0 false l0_2 (x187000_1 ++ [(⟨t187, ([] : List (S147)), x189002_19, (⟨2, 0, 0, 0⟩ : S29)⟩ : S31)])) else (none)) = some r := by rw [if_neg (show ¬ (false = true) by decide)] at H; exact H
                    clear H
                    have H := H1
                    clear H1
                    by_cases c91 : x187000_1.length < 1599289640401
                    · rw [if_pos c91] at H
                      have LMc91 := Aside0.mk c91
                      clear c91
                      obtain ⟨y216, hy216⟩ : ∃ y_ : List (S31), y_ = (x187000_1 ++ [(⟨t187, ([] : List (S147)), x189002_19, (⟨2, 0, 0, 0⟩ : S29)⟩ : S31)]) := ⟨_, rfl⟩
                      replace H : (refinerylaw03_Small_Program.l0 kj19 (wrap64 (1 + (wrap64 (Int.tmod a0_0 6)))) ji2 ji2 (wrap64 (x21_1 + 1)) a0_0 false l0_2 y216) = some r := by first | (rw [hy216]; with_reducible exact H) | (have H2_ := (Option.bind_some _ _).symm.trans H; rw [hy216]; with_reducible exact H2_) | (have H2_ := (Option.bind_some _ _).symm.trans H; with_reducible exact H2_) | with_reducible exact H | (rw [hy216]; exact H) | exact H
                      have Ny216 := Aside0.mk hy216
                      clear hy216
                      have H' := Aside0.mk H
                      clear H
                      have hnb92 := NB184_185.out
                      have hnc92 := NB185_184.out
                      have hnb93 := NB184_186.out
                      have hnc93 := NB186_184.out
                      have hnb94 := NB184_188.out
                      have hnc94 := NB188_184.out
                      have hcz95_0 : wc.cell? ⟨gb184, 0, none⟩ = some (.int .u8 a0_0) := (blk_cell BK184.out 0).trans rfl
                      have hcz95_1 : wc.cell? ⟨gb184, 1, none⟩ = some (.bool false) := (blk_cell BK184.out 1).trans rfl
                      have hcz95_2 : wc.cell? ⟨gb184, 2, none⟩ = some (.slice A0_2 l0_2.length c0_2) := (blk_cell BK184.out 2).trans rfl
                      have hfz95_0 := blk_frozen BK184.out 0
                      have hfz95_1 := blk_frozen BK184.out 1
                      have hfz95_2 := blk_frozen BK184.out 2
                      have hnb96 := NB186_185.out
                      have hnc96 := NB185_186.out
                      have hnb97 := NB186_188.out
                      have hnc97 := NB188_186.out
                      have hcz98_0 : wc.cell? ⟨gb186, 0, none⟩ = some (u187000) := (blk_cell BK186.out 0).trans rfl
                      have hfz98_0 := blk_frozen BK186.out 0
                      have hnb99 := NB188_185.out
                      have hnc99 := NB185_188.out
                      have hcz100_0 : wc.cell? ⟨gb188, 0, none⟩ = some (.int .i64 t187) := (blk_cell BK188.out 0).trans rfl
                      have hcz100_1 : wc.cell? ⟨gb188, 1, none⟩ = some (.slice none 0 0) := (blk_cell BK188.out 1).trans rfl
                      have hcz100_2 : wc.cell? ⟨gb188, 2, none⟩ = some (u189002) := (blk_cell BK188.out 2).trans rfl
                      have hcz100_3 : wc.cell? ⟨gb188, 3, none⟩ = some (.int .u8 2) := (blk_cell BK188.out 3).trans rfl
                      have hcz100_4 : wc.cell? ⟨gb188, 4, none⟩ = some (.int .i64 0) := (blk_cell BK188.out 4).trans rfl
                      have hcz100_5 : wc.cell? ⟨gb188, 5, none⟩ = some (.int .i64 0) := (blk_cell BK188.out 5).trans rfl
                      have hcz100_6 : wc.cell? ⟨gb188, 6, none⟩ = some (.int .i64 0) := (blk_cell BK188.out 6).trans rfl
                      have hfz100_0 := blk_frozen BK188.out 0
                      have hfz100_1 := blk_frozen BK188.out 1
                      have hfz100_2 := blk_frozen BK188.out 2
                      have hfz100_3 := blk_frozen BK188.out 3
                      have hfz100_4 := blk_frozen BK188.out 4
                      have hfz100_5 := blk_frozen BK188.out 5
                      have hfz100_6 := blk_frozen BK188.out 6
                      obtain ⟨Ao102, co102, eo102⟩ := Kd.R_slice HO_189002.out
                      subst eo102
                      go_wp2_with (first | ((with_reducible refine gate_builtin (b := .append) (xs := #[.tmp 89, .tmp 91]) rfl ?_); at_builtin; refine Kd.R_append k31 (w0 := w) w.heap.size rfl (.tmp 89) (.tmp 91) 55 31 (.agg #[(.int .i64 0), (.slice none 0 0), (.slice none 0 0), (.int .u8 0), (.int .i64 0), (.int .i64 0), (.int .i64 0)]) 88 rfl Try.underlying55 info31 rfl (by decide) (by omega) u187000 x187000_1 (⟨t187, ([] : List (S147)), x189002_19, (⟨2, 0, 0, 0⟩ : S29)⟩ : S31) [.int .i64 t187, .slice none 0 0, .slice Ao102 x189002_19.length co102, .int .u8 2, .int .i64 0, .int .i64 0, .int .i64 0] (fun k_ => k_ ≠ gb188) (fun k_ => ((fun k_ => k_ ≠ gb188)) k_ ∧ some k_ ≠ (u187000 : Value).ownBlock) rfl rfl ?aP (fun _ hk => hk) ?aF ?aO ?aB ?aS ?aL ?_; (case aP => exact k31_mkM _ _ _ (⟨t187, ([] : List (S147)), x189002_19, (⟨2, 0, 0, 0⟩ : S29)⟩ : S31) (Kd.R_nil _ _ _ _ _) (Kd.R_mono (Kd.R_types (Kd.R_apart' (HO_189002.out) (Kd.R_typed HO_187000.out) (by decide)) BK188.out (by decide)) (fun k_ hk => ⟨hk.2, hk.1.2⟩))); (case aB => exact (by repeat (first | (with_reducible first | exact HB.out | apply below_alloc | apply pw_below_drewN | apply below_drew1 | refine below_set ?_ GE184.out | refine below_set ?_ GE185.out | refine below_set ?_ GE186.out | refine below_set ?_ GE188.out) | exact HB.out))); (case aF => exact (fun k_ hk => Kd.freshB (g := gb188) (o := .cells #[.int .i64 t187, .slice none 0 0, .slice Ao102 x189002_19.length co102, .int .u8 2, .int .i64 0, .int .i64 0, .int .i64 0] 31 (0, 0)) (by (with_reducible repeat (first | refine blk_drewN ?_ _ | refine blk_drew ?_ | refine blk_alloc ?_ _)); exact BK188.out) k_ hk)); (case aO => exact (by (with_reducible repeat (first | apply Kd.R_alloc | apply Kd.R_drewN | apply Kd.R_drew)); exact Kd.R_mono HO_187000.out (fun _ hk => hk.2))); (case aS => exact (below_size (by repeat (first | (with_reducible first | exact HB.out | apply below_alloc | apply pw_below_drewN | apply below_drew1 | refine below_set ?_ GE184.out | refine below_set ?_ GE185.out | refine below_set ?_ GE186.out | refine below_set ?_ GE188.out) | exact HB.out)))); (case aL => have := LMc91.out; omega); intro v217 w101 ho hb hg hat; rw [← Ny216.out] at ho; have n0_ := Aside0.mk (blk_grown (g := gb184) (o := .cells #[.int .u8 a0_0, .bool false, .slice A0_2 l0_2.length c0_2] 65 (0, 0)) (by (with_reducible repeat (first | refine blk_drewN ?_ _ | refine blk_drew ?_ | refine blk_alloc ?_ _)); exact BK184.out) hg (Kd.R_ne HO_187000.out BK184.out (by decide))); have n1_ := Aside0.mk (blk_grown (g := gb185) (o := .cells #[.slice none 0 0] 57 (0, 0)) (by (with_reducible repeat (first | refine blk_drewN ?_ _ | refine blk_drew ?_ | refine blk_alloc ?_ _)); exact BK185.out) hg (Kd.R_ne HO_187000.out BK185.out (by decide))); have n2_ := Aside0.mk (blk_grown (g := gb186) (o := .cells #[u187000] 57 (0, 0)) (by (with_reducible repeat (first | refine blk_drewN ?_ _ | refine blk_drew ?_ | refine blk_alloc ?_ _)); exact BK186.out) hg (Kd.R_ne HO_187000.out BK186.out (by decide))); have n3_ := Aside0.mk (blk_grown (g := gb188) (o := .cells #[.int .i64 t187, .slice none 0 0, .slice Ao102 x189002_19.length co102, .int .u8 2, .int .i64 0, .int .i64 0, .int .i64 0] 31 (0, 0)) (by (with_reducible repeat (first | refine blk_drewN ?_ _ | refine blk_drew ?_ | refine blk_alloc ?_ _)); exact BK188.out) hg (Kd.R_away HO_187000.out (fun _ hk => hk.2))); have n4_ := Aside0.mk (hb); have n5_ := Aside0.mk (ho); clear BK184; clear BK185; clear BK186; clear BK188; clear HB; clear HO_187000; clear HO_189002; have BK184 := n0_; have BK185 := n1_; have BK186 := n2_; have BK188 := n3_; have HB := n4_; have HO218 := n5_; clear n0_ n1_ n2_ n3_ n4_ n5_; clear ho hb hg hat; obtain ⟨Ao103, co103, eo103⟩ := Kd.R_slice HO218.out; subst eo103; have hcz104_0 : w101.cell? ⟨gb186, 0, none⟩ = some (u187000) := (blk_cell BK186.out 0).trans rfl; have hfz104_0 := blk_frozen BK186.out 0))
                      go_roundg kj19
                      case measure => have := HK1.out; have := HJ8.out; have := HJ19.out; omega
                      case rel => exact ⟨(wrap64 (x21_1 + 1)), (y216), (.slice Ao103 y216.length co103), (by first | rfl | (simp; done) | (simp [*]; done)), H', ⟨by have := HK1.out; have := HJ8.out; have := HJ19.out; omega⟩, ⟨by (with_reducible repeat (first | apply Kd.R_alloc | apply Kd.R_drewN | apply Kd.R_drew)); exact Kd.R_mono (Kd.R_far (p := ⟨gb186, 0, none⟩) (Kd.R_types HO218.out BK186.out (by decide)) (fun _ hk => hk.2) (.slice Ao103 y216.length co103)) (fun _ hk => trivial)⟩, ⟨by (with_reducible repeat (first | refine blk_drewN ?_ _ | refine blk_drew ?_ | refine blk_alloc ?_ _)); refine blk_far ?_ NB184_186.out _; (with_reducible repeat (first | refine blk_drewN ?_ _ | refine blk_drew ?_ | refine blk_alloc ?_ _)); exact BK184.out⟩, ⟨by (with_reducible repeat (first | refine blk_drewN ?_ _ | refine blk_drew ?_ | refine blk_alloc ?_ _)); refine blk_far ?_ NB185_186.out _; (with_reducible repeat (first | refine blk_drewN ?_ _ | refine blk_drew ?_ | refine blk_alloc ?_ _)); exact BK185.out⟩, ⟨by (with_reducible repeat (first | refine blk_drewN ?_ _ | refine blk_drew ?_ | refine blk_alloc ?_ _)); refine blk_put (cs := #[u187000]) ?_ 0 _ rfl; (with_reducible repeat (first | refine blk_drewN ?_ _ | refine blk_drew ?_ | refine blk_alloc ?_ _)); exact BK186.out⟩, ⟨by repeat (first | (with_reducible first | exact HB.out | apply below_alloc | apply pw_below_drewN | apply below_drew1 | refine below_set ?_ GE184.out | refine below_set ?_ GE185.out | refine below_set ?_ GE186.out | refine below_set ?_ GE188.out) | exact HB.out)⟩⟩
                    · rw [if_neg c91] at H
                      exact absurd H (by simp)
      · rw [if_neg c7] at H
        have c7b0 : decide (x21_1 < ji2) = false := decide_eq_false c7
        clear c7
        obtain rfl := Option.some.inj H
        have hnb105 := NB186_184.out
        have hnc105 := NB184_186.out
        have hnb106 := NB186_185.out
        have hnc106 := NB185_186.out
        have hcz107_0 : wr.cell? ⟨gb186, 0, none⟩ = some (u187000) := (blk_cell BK186.out 0).trans rfl
        have hfz107_0 := blk_frozen BK186.out 0
        obtain ⟨Ao108, co108, eo108⟩ := Kd.R_slice HO_187000.out
        subst eo108
        have hnb109 := NB185_184.out
        have hnc109 := NB184_185.out
        have hcz110_0 : wr.cell? ⟨gb185, 0, none⟩ = some (.slice none 0 0) := (blk_cell BK185.out 0).trans rfl
        have hfz110_0 := blk_frozen BK185.out 0
        go_wp2
        refine bodyPost_ret (results_cell_row rfl _ _ gb185 57 #[.slice Ao108 x187000_1.length co108] (0, 0) _ rfl (by (with_reducible repeat (first | refine blk_drewN ?_ _ | refine blk_drew ?_ | refine blk_alloc ?_ _)); refine blk_put (cs := #[.slice none 0 0]) ?_ 0 _ rfl; (with_reducible repeat (first | refine blk_drewN ?_ _ | refine blk_drew ?_ | refine blk_alloc ?_ _)); exact BK185.out) Try.underlying57 rfl (by kernel_rfl)) rfl ?_
        exact ⟨_, by first | rfl | (simp [errW_none, errW_some] <;> rfl) | (simp only [← hji2]; first | rfl | (simp [errW_none, errW_some] <;> rfl)) | (simp [*, errW_none, errW_some] <;> rfl), by (with_reducible repeat (first | apply Kd.R_alloc | apply Kd.R_drewN | apply Kd.R_drew)); exact Kd.R_mono (Kd.R_far (p := ⟨gb185, 0, none⟩) (Kd.R_types HO_187000.out BK185.out (by decide)) (fun _ hk => hk.2) (.slice Ao108 x187000_1.length co108)) (fun _ hk => trivial), by repeat (first | (with_reducible first | exact HB.out | apply below_alloc | apply pw_below_drewN | apply below_drew1 | refine below_set ?_ GE184.out | refine below_set ?_ GE185.out | refine below_set ?_ GE186.out) | exact HB.out)⟩
end Go.Proofs.Ytffnkbicbfjnpaa.PRunFuel
namespace Go.Proofs.Ytffnkbicbfjnpaa.PRunFuel
open Go.RowKit Go.Proofs.YtffnkbicbfjnpaaW.PrintWords Go.Proofs.YtffnkbicbfjnpaaW.PrintLast Go.Proofs.YtffnkbicbfjnpaaW.PrintMore
attribute [local go_sem] max2_int min2_int max_two min_two max_three min_three max_four min_four   -- for this text's walks alone
set_option linter.unusedVariables false
set_option linter.unusedSimpArgs false
def slices_Equal_int64_int64.l0 : Nat → List Int → List Int → Int → Int → Option (Bool)
  | 0, _, _, _, _ => none
  | k + 1, x0, x1, x12, x13 => if x13 < x12 then (if 0 ≤ x13 then (if x13 < (x0.length : Int) then (if x13 < (x1.length : Int) then (if (rd x0 x13) = (rd x1 x13) then (slices_Equal_int64_int64.l0 k x0 x1 x12 (wrap64 (x13 + 1))) else (some false)) else (none)) else (none)) else (none)) else (some true)
def slices_Equal_int64_int64.f (k : Nat) (l0 : List Int) (l1 : List Int) : Option (Bool) := if (l0.length : Int) = (l1.length : Int) then (slices_Equal_int64_int64.l0 k l0 l1 (l0.length : Int) 0) else (some false)
theorem slices_Equal_int64_int64.mono_l : ∀ k, (∀ y0 y1 y2 y3, LeO (slices_Equal_int64_int64.l0 k y0 y1 y2 y3) (slices_Equal_int64_int64.l0 (k + 1) y0 y1 y2 y3))
  | 0 => fun _ _ _ _ r h => by simp [slices_Equal_int64_int64.l0] at h
  | k + 1 => by
    have ih0 := slices_Equal_int64_int64.mono_l k
    · intro y0 y1 y2 y3
      unfold slices_Equal_int64_int64.l0
      repeat' first
      | (with_reducible exact ih0 _ _ _ _)
      | (with_reducible exact LeO.refl _)
      | (with_reducible exact LeO.none _)
      | (with_reducible refine LeO.ite ?_ ?_)
      | (with_reducible refine LeO.bind ?_ (fun _ => ?_))
      | exact ih0 _ _ _ _
      | exact LeO.none _
      | refine LeO.ite ?_ ?_
      | refine LeO.bind ?_ (fun _ => ?_)
theorem slices_Equal_int64_int64.mono : ∀ a0 a1 k, LeO (slices_Equal_int64_int64.f k a0 a1) (slices_Equal_int64_int64.f (k + 1) a0 a1) := by
  intro a0 a1 k
  have ih0 := slices_Equal_int64_int64.mono_l k
  unfold slices_Equal_int64_int64.f
  repeat' first
      | (with_reducible exact ih0 _ _ _ _)
      | (with_reducible exact LeO.refl _)
      | (with_reducible exact LeO.none _)
      | (with_reducible refine LeO.ite ?_ ?_)
      | (with_reducible refine LeO.bind ?_ (fun _ => ?_))
      | exact ih0 _ _ _ _
      | exact LeO.none _
      | refine LeO.ite ?_ ?_
      | refine LeO.bind ?_ (fun _ => ?_)
set_option maxHeartbeats 8000000 in
set_option maxRecDepth 100000 in
theorem slices_Equal_int64_int64.calls (k : Nat) (A0 : Option Addr) (c0 : Nat) (l0 : List Int) (A1 : Option Addr) (c1 : Nat) (l1 : List Int) (r : Bool) (w : World) (hr0 : Kd.C (Kd.int .i64) w A0 l0.length l0) (hc0 : l0.length ≤ c0) (hr1 : Kd.C (Kd.int .i64) w A1 l1.length l1) (hc1 : l1.length ≤ c1) (h : slices_Equal_int64_int64.f k l0 l1 = some r) :
    Calls Try.prog 32 #[.slice A0 l0.length c0, .slice A1 l1.length c1] w fun e w' => e = .returned (.bool r) ∧ Drawn0 w w' := by
  have HR0 := Aside0.mk hr0
  have HC0 := Aside0.mk hc0
  clear hr0 hc0
  have HR1 := Aside0.mk hr1
  have HC1 := Aside0.mk hc1
  clear hr1 hc1
  have H : (if (l0.length : Int) = (l1.length : Int) then (slices_Equal_int64_int64.l0 k l0 l1 (l0.length : Int) 0) else (some false)) = some r := h
  clear h
  by_cases c3 : (l0.length : Int) = (l1.length : Int)
  · rw [if_pos c3] at H
    have c3b0 : ((l0.length : Int) == (l1.length : Int)) = true := beq_iff_eq.mpr c3
    have c3b1 : ((l0.length : Int) != (l1.length : Int)) = false := bne_eq_false_iff_eq.mpr c3
    have c3b2 : (l0.length == l1.length) = true := by first | simpa using c3 | (simp at c3 ⊢; omega)
    clear c3
    have H' := Aside0.mk H
    clear H
    go_enter Try.func32, Try.ntmps32
    go_wp2
    repeat (go_quiet (fail); try go_wp2)
    go_loopg [13] k (fun kq v13 w' => ∃ (x13_1 : Int), v13 = .int .i64 x13_1 ∧ Aside0 (slices_Equal_int64_int64.l0 kq l0 l1 (l0.length : Int) x13_1 = some r) ∧ Aside0 (kq ≤ k) ∧ Drawn0 w w')
    case atStart => exact ⟨(0), (by first | rfl | (simp; done) | (simp [*]; done)), H', ⟨Nat.le_refl _⟩, by repeat (first | exact Drawn0.refl _ | apply Drawn0.step)⟩
    case round =>
      clear H'
      try clear c1
      try clear p2
      try clear c3
      try clear c3b0
      try clear c3b1
      try clear c3b2
      obtain ⟨x13_1, rfl, HA, HK1, ⟨m1, rfl⟩⟩ := hrel
      cases gk with
      | zero => exact absurd HA.out (by simp [slices_Equal_int64_int64.l0])
      | succ k1 =>
        have H := HA.out
        clear HA
        simp only [slices_Equal_int64_int64.l0] at H
        by_cases c4 : x13_1 < (l0.length : Int)
        · rw [if_pos c4] at H
          have c4b0 : decide (x13_1 < (l0.length : Int)) = true := decide_eq_true c4
          clear c4
          by_cases c5 : 0 ≤ x13_1
          · rw [if_pos c5] at H
            have c5b0 : decide (0 ≤ x13_1) = true := decide_eq_true c5
            clear c5
            by_cases c6 : x13_1 < (l0.length : Int)
            · rw [if_pos c6] at H
              have c6b0 : decide (x13_1 < (l0.length : Int)) = true := decide_eq_true c6
              clear c6
              by_cases c7 : x13_1 < (l1.length : Int)
              · rw [if_pos c7] at H
                have c7b0 : decide (x13_1 < (l1.length : Int)) = true := decide_eq_true c7
                clear c7
                by_cases c8 : (rd l0 x13_1) = (rd l1 x13_1)
                · rw [if_pos c8] at H
                  have c8b0 : ((rd l0 x13_1) == (rd l1 x13_1)) = true := beq_iff_eq.mpr c8
                  have c8b1 : ((rd l0 x13_1) != (rd l1 x13_1)) = false := bne_eq_false_iff_eq.mpr c8
                  clear c8
                  have H' := Aside0.mk H
                  clear H
                  have p219 : 0 ≤ (x13_1 : Int) := of_decide_eq_true (by first | (with_reducible assumption) | assumption)
                  have q219 : x13_1 < (l0.length : Int) := of_decide_eq_true (by first | (with_reducible assumption) | assumption)
                  obtain ⟨ad219, e219, hx219_0⟩ := Kd.at_int HR0.out x13_1 p219 q219
                  cases e219
                  replace p219 := eq_true p219
                  replace q219 := eq_true q219
                  have p220 : 0 ≤ (x13_1 : Int) := of_decide_eq_true (by first | (with_reducible assumption) | assumption)
                  have q220 : x13_1 < (l1.length : Int) := of_decide_eq_true (by first | (with_reducible assumption) | assumption)
                  obtain ⟨ad220, e220, hx220_0⟩ := Kd.at_int HR1.out x13_1 p220 q220
                  cases e220
                  replace p220 := eq_true p220
                  replace q220 := eq_true q220
                  go_wp2
                  repeat (go_quiet (fail); try go_wp2)
                  go_roundg k1
                  case measure => have := HK1.out; omega
                  case rel => exact ⟨(wrap64 (x13_1 + 1)), (by first | rfl | (simp; done) | (simp [*]; done)), H', ⟨by have := HK1.out; omega⟩, by repeat (first | exact Drawn0.refl _ | apply Drawn0.step)⟩
                · rw [if_neg c8] at H
                  have c8b0 : ((rd l0 x13_1) == (rd l1 x13_1)) = false := beq_eq_false_iff_ne.mpr c8
                  have c8b1 : ((rd l0 x13_1) != (rd l1 x13_1)) = true := bne_iff_ne.mpr c8
                  obtain rfl := Option.some.inj H
                  have p219 : 0 ≤ (x13_1 : Int) := of_decide_eq_true (by first | (with_reducible assumption) | assumption)
                  have q219 : x13_1 < (l0.length : Int) := of_decide_eq_true (by first | (with_reducible assumption) | assumption)
                  obtain ⟨ad219, e219, hx219_0⟩ := Kd.at_int HR0.out x13_1 p219 q219
                  cases e219
                  replace p219 := eq_true p219
                  replace q219 := eq_true q219
                  have p220 : 0 ≤ (x13_1 : Int) := of_decide_eq_true (by first | (with_reducible assumption) | assumption)
                  have q220 : x13_1 < (l1.length : Int) := of_decide_eq_true (by first | (with_reducible assumption) | assumption)
                  obtain ⟨ad220, e220, hx220_0⟩ := Kd.at_int HR1.out x13_1 p220 q220
                  cases e220
                  replace p220 := eq_true p220
                  replace q220 := eq_true q220
                  go_wp2
                  repeat (go_quiet (fail); try go_wp2)
                  go_ret
                  exact ⟨by first | rfl | (simp; done) | (simp [*]; done), by repeat (first | exact Drawn0.refl _ | apply Drawn0.step)⟩
              · rw [if_neg c7] at H
                exact absurd H (by simp)
            · rw [if_neg c6] at H
              exact absurd H (by simp)
          · rw [if_neg c5] at H
            exact absurd H (by simp)
        · rw [if_neg c4] at H
          have c4b0 : decide (x13_1 < (l0.length : Int)) = false := decide_eq_false c4
          clear c4
          obtain rfl := Option.some.inj H
          go_wp2
          repeat (go_quiet (fail); try go_wp2)
          go_ret
          exact ⟨by first | rfl | (simp; done) | (simp [*]; done), by repeat (first | exact Drawn0.refl _ | apply Drawn0.step)⟩
  · rw [if_neg c3] at H
    have c3b0 : ((l0.length : Int) == (l1.length : Int)) = false := beq_eq_false_iff_ne.mpr c3
    have c3b1 : ((l0.length : Int) != (l1.length : Int)) = true := bne_iff_ne.mpr c3
    have c3b2 : (l0.length == l1.length) = false := by first | simpa using c3 | (simp at c3 ⊢; omega)
    obtain rfl := Option.some.inj H
    go_enter Try.func32, Try.ntmps32
    go_wp2
    repeat (go_quiet (fail); try go_wp2)
    go_ret
    exact ⟨by first | rfl | (simp; done) | (simp [*]; done), by repeat (first | exact Drawn0.refl _ | apply Drawn0.step)⟩
def run_Same.f (k : Nat) (a0_0 : Int) (a0_1 : Int) (l0_2 : List Int) (a0_3 : Int) (a1_0 : Int) (a1_1 : Int) (l1_2 : List Int) (a1_3 : Int) : Option (Bool) := if a0_0 = a1_0 then (if a0_1 = a1_1 then ((slices_Equal_int64_int64.f k l0_2 l1_2).bind fun t223 => (some t223)) else (some false)) else (some false)
theorem run_Same.mono : ∀ a0 a1 a2 a3 a4 a5 a6 a7 k, LeO (run_Same.f k a0 a1 a2 a3 a4 a5 a6 a7) (run_Same.f (k + 1) a0 a1 a2 a3 a4 a5 a6 a7) := by
  intro a0 a1 a2 a3 a4 a5 a6 a7 k
  unfold run_Same.f
  repeat' first
      | (with_reducible exact slices_Equal_int64_int64.mono _ _ _)
      | (with_reducible exact LeO.refl _)
      | (with_reducible exact LeO.none _)
      | (with_reducible refine LeO.ite ?_ ?_)
      | (with_reducible refine LeO.bind ?_ (fun _ => ?_))
      | exact slices_Equal_int64_int64.mono _ _ _
      | exact LeO.none _
      | refine LeO.ite ?_ ?_
      | refine LeO.bind ?_ (fun _ => ?_)
set_option maxHeartbeats 8000000 in
set_option maxRecDepth 100000 in
theorem run_Same.calls (k : Nat) (a0_0 : Int) (a0_1 : Int) (A0_2 : Option Addr) (c0_2 : Nat) (l0_2 : List Int) (a0_3 : Int) (a1_0 : Int) (a1_1 : Int) (A1_2 : Option Addr) (c1_2 : Nat) (l1_2 : List Int) (a1_3 : Int) (r : Bool) (w : World) (hr0_2 : Kd.C (Kd.int .i64) w A0_2 l0_2.length l0_2) (hc0_2 : l0_2.length ≤ c0_2) (hr1_2 : Kd.C (Kd.int .i64) w A1_2 l1_2.length l1_2) (hc1_2 : l1_2.length ≤ c1_2) (h : run_Same.f k a0_0 a0_1 l0_2 a0_3 a1_0 a1_1 l1_2 a1_3 = some r) :
    Calls Try.prog 33 #[.agg #[.int .u8 a0_0, .int .i64 a0_1, .slice A0_2 l0_2.length c0_2, .int .i64 a0_3], .agg #[.int .u8 a1_0, .int .i64 a1_1, .slice A1_2 l1_2.length c1_2, .int .i64 a1_3]] w fun e w' => e = .returned (.bool r) ∧ Below w.heap.size w w' := by
  have hu60 := Try.underlying60
  have HR0_2 := Aside0.mk hr0_2
  have HC0_2 := Aside0.mk hc0_2
  clear hr0_2 hc0_2
  have HR1_2 := Aside0.mk hr1_2
  have HC1_2 := Aside0.mk hc1_2
  clear hr1_2 hc1_2
  have HB := Aside0.mk (Below.refl w.heap.size w)
  have H : (if a0_0 = a1_0 then (if a0_1 = a1_1 then ((slices_Equal_int64_int64.f k l0_2 l1_2).bind fun t223 => (some t223)) else (some false)) else (some false)) = some r := h
  clear h
  by_cases c3 : a0_0 = a1_0
  · rw [if_pos c3] at H
    have c3b0 : (a0_0 == a1_0) = true := beq_iff_eq.mpr c3
    have c3b1 : (a0_0 != a1_0) = false := bne_eq_false_iff_eq.mpr c3
    clear c3
    by_cases c4 : a0_1 = a1_1
    · rw [if_pos c4] at H
      have c4b0 : (a0_1 == a1_1) = true := beq_iff_eq.mpr c4
      have c4b1 : (a0_1 != a1_1) = false := bne_eq_false_iff_eq.mpr c4
      clear c4
      replace H := Option.bind_eq_some_iff.mp H
      obtain ⟨t223, A50, H⟩ := H
      replace H : (some t223) = some r := H
      have A5 := Aside0.mk A50
      clear A50
      obtain rfl := Option.some.inj H
      go_enter Try.func33, Try.ntmps33
      go_wp2_with (first | ((with_reducible refine gate_dst (N := 2) rfl ?_); refine box_event ?hg (N := 2) ?hd (cs := #[.int .u8 a0_0, .int .i64 a0_1, .slice A0_2 l0_2.length c0_2, .int .i64 a0_3]) (t := 60) ?hr ?_; (case hd => rfl); (case hg => rfl); (case hr => first | (go_simp; done) | (go_simp; rfl)); intro gb221 hg w6 hbox hb; have n0_ := Aside0.mk (below_step (by repeat (first | (with_reducible first | exact HB.out | apply below_alloc | apply pw_below_drewN | apply below_drew1) | exact HB.out)) hb); have n1_ := Aside0.mk (hbox); have n2_ := Aside0.mk ((by rw [hg]; exact (below_size (by repeat (first | (with_reducible first | exact HB.out | apply below_alloc | apply pw_below_drewN | apply below_drew1) | exact HB.out))) : w.heap.size ≤ gb221)); have n3_ := Aside0.mk ((by rw [hg]; exact (below_size (by repeat (first | (with_reducible first | exact HB.out | apply below_alloc | apply pw_below_drewN | apply below_drew1) | exact HB.out))) : w.heap.size ≤ gb221)); clear HB; have HB := n0_; have BK221 := n1_; have GW221 := n2_; have GE221 := n3_; clear n0_ n1_ n2_ n3_; clear hb hbox hg) | ((with_reducible refine gate_dst (N := 3) rfl ?_); refine box_event ?hg (N := 3) ?hd (cs := #[.int .u8 a1_0, .int .i64 a1_1, .slice A1_2 l1_2.length c1_2, .int .i64 a1_3]) (t := 60) ?hr ?_; (case hd => rfl); (case hg => rfl); (case hr => first | (go_simp; done) | (go_simp; rfl)); intro gb222 hg w7 hbox hb; have n0_ := Aside0.mk (blk_below (g := gb221) (o := .cells #[.int .u8 a0_0, .int .i64 a0_1, .slice A0_2 l0_2.length c0_2, .int .i64 a0_3] 60 (0, 0)) (by (with_reducible repeat (first | refine blk_drewN ?_ _ | refine blk_drew ?_ | refine blk_alloc ?_ _)); exact BK221.out) hb); have n1_ := Aside0.mk (below_step (by repeat (first | (with_reducible first | exact HB.out | apply below_alloc | apply pw_below_drewN | apply below_drew1 | refine below_set ?_ GE221.out) | exact HB.out)) hb); have n2_ := Aside0.mk (hbox); have n3_ := Aside0.mk ((by rw [hg]; exact (below_size (by repeat (first | (with_reducible first | exact HB.out | apply below_alloc | apply pw_below_drewN | apply below_drew1 | refine below_set ?_ GE221.out) | exact HB.out))) : w.heap.size ≤ gb222)); have n4_ := Aside0.mk ((by rw [hg]; exact (below_size (by repeat (first | (with_reducible first | exact HB.out | apply below_alloc | apply pw_below_drewN | apply below_drew1 | refine below_set ?_ GE221.out) | exact HB.out))) : w.heap.size ≤ gb222)); have n5_ := Aside0.mk ((by rw [hg]; exact Nat.ne_of_lt (blk_lt (g := gb221) (o := .cells #[.int .u8 a0_0, .int .i64 a0_1, .slice A0_2 l0_2.length c0_2, .int .i64 a0_3] 60 (0, 0)) (by (with_reducible repeat (first | refine blk_drewN ?_ _ | refine blk_drew ?_ | refine blk_alloc ?_ _)); exact BK221.out)) : gb221 ≠ gb222)); have n6_ := Aside0.mk ((by rw [hg]; exact Nat.ne_of_gt (blk_lt (g := gb221) (o := .cells #[.int .u8 a0_0, .int .i64 a0_1, .slice A0_2 l0_2.length c0_2, .int .i64 a0_3] 60 (0, 0)) (by (with_reducible repeat (first | refine blk_drewN ?_ _ | refine blk_drew ?_ | refine blk_alloc ?_ _)); exact BK221.out)) : gb222 ≠ gb221)); clear BK221; clear HB; have BK221 := n0_; have HB := n1_; have BK222 := n2_; have GW222 := n3_; have GE222 := n4_; have NB221_222 := n5_; have NB222_221 := n6_; clear n0_ n1_ n2_ n3_ n4_ n5_ n6_; clear hb hbox hg; have hnb8 := NB221_222.out; have hnc8 := NB222_221.out; have hcz9_0 : w7.cell? ⟨gb221, 0, none⟩ = some (.int .u8 a0_0) := (blk_cell BK221.out 0).trans rfl; have hcz9_1 : w7.cell? ⟨gb221, 1, none⟩ = some (.int .i64 a0_1) := (blk_cell BK221.out 1).trans rfl; have hcz9_2 : w7.cell? ⟨gb221, 2, none⟩ = some (.slice A0_2 l0_2.length c0_2) := (blk_cell BK221.out 2).trans rfl; have hcz9_3 : w7.cell? ⟨gb221, 3, none⟩ = some (.int .i64 a0_3) := (blk_cell BK221.out 3).trans rfl; have hfz9_0 := blk_frozen BK221.out 0; have hfz9_1 := blk_frozen BK221.out 1; have hfz9_2 := blk_frozen BK221.out 2; have hfz9_3 := blk_frozen BK221.out 3; have hcz10_0 : w7.cell? ⟨gb222, 0, none⟩ = some (.int .u8 a1_0) := (blk_cell BK222.out 0).trans rfl; have hcz10_1 : w7.cell? ⟨gb222, 1, none⟩ = some (.int .i64 a1_1) := (blk_cell BK222.out 1).trans rfl; have hcz10_2 : w7.cell? ⟨gb222, 2, none⟩ = some (.slice A1_2 l1_2.length c1_2) := (blk_cell BK222.out 2).trans rfl; have hcz10_3 : w7.cell? ⟨gb222, 3, none⟩ = some (.int .i64 a1_3) := (blk_cell BK222.out 3).trans rfl; have hfz10_0 := blk_frozen BK222.out 0; have hfz10_1 := blk_frozen BK222.out 1; have hfz10_2 := blk_frozen BK222.out 2; have hfz10_3 := blk_frozen BK222.out 3) | (go_at_call 32; (with_reducible refine (slices_Equal_int64_int64.calls k _ _ l0_2 _ _ l1_2 t223 _ ?side1 ?side2 ?side3 ?side4 A5.out).mono ?_); (case side1 => repeat (first | exact (Kd.C_below HR0_2.out HB.out) | (with_reducible refine Kd.C_alloc ?_ _) | (with_reducible refine Kd.C_drewN ?_ _) | (with_reducible refine Kd.C_drew ?_))); (case side2 => exact HC0_2.out); (case side3 => repeat (first | exact (Kd.C_below HR1_2.out HB.out) | (with_reducible refine Kd.C_alloc ?_ _) | (with_reducible refine Kd.C_drewN ?_ _) | (with_reducible refine Kd.C_drew ?_))); (case side4 => exact HC1_2.out); rintro e w' ⟨rfl, ⟨nd, rfl⟩⟩))
      go_ret
      exact ⟨by first | rfl | (simp [errW_none, errW_some] <;> rfl) | (simp [*, errW_none, errW_some] <;> rfl), by repeat (first | (with_reducible first | exact HB.out | apply below_alloc | apply pw_below_drewN | apply below_drew1 | refine below_set ?_ GE221.out | refine below_set ?_ GE222.out) | exact HB.out)⟩
    · rw [if_neg c4] at H
      have c4b0 : (a0_1 == a1_1) = false := beq_eq_false_iff_ne.mpr c4
      have c4b1 : (a0_1 != a1_1) = true := bne_iff_ne.mpr c4
      obtain rfl := Option.some.inj H
      go_enter Try.func33, Try.ntmps33
      go_wp2_with (first | ((with_reducible refine gate_dst (N := 2) rfl ?_); refine box_event ?hg (N := 2) ?hd (cs := #[.int .u8 a0_0, .int .i64 a0_1, .slice A0_2 l0_2.length c0_2, .int .i64 a0_3]) (t := 60) ?hr ?_; (case hd => rfl); (case hg => rfl); (case hr => first | (go_simp; done) | (go_simp; rfl)); intro gb221 hg w11 hbox hb; have n0_ := Aside0.mk (below_step (by repeat (first | (with_reducible first | exact HB.out | apply below_alloc | apply pw_below_drewN | apply below_drew1) | exact HB.out)) hb); have n1_ := Aside0.mk (hbox); have n2_ := Aside0.mk ((by rw [hg]; exact (below_size (by repeat (first | (with_reducible first | exact HB.out | apply below_alloc | apply pw_below_drewN | apply below_drew1) | exact HB.out))) : w.heap.size ≤ gb221)); have n3_ := Aside0.mk ((by rw [hg]; exact (below_size (by repeat (first | (with_reducible first | exact HB.out | apply below_alloc | apply pw_below_drewN | apply below_drew1) | exact HB.out))) : w.heap.size ≤ gb221)); clear HB; have HB := n0_; have BK221 := n1_; have GW221 := n2_; have GE221 := n3_; clear n0_ n1_ n2_ n3_; clear hb hbox hg) | ((with_reducible refine gate_dst (N := 3) rfl ?_); refine box_event ?hg (N := 3) ?hd (cs := #[.int .u8 a1_0, .int .i64 a1_1, .slice A1_2 l1_2.length c1_2, .int .i64 a1_3]) (t := 60) ?hr ?_; (case hd => rfl); (case hg => rfl); (case hr => first | (go_simp; done) | (go_simp; rfl)); intro gb222 hg w12 hbox hb; have n0_ := Aside0.mk (blk_below (g := gb221) (o := .cells #[.int .u8 a0_0, .int .i64 a0_1, .slice A0_2 l0_2.length c0_2, .int .i64 a0_3] 60 (0, 0)) (by (with_reducible repeat (first | refine blk_drewN ?_ _ | refine blk_drew ?_ | refine blk_alloc ?_ _)); exact BK221.out) hb); have n1_ := Aside0.mk (below_step (by repeat (first | (with_reducible first | exact HB.out | apply below_alloc | apply pw_below_drewN | apply below_drew1 | refine below_set ?_ GE221.out) | exact HB.out)) hb); have n2_ := Aside0.mk (hbox); have n3_ := Aside0.mk ((by rw [hg]; exact (below_size (by repeat (first | (with_reducible first | exact HB.out | apply below_alloc | apply pw_below_drewN | apply below_drew1 | refine below_set ?_ GE221.out) | exact HB.out))) : w.heap.size ≤ gb222)); have n4_ := Aside0.mk ((by rw [hg]; exact (below_size (by repeat (first | (with_reducible first | exact HB.out | apply below_alloc | apply pw_below_drewN | apply below_drew1 | refine below_set ?_ GE221.out) | exact HB.out))) : w.heap.size ≤ gb222)); have n5_ := Aside0.mk ((by rw [hg]; exact Nat.ne_of_lt (blk_lt (g := gb221) (o := .cells #[.int .u8 a0_0, .int .i64 a0_1, .slice A0_2 l0_2.length c0_2, .int .i64 a0_3] 60 (0, 0)) (by (with_reducible repeat (first | refine blk_drewN ?_ _ | refine blk_drew ?_ | refine blk_alloc ?_ _)); exact BK221.out)) : gb221 ≠ gb222)); have n6_ := Aside0.mk ((by rw [hg]; exact Nat.ne_of_gt (blk_lt (g := gb221) (o := .cells #[.int .u8 a0_0, .int .i64 a0_1, .slice A0_2 l0_2.length c0_2, .int .i64 a0_3] 60 (0, 0)) (by (with_reducible repeat (first | refine blk_drewN ?_ _ | refine blk_drew ?_ | refine blk_alloc ?_ _)); exact BK221.out)) : gb222 ≠ gb221)); clear BK221; clear HB; have BK221 := n0_; have HB := n1_; have BK222 := n2_; have GW222 := n3_; have GE222 := n4_; have NB221_222 := n5_; have NB222_221 := n6_; clear n0_ n1_ n2_ n3_ n4_ n5_ n6_; clear hb hbox hg; have hnb13 := NB221_222.out; have hnc13 := NB222_221.out; have hcz14_0 : w12.cell? ⟨gb221, 0, none⟩ = some (.int .u8 a0_0) := (blk_cell BK221.out 0).trans rfl; have hcz14_1 : w12.cell? ⟨gb221, 1, none⟩ = some (.int .i64 a0_1) := (blk_cell BK221.out 1).trans rfl; have hcz14_2 : w12.cell? ⟨gb221, 2, none⟩ = some (.slice A0_2 l0_2.length c0_2) := (blk_cell BK221.out 2).trans rfl; have hcz14_3 : w12.cell? ⟨gb221, 3, none⟩ = some (.int .i64 a0_3) := (blk_cell BK221.out 3).trans rfl; have hfz14_0 := blk_frozen BK221.out 0; have hfz14_1 := blk_frozen BK221.out 1; have hfz14_2 := blk_frozen BK221.out 2; have hfz14_3 := blk_frozen BK221.out 3; have hcz15_0 : w12.cell? ⟨gb222, 0, none⟩ = some (.int .u8 a1_0) := (blk_cell BK222.out 0).trans rfl; have hcz15_1 : w12.cell? ⟨gb222, 1, none⟩ = some (.int .i64 a1_1) := (blk_cell BK222.out 1).trans rfl; have hcz15_2 : w12.cell? ⟨gb222, 2, none⟩ = some (.slice A1_2 l1_2.length c1_2) := (blk_cell BK222.out 2).trans rfl; have hcz15_3 : w12.cell? ⟨gb222, 3, none⟩ = some (.int .i64 a1_3) := (blk_cell BK222.out 3).trans rfl; have hfz15_0 := blk_frozen BK222.out 0; have hfz15_1 := blk_frozen BK222.out 1; have hfz15_2 := blk_frozen BK222.out 2; have hfz15_3 := blk_frozen BK222.out 3))
      go_ret
      exact ⟨by first | rfl | (simp [errW_none, errW_some] <;> rfl) | (simp [*, errW_none, errW_some] <;> rfl), by repeat (first | (with_reducible first | exact HB.out | apply below_alloc | apply pw_below_drewN | apply below_drew1 | refine below_set ?_ GE221.out | refine below_set ?_ GE222.out) | exact HB.out)⟩
  · rw [if_neg c3] at H
    have c3b0 : (a0_0 == a1_0) = false := beq_eq_false_iff_ne.mpr c3
    have c3b1 : (a0_0 != a1_0) = true := bne_iff_ne.mpr c3
    obtain rfl := Option.some.inj H
    go_enter Try.func33, Try.ntmps33
    go_wp2_with (first | ((with_reducible refine gate_dst (N := 2) rfl ?_); refine box_event ?hg (N := 2) ?hd (cs := #[.int .u8 a0_0, .int .i64 a0_1, .slice A0_2 l0_2.length c0_2, .int .i64 a0_3]) (t := 60) ?hr ?_; (case hd => rfl); (case hg => rfl); (case hr => first | (go_simp; done) | (go_simp; rfl)); intro gb221 hg w16 hbox hb; have n0_ := Aside0.mk (below_step (by repeat (first | (with_reducible first | exact HB.out | apply below_alloc | apply pw_below_drewN | apply below_drew1) | exact HB.out)) hb); have n1_ := Aside0.mk (hbox); have n2_ := Aside0.mk ((by rw [hg]; exact (below_size (by repeat (first | (with_reducible first | exact HB.out | apply below_alloc | apply pw_below_drewN | apply below_drew1) | exact HB.out))) : w.heap.size ≤ gb221)); have n3_ := Aside0.mk ((by rw [hg]; exact (below_size (by repeat (first | (with_reducible first | exact HB.out | apply below_alloc | apply pw_below_drewN | apply below_drew1) | exact HB.out))) : w.heap.size ≤ gb221)); clear HB; have HB := n0_; have BK221 := n1_; have GW221 := n2_; have GE221 := n3_; clear n0_ n1_ n2_ n3_; clear hb hbox hg) | ((with_reducible refine gate_dst (N := 3) rfl ?_); refine box_event ?hg (N := 3) ?hd (cs := #[.int .u8 a1_0, .int .i64 a1_1, .slice A1_2 l1_2.length c1_2, .int .i64 a1_3]) (t := 60) ?hr ?_; (case hd => rfl); (case hg => rfl); (case hr => first | (go_simp; done) | (go_simp; rfl)); intro gb222 hg w17 hbox hb; have n0_ := Aside0.mk (blk_below (g := gb221) (o := .cells #[.int .u8 a0_0, .int .i64 a0_1, .slice A0_2 l0_2.length c0_2, .int .i64 a0_3] 60 (0, 0)) (by (with_reducible repeat (first | refine blk_drewN ?_ _ | refine blk_drew ?_ | refine blk_alloc ?_ _)); exact BK221.out) hb); have n1_ := Aside0.mk (below_step (by repeat (first | (with_reducible first | exact HB.out | apply below_alloc | apply pw_below_drewN | apply below_drew1 | refine below_set ?_ GE221.out) | exact HB.out)) hb); have n2_ := Aside0.mk (hbox); have n3_ := Aside0.mk ((by rw [hg]; exact (below_size (by repeat (first | (with_reducible first | exact HB.out | apply below_alloc | apply pw_below_drewN | apply below_drew1 | refine below_set ?_ GE221.out) | exact HB.out))) : w.heap.size ≤ gb222)); have n4_ := Aside0.mk ((by rw [hg]; exact (below_size (by repeat (first | (with_reducible first | exact HB.out | apply below_alloc | apply pw_below_drewN | apply below_drew1 | refine below_set ?_ GE221.out) | exact HB.out))) : w.heap.size ≤ gb222)); have n5_ := Aside0.mk ((by rw [hg]; exact Nat.ne_of_lt (blk_lt (g := gb221) (o := .cells #[.int .u8 a0_0, .int .i64 a0_1, .slice A0_2 l0_2.length c0_2, .int .i64 a0_3] 60 (0, 0)) (by (with_reducible repeat (first | refine blk_drewN ?_ _ | refine blk_drew ?_ | refine blk_alloc ?_ _)); exact BK221.out)) : gb221 ≠ gb222)); have n6_ := Aside0.mk ((by rw [hg]; exact Nat.ne_of_gt (blk_lt (g := gb221) (o := .cells #[.int .u8 a0_0, .int .i64 a0_1, .slice A0_2 l0_2.length c0_2, .int .i64 a0_3] 60 (0, 0)) (by (with_reducible repeat (first | refine blk_drewN ?_ _ | refine blk_drew ?_ | refine blk_alloc ?_ _)); exact BK221.out)) : gb222 ≠ gb221)); clear BK221; clear HB; have BK221 := n0_; have HB := n1_; have BK222 := n2_; have GW222 := n3_; have GE222 := n4_; have NB221_222 := n5_; have NB222_221 := n6_; clear n0_ n1_ n2_ n3_ n4_ n5_ n6_; clear hb hbox hg; have hnb18 := NB221_222.out; have hnc18 := NB222_221.out; have hcz19_0 : w17.cell? ⟨gb221, 0, none⟩ = some (.int .u8 a0_0) := (blk_cell BK221.out 0).trans rfl; have hcz19_1 : w17.cell? ⟨gb221, 1, none⟩ = some (.int .i64 a0_1) := (blk_cell BK221.out 1).trans rfl; have hcz19_2 : w17.cell? ⟨gb221, 2, none⟩ = some (.slice A0_2 l0_2.length c0_2) := (blk_cell BK221.out 2).trans rfl; have hcz19_3 : w17.cell? ⟨gb221, 3, none⟩ = some (.int .i64 a0_3) := (blk_cell BK221.out 3).trans rfl; have hfz19_0 := blk_frozen BK221.out 0; have hfz19_1 := blk_frozen BK221.out 1; have hfz19_2 := blk_frozen BK221.out 2; have hfz19_3 := blk_frozen BK221.out 3; have hcz20_0 : w17.cell? ⟨gb222, 0, none⟩ = some (.int .u8 a1_0) := (blk_cell BK222.out 0).trans rfl; have hcz20_1 : w17.cell? ⟨gb222, 1, none⟩ = some (.int .i64 a1_1) := (blk_cell BK222.out 1).trans rfl; have hcz20_2 : w17.cell? ⟨gb222, 2, none⟩ = some (.slice A1_2 l1_2.length c1_2) := (blk_cell BK222.out 2).trans rfl; have hcz20_3 : w17.cell? ⟨gb222, 3, none⟩ = some (.int .i64 a1_3) := (blk_cell BK222.out 3).trans rfl; have hfz20_0 := blk_frozen BK222.out 0; have hfz20_1 := blk_frozen BK222.out 1; have hfz20_2 := blk_frozen BK222.out 2; have hfz20_3 := blk_frozen BK222.out 3))
    go_ret
    exact ⟨by first | rfl | (simp [errW_none, errW_some] <;> rfl) | (simp [*, errW_none, errW_some] <;> rfl), by repeat (first | (with_reducible first | exact HB.out | apply below_alloc | apply pw_below_drewN | apply below_drew1 | refine below_set ?_ GE221.out | refine below_set ?_ GE222.out) | exact HB.out)⟩
end Go.Proofs.Ytffnkbicbfjnpaa.PRunFuel
