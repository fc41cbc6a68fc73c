-- Printed by a program of this claim's own (over the translation; hand-told functions among them): Lean checks it.
import Derived.Test.YtngbibpmaofamaaQTestx0
import Derived.Test.YtngbibpmaofamaaQTestx1
import Derived.Test.YtngbibpmaofamaaQTestx6
import Derived.Test.YtngbibpmaofamaaQTestx7
import Derived.Test.YtngbibpmaofamaaOwn
namespace Go.Proofs.Ytngbibpmaofamaa.QTest
open Go.RowKit Go.Proofs.YtngbibpmaofamaaW.PrintWords Go.Proofs.YtngbibpmaofamaaW.PrintLast Go.Proofs.YtngbibpmaofamaaW.PrintMore
attribute [local go_sem] max2_int min2_int max_two min_two max_three min_three max_four min_four   -- for this text's walks alone
set_option linter.unusedVariables false
set_option linter.unusedSimpArgs false

/-! ### gridmarketlaw43_ExecutiveFair: function 4 -/
mutual
def gridmarketlaw43_ExecutiveFair.l0 : Nat → List Int → Int → List (S25) → Int → Int → Option (Bool)
  | 0, _, _, _, _, _ => none
  | k + 1, x0, x1, x5, x6, x7 => if x7 < (x0.length : Int) then (if 0 ≤ x7 then ((gridmarketmake_Mod.f (rd x0 x7) 30).bind fun t160 => ((gridmarketmake_Mod.f (wrap64 (Int.tdiv (rd x0 x7) 30)) 3).bind fun t162 => (if x5.length < 8796093022208 then ((some (x5 ++ [(⟨t160, t162⟩ : S25)] : List (S25))).bind fun y163 => (if x7 < (y163.length : Int) then (gridmarketlaw43_ExecutiveFair.l0 k x0 x1 y163 (wrap64 (x6 + ((rd_T25 y163 x7).f0))) (wrap64 (x7 + 1))) else (none))) else (none)))) else (none)) else ((gridmarketmake_Mod.f x1 (wrap64 (x6 + 1))).bind fun t167 => ((executive_Curtail.f k x5 t167).bind fun bt168 => ((gridmarketlaw43_awake.f k).bind fun t172 => (if t172 = true then (if bt168.2 = 0 then (gridmarketlaw43_ExecutiveFair.j1 k t167 x5 bt168.1 ((bt168.1.length : Int) != (x5.length : Int))) else (gridmarketlaw43_ExecutiveFair.j1 k t167 x5 bt168.1 true)) else (gridmarketlaw43_ExecutiveFair.j1 k t167 x5 bt168.1 true)))))
def gridmarketlaw43_ExecutiveFair.j1 : Nat → Int → List (S25) → List Int → Bool → Option (Bool)
  | 0, _, _, _, _ => none
  | k + 1, x1, x5, x8, x72 => if x72 = true then (some false) else (gridmarketlaw43_ExecutiveFair.l1 k x1 x5 x8 0 (List.replicate 3 (0 : Int)) (List.replicate 3 (0 : Int)) 0)
def gridmarketlaw43_ExecutiveFair.l1 : Nat → Int → List (S25) → List Int → Int → List Int → List Int → Int → Option (Bool)
  | 0, _, _, _, _, _, _, _ => none
  | k + 1, x1, x5, x8, x10, x11, x12, x13 => if x13 < (x8.length : Int) then (if 0 ≤ x13 then (if (rd x8 x13) < 0 then (some false) else (if x13 < (x5.length : Int) then (if (rd x8 x13) > ((rd_T25 x5 x13).f0) then (some false) else (if 0 ≤ ((rd_T25 x5 x13).f1) then (if ((rd_T25 x5 x13).f1) < 3 then (gridmarketlaw43_ExecutiveFair.l1 k x1 x5 x8 (wrap64 (x10 + (rd x8 x13))) (x11.set (((rd_T25 x5 x13).f1) : Int).toNat (wrap64 ((rd x11 ((rd_T25 x5 x13).f1)) + (rd x8 x13)))) (x12.set (((rd_T25 x5 x13).f1) : Int).toNat (wrap64 ((rd x12 ((rd_T25 x5 x13).f1)) + ((rd_T25 x5 x13).f0)))) (wrap64 (x13 + 1))) else (none)) else (none))) else (none))) else (none)) else (gridmarketlaw43_ExecutiveFair.l2 k x1 x5 x8 x10 x11 x12 1)
def gridmarketlaw43_ExecutiveFair.l2 : Nat → Int → List (S25) → List Int → Int → List Int → List Int → Int → Option (Bool)
  | 0, _, _, _, _, _, _, _ => none
  | k + 1, x1, x5, x8, x10, x11, x12, x14 => if x14 < 3 then (gridmarketlaw43_ExecutiveFair.l3 k x1 x5 x8 x10 x11 x12 x14 0) else (gridmarketlaw43_ExecutiveFair.l4 k x1 x5 x8 x10 x11 x12 0)
def gridmarketlaw43_ExecutiveFair.l3 : Nat → Int → List (S25) → List Int → Int → List Int → List Int → Int → Int → Option (Bool)
  | 0, _, _, _, _, _, _, _, _ => none
  | k + 1, x1, x5, x8, x10, x11, x12, x14, x15 => if x15 < x14 then (if 0 ≤ x14 then (if x14 < 3 then (if (rd x11 x14) > 0 then (if 0 ≤ x15 then (if x15 < 3 then (if (rd x11 x15) = (rd x12 x15) then (gridmarketlaw43_ExecutiveFair.l3 k x1 x5 x8 x10 x11 x12 x14 (wrap64 (x15 + 1))) else (some false)) else (none)) else (none)) else (gridmarketlaw43_ExecutiveFair.l3 k x1 x5 x8 x10 x11 x12 x14 (wrap64 (x15 + 1)))) else (none)) else (none)) else (gridmarketlaw43_ExecutiveFair.l2 k x1 x5 x8 x10 x11 x12 (wrap64 (x14 + 1)))
def gridmarketlaw43_ExecutiveFair.l4 : Nat → Int → List (S25) → List Int → Int → List Int → List Int → Int → Option (Bool)
  | 0, _, _, _, _, _, _, _ => none
  | k + 1, x1, x5, x8, x10, x11, x12, x16 => if x16 < (x8.length : Int) then (if 0 ≤ x16 then (if x16 < (x5.length : Int) then (if 0 ≤ ((rd_T25 x5 x16).f1) then (if ((rd_T25 x5 x16).f1) < 3 then (if (rd x12 ((rd_T25 x5 x16).f1)) > 0 then (if (wrap64 ((wrap64 ((rd x8 x16) * (rd x12 ((rd_T25 x5 x16).f1)))) - (wrap64 ((rd x11 ((rd_T25 x5 x16).f1)) * ((rd_T25 x5 x16).f0))))) ≥ (rd x12 ((rd_T25 x5 x16).f1)) then (some false) else (if (wrap64 ((wrap64 ((rd x8 x16) * (rd x12 ((rd_T25 x5 x16).f1)))) - (wrap64 ((rd x11 ((rd_T25 x5 x16).f1)) * ((rd_T25 x5 x16).f0))))) ≤ (wrap64 (-(rd x12 ((rd_T25 x5 x16).f1)))) then (some false) else (gridmarketlaw43_ExecutiveFair.l4 k x1 x5 x8 x10 x11 x12 (wrap64 (x16 + 1))))) else (gridmarketlaw43_ExecutiveFair.l4 k x1 x5 x8 x10 x11 x12 (wrap64 (x16 + 1)))) else (none)) else (none)) else (none)) else (none)) else (some (x10 == x1))
end
def gridmarketlaw43_ExecutiveFair.f (k : Nat) (l0 : List Int) (a1 : Int) : Option (Bool) := if (l0.length : Int) > 32 then (some true) else (gridmarketlaw43_ExecutiveFair.l0 k l0 a1 ([] : List (S25)) 0 0)
theorem gridmarketlaw43_ExecutiveFair.mono_l : ∀ k, (∀ y0 y1 y2 y3 y4, LeO (gridmarketlaw43_ExecutiveFair.l0 k y0 y1 y2 y3 y4) (gridmarketlaw43_ExecutiveFair.l0 (k + 1) y0 y1 y2 y3 y4)) ∧ (∀ y0 y1 y2 y3, LeO (gridmarketlaw43_ExecutiveFair.j1 k y0 y1 y2 y3) (gridmarketlaw43_ExecutiveFair.j1 (k + 1) y0 y1 y2 y3)) ∧ (∀ y0 y1 y2 y3 y4 y5 y6, LeO (gridmarketlaw43_ExecutiveFair.l1 k y0 y1 y2 y3 y4 y5 y6) (gridmarketlaw43_ExecutiveFair.l1 (k + 1) y0 y1 y2 y3 y4 y5 y6)) ∧ (∀ y0 y1 y2 y3 y4 y5 y6, LeO (gridmarketlaw43_ExecutiveFair.l2 k y0 y1 y2 y3 y4 y5 y6) (gridmarketlaw43_ExecutiveFair.l2 (k + 1) y0 y1 y2 y3 y4 y5 y6)) ∧ (∀ y0 y1 y2 y3 y4 y5 y6 y7, LeO (gridmarketlaw43_ExecutiveFair.l3 k y0 y1 y2 y3 y4 y5 y6 y7) (gridmarketlaw43_ExecutiveFair.l3 (k + 1) y0 y1 y2 y3 y4 y5 y6 y7)) ∧ (∀ y0 y1 y2 y3 y4 y5 y6, LeO (gridmarketlaw43_ExecutiveFair.l4 k y0 y1 y2 y3 y4 y5 y6) (gridmarketlaw43_ExecutiveFair.l4 (k + 1) y0 y1 y2 y3 y4 y5 y6))
  | 0 => ⟨fun _ _ _ _ _ r h => by simp [gridmarketlaw43_ExecutiveFair.l0] at h, fun _ _ _ _ r h => by simp [gridmarketlaw43_ExecutiveFair.j1] at h, fun _ _ _ _ _ _ _ r h => by simp [gridmarketlaw43_ExecutiveFair.l1] at h, fun _ _ _ _ _ _ _ r h => by simp [gridmarketlaw43_ExecutiveFair.l2] at h, fun _ _ _ _ _ _ _ _ r h => by simp [gridmarketlaw43_ExecutiveFair.l3] at h, fun _ _ _ _ _ _ _ r h => by simp [gridmarketlaw43_ExecutiveFair.l4] at h⟩
  | k + 1 => by
    obtain ⟨ih0, ih1, ih2, ih3, ih4, ih5⟩ := gridmarketlaw43_ExecutiveFair.mono_l k
    refine ⟨?_, ?_, ?_, ?_, ?_, ?_⟩
    · intro y0 y1 y2 y3 y4
      unfold gridmarketlaw43_ExecutiveFair.l0
      repeat' first
      | (with_reducible exact ih0 _ _ _ _ _)
      | (with_reducible exact ih1 _ _ _ _)
      | (with_reducible exact ih2 _ _ _ _ _ _ _)
      | (with_reducible exact ih3 _ _ _ _ _ _ _)
      | (with_reducible exact ih4 _ _ _ _ _ _ _ _)
      | (with_reducible exact ih5 _ _ _ _ _ _ _)
      | (with_reducible exact executive_Curtail.mono _ _ _)
      | (with_reducible exact gridmarketlaw43_awake.mono _)
      | (with_reducible exact LeO.refl _)
      | (with_reducible exact LeO.none _)
      | (with_reducible refine LeO.ite ?_ ?_)
      | (with_reducible refine LeO.bind ?_ (fun _ => ?_))
      | exact ih0 _ _ _ _ _
      | exact ih1 _ _ _ _
      | exact ih2 _ _ _ _ _ _ _
      | exact ih3 _ _ _ _ _ _ _
      | exact ih4 _ _ _ _ _ _ _ _
      | exact ih5 _ _ _ _ _ _ _
      | exact executive_Curtail.mono _ _ _
      | exact gridmarketlaw43_awake.mono _
      | exact LeO.none _
      | refine LeO.ite ?_ ?_
      | refine LeO.bind ?_ (fun _ => ?_)
    · intro y0 y1 y2 y3
      unfold gridmarketlaw43_ExecutiveFair.j1
      repeat' first
      | (with_reducible exact ih0 _ _ _ _ _)
      | (with_reducible exact ih1 _ _ _ _)
      | (with_reducible exact ih2 _ _ _ _ _ _ _)
      | (with_reducible exact ih3 _ _ _ _ _ _ _)
      | (with_reducible exact ih4 _ _ _ _ _ _ _ _)
      | (with_reducible exact ih5 _ _ _ _ _ _ _)
      | (with_reducible exact executive_Curtail.mono _ _ _)
      | (with_reducible exact gridmarketlaw43_awake.mono _)
      | (with_reducible exact LeO.refl _)
      | (with_reducible exact LeO.none _)
      | (with_reducible refine LeO.ite ?_ ?_)
      | (with_reducible refine LeO.bind ?_ (fun _ => ?_))
      | exact ih0 _ _ _ _ _
      | exact ih1 _ _ _ _
      | exact ih2 _ _ _ _ _ _ _
      | exact ih3 _ _ _ _ _ _ _
      | exact ih4 _ _ _ _ _ _ _ _
      | exact ih5 _ _ _ _ _ _ _
      | exact executive_Curtail.mono _ _ _
      | exact gridmarketlaw43_awake.mono _
      | exact LeO.none _
      | refine LeO.ite ?_ ?_
      | refine LeO.bind ?_ (fun _ => ?_)
    · intro y0 y1 y2 y3 y4 y5 y6
      unfold gridmarketlaw43_ExecutiveFair.l1
      repeat' first
      | (with_reducible exact ih0 _ _ _ _ _)
      | (with_reducible exact ih1 _ _ _ _)
      | (with_reducible exact ih2 _ _ _ _ _ _ _)
      | (with_reducible exact ih3 _ _ _ _ _ _ _)
      | (with_reducible exact ih4 _ _ _ _ _ _ _ _)
      | (with_reducible exact ih5 _ _ _ _ _ _ _)
      | (with_reducible exact executive_Curtail.mono _ _ _)
      | (with_reducible exact gridmarketlaw43_awake.mono _)
      | (with_reducible exact LeO.refl _)
      | (with_reducible exact LeO.none _)
      | (with_reducible refine LeO.ite ?_ ?_)
      | (with_reducible refine LeO.bind ?_ (fun _ => ?_))
      | exact ih0 _ _ _ _ _
      | exact ih1 _ _ _ _
      | exact ih2 _ _ _ _ _ _ _
      | exact ih3 _ _ _ _ _ _ _
      | exact ih4 _ _ _ _ _ _ _ _
      | exact ih5 _ _ _ _ _ _ _
      | exact executive_Curtail.mono _ _ _
      | exact gridmarketlaw43_awake.mono _
      | exact LeO.none _
      | refine LeO.ite ?_ ?_
      | refine LeO.bind ?_ (fun _ => ?_)
    · intro y0 y1 y2 y3 y4 y5 y6
      unfold gridmarketlaw43_ExecutiveFair.l2
      repeat' first
      | (with_reducible exact ih0 _ _ _ _ _)
      | (with_reducible exact ih1 _ _ _ _)
      | (with_reducible exact ih2 _ _ _ _ _ _ _)
      | (with_reducible exact ih3 _ _ _ _ _ _ _)
      | (with_reducible exact ih4 _ _ _ _ _ _ _ _)
      | (with_reducible exact ih5 _ _ _ _ _ _ _)
      | (with_reducible exact executive_Curtail.mono _ _ _)
      | (with_reducible exact gridmarketlaw43_awake.mono _)
      | (with_reducible exact LeO.refl _)
      | (with_reducible exact LeO.none _)
      | (with_reducible refine LeO.ite ?_ ?_)
      | (with_reducible refine LeO.bind ?_ (fun _ => ?_))
      | exact ih0 _ _ _ _ _
      | exact ih1 _ _ _ _
      | exact ih2 _ _ _ _ _ _ _
      | exact ih3 _ _ _ _ _ _ _
      | exact ih4 _ _ _ _ _ _ _ _
      | exact ih5 _ _ _ _ _ _ _
      | exact executive_Curtail.mono _ _ _
      | exact gridmarketlaw43_awake.mono _
      | exact LeO.none _
      | refine LeO.ite ?_ ?_
      | refine LeO.bind ?_ (fun _ => ?_)
    · intro y0 y1 y2 y3 y4 y5 y6 y7
      unfold gridmarketlaw43_ExecutiveFair.l3
      repeat' first
      | (with_reducible exact ih0 _ _ _ _ _)
      | (with_reducible exact ih1 _ _ _ _)
      | (with_reducible exact ih2 _ _ _ _ _ _ _)
      | (with_reducible exact ih3 _ _ _ _ _ _ _)
      | (with_reducible exact ih4 _ _ _ _ _ _ _ _)
      | (with_reducible exact ih5 _ _ _ _ _ _ _)
      | (with_reducible exact executive_Curtail.mono _ _ _)
      | (with_reducible exact gridmarketlaw43_awake.mono _)
      | (with_reducible exact LeO.refl _)
      | (with_reducible exact LeO.none _)
      | (with_reducible refine LeO.ite ?_ ?_)
      | (with_reducible refine LeO.bind ?_ (fun _ => ?_))
      | exact ih0 _ _ _ _ _
      | exact ih1 _ _ _ _
      | exact ih2 _ _ _ _ _ _ _
      | exact ih3 _ _ _ _ _ _ _
      | exact ih4 _ _ _ _ _ _ _ _
      | exact ih5 _ _ _ _ _ _ _
      | exact executive_Curtail.mono _ _ _
      | exact gridmarketlaw43_awake.mono _
      | exact LeO.none _
      | refine LeO.ite ?_ ?_
      | refine LeO.bind ?_ (fun _ => ?_)
    · intro y0 y1 y2 y3 y4 y5 y6
      unfold gridmarketlaw43_ExecutiveFair.l4
      repeat' first
      | (with_reducible exact ih0 _ _ _ _ _)
      | (with_reducible exact ih1 _ _ _ _)
      | (with_reducible exact ih2 _ _ _ _ _ _ _)
      | (with_reducible exact ih3 _ _ _ _ _ _ _)
      | (with_reducible exact ih4 _ _ _ _ _ _ _ _)
      | (with_reducible exact ih5 _ _ _ _ _ _ _)
      | (with_reducible exact executive_Curtail.mono _ _ _)
      | (with_reducible exact gridmarketlaw43_awake.mono _)
      | (with_reducible exact LeO.refl _)
      | (with_reducible exact LeO.none _)
      | (with_reducible refine LeO.ite ?_ ?_)
      | (with_reducible refine LeO.bind ?_ (fun _ => ?_))
      | exact ih0 _ _ _ _ _
      | exact ih1 _ _ _ _
      | exact ih2 _ _ _ _ _ _ _
      | exact ih3 _ _ _ _ _ _ _
      | exact ih4 _ _ _ _ _ _ _ _
      | exact ih5 _ _ _ _ _ _ _
      | exact executive_Curtail.mono _ _ _
      | exact gridmarketlaw43_awake.mono _
      | exact LeO.none _
      | refine LeO.ite ?_ ?_
      | refine LeO.bind ?_ (fun _ => ?_)
theorem gridmarketlaw43_ExecutiveFair.mono : ∀ a0 a1 k, LeO (gridmarketlaw43_ExecutiveFair.f k a0 a1) (gridmarketlaw43_ExecutiveFair.f (k + 1) a0 a1) := by
  intro a0 a1 k
  obtain ⟨ih0, ih1, ih2, ih3, ih4, ih5⟩ := gridmarketlaw43_ExecutiveFair.mono_l k
  unfold gridmarketlaw43_ExecutiveFair.f
  repeat' first
      | (with_reducible exact ih0 _ _ _ _ _)
      | (with_reducible exact ih1 _ _ _ _)
      | (with_reducible exact ih2 _ _ _ _ _ _ _)
      | (with_reducible exact ih3 _ _ _ _ _ _ _)
      | (with_reducible exact ih4 _ _ _ _ _ _ _ _)
      | (with_reducible exact ih5 _ _ _ _ _ _ _)
      | (with_reducible exact executive_Curtail.mono _ _ _)
      | (with_reducible exact gridmarketlaw43_awake.mono _)
      | (with_reducible exact LeO.refl _)
      | (with_reducible exact LeO.none _)
      | (with_reducible refine LeO.ite ?_ ?_)
      | (with_reducible refine LeO.bind ?_ (fun _ => ?_))
      | exact ih0 _ _ _ _ _
      | exact ih1 _ _ _ _
      | exact ih2 _ _ _ _ _ _ _
      | exact ih3 _ _ _ _ _ _ _
      | exact ih4 _ _ _ _ _ _ _ _
      | exact ih5 _ _ _ _ _ _ _
      | exact executive_Curtail.mono _ _ _
      | exact gridmarketlaw43_awake.mono _
      | exact LeO.none _
      | refine LeO.ite ?_ ?_
      | refine LeO.bind ?_ (fun _ => ?_)
def gridmarketlaw43_ExecutiveFair.T8 : Bool × List (List Nat × List Nat) := (true, [([], []), ([], []), ([], []), ([1, 2], [1, 2]), ([3], [3]), ([4], [4]), ([], []), ([], []), ([6, 7], [6, 7]), ([8], [8]), ([9], [9]), ([10, 5], [10]), ([5, 11], [5, 11]), ([12], [12]), ([0, 13, 11], [0, 13]), ([14, 14, 0, 1, 2, 3, 4, 5, 6, 7, 8, 9, 10, 11, 12, 13, 14], [0, 14])])
def gridmarketlaw43_ExecutiveFair.B8 : List Nat := [0, 0, 0, 6, 14, 30, 0, 0, 192, 448, 960, 2046, 4094, 8190, 16383, 32767]
theorem gridmarketlaw43_ExecutiveFair.tab8 : rtab .any (opsOf Try.f4 8) = gridmarketlaw43_ExecutiveFair.T8 := by kernel_rfl
theorem gridmarketlaw43_ExecutiveFair.bits8 : waitsOk gridmarketlaw43_ExecutiveFair.T8.2 gridmarketlaw43_ExecutiveFair.B8 = true := by kernel_rfl
def gridmarketlaw43_ExecutiveFair.T19 : Bool × List (List Nat × List Nat) := (true, [([], []), ([], []), ([0, 1], [0, 1]), ([2], [2]), ([3], [3]), ([4], [4]), ([5], [5]), ([5], [5]), ([6, 7, 5], [5, 6, 7]), ([8, 5], [5, 8]), ([5], [5]), ([5], [5]), ([10, 11, 5], [5, 10, 11]), ([12, 5], [5, 12]), ([13, 5], [5, 13]), ([9, 14, 5], [5, 9, 14]), ([5, 15], [5, 15])])
def gridmarketlaw43_ExecutiveFair.B19 : List Nat := [0, 0, 3, 7, 15, 31, 63, 63, 255, 511, 63, 63, 3135, 7231, 15423, 32767, 65535]
theorem gridmarketlaw43_ExecutiveFair.tab19 : rtab .any (opsOf Try.f4 19) = gridmarketlaw43_ExecutiveFair.T19 := by kernel_rfl
theorem gridmarketlaw43_ExecutiveFair.bits19 : waitsOk gridmarketlaw43_ExecutiveFair.T19.2 gridmarketlaw43_ExecutiveFair.B19 = true := by kernel_rfl
def gridmarketlaw43_ExecutiveFair.T22 : Bool × List (List Nat × List Nat) := (true, [([], []), ([], []), ([0, 1], [0, 1]), ([2], [2]), ([3], [3]), ([4], [4]), ([5], [5]), ([], []), ([], []), ([7, 8], [7, 8]), ([9], [9]), ([6, 10], [6, 10]), ([4, 0, 1, 2, 3, 4, 5, 6, 7, 8, 9, 10, 11], [4]), ([12, 11, 0, 1, 2, 3, 4, 5, 6, 7, 8, 9, 10, 11], [11, 12])])
def gridmarketlaw43_ExecutiveFair.B22 : List Nat := [0, 0, 3, 7, 15, 31, 63, 0, 0, 384, 896, 2047, 4095, 8191]
theorem gridmarketlaw43_ExecutiveFair.tab22 : rtab .any (opsOf Try.f4 22) = gridmarketlaw43_ExecutiveFair.T22 := by kernel_rfl
theorem gridmarketlaw43_ExecutiveFair.bits22 : waitsOk gridmarketlaw43_ExecutiveFair.T22.2 gridmarketlaw43_ExecutiveFair.B22 = true := by kernel_rfl
def gridmarketlaw43_ExecutiveFair.T23 : Bool × List (List Nat × List Nat) := (true, [([], []), ([], []), ([0, 1], [0, 1]), ([2], [2]), ([3], [3]), ([4], [4]), ([5], [5]), ([], []), ([], []), ([7, 8], [7, 8]), ([9], [9]), ([10], [10]), ([6, 11], [6, 11]), ([4, 0, 1, 2, 3, 4, 5, 6, 7, 8, 9, 10, 11, 12], [4]), ([13, 12, 0, 1, 2, 3, 4, 5, 6, 7, 8, 9, 10, 11, 12], [12, 13])])
def gridmarketlaw43_ExecutiveFair.B23 : List Nat := [0, 0, 3, 7, 15, 31, 63, 0, 0, 384, 896, 1920, 4095, 8191, 16383]
theorem gridmarketlaw43_ExecutiveFair.tab23 : rtab .any (opsOf Try.f4 23) = gridmarketlaw43_ExecutiveFair.T23 := by kernel_rfl
theorem gridmarketlaw43_ExecutiveFair.bits23 : waitsOk gridmarketlaw43_ExecutiveFair.T23.2 gridmarketlaw43_ExecutiveFair.B23 = true := by kernel_rfl
def gridmarketlaw43_ExecutiveFair.T30 : Bool × List (List Nat × List Nat) := (true, [([], []), ([0], [0]), ([1], [1]), ([2], [2]), ([3], [3]), ([4], [4]), ([5, 4], [4, 5]), ([6, 4], [4, 6]), ([4], [4]), ([8, 4], [4, 8]), ([9, 4], [4, 9]), ([7, 10, 4], [4, 7, 10]), ([4, 11], [4, 11])])
def gridmarketlaw43_ExecutiveFair.B30 : List Nat := [0, 1, 3, 7, 15, 31, 63, 127, 31, 287, 799, 2047, 4095]
theorem gridmarketlaw43_ExecutiveFair.tab30 : rtab .any (opsOf Try.f4 30) = gridmarketlaw43_ExecutiveFair.T30 := by kernel_rfl
theorem gridmarketlaw43_ExecutiveFair.bits30 : waitsOk gridmarketlaw43_ExecutiveFair.T30.2 gridmarketlaw43_ExecutiveFair.B30 = true := by kernel_rfl
def gridmarketlaw43_ExecutiveFair.T36 : Bool × List (List Nat × List Nat) := (true, [([], []), ([], []), ([0, 1], [0, 1]), ([2], [2]), ([], []), ([4], [4]), ([5], [5]), ([3, 6], [3, 6]), ([], []), ([8], [8]), ([9], [9]), ([], []), ([], []), ([11, 12], [11, 12]), ([13], [13]), ([14], [14]), ([10, 15], [10, 15]), ([7, 16], [7, 16]), ([17, 0, 1, 2, 3, 4, 5, 6, 7, 8, 9, 10, 11, 12, 13, 14, 15, 16, 17], [17])])
def gridmarketlaw43_ExecutiveFair.B36 : List Nat := [0, 0, 3, 7, 0, 16, 48, 127, 0, 256, 768, 0, 0, 6144, 14336, 30720, 65280, 131071, 262143]
theorem gridmarketlaw43_ExecutiveFair.tab36 : rtab .any (opsOf Try.f4 36) = gridmarketlaw43_ExecutiveFair.T36 := by kernel_rfl
theorem gridmarketlaw43_ExecutiveFair.bits36 : waitsOk gridmarketlaw43_ExecutiveFair.T36.2 gridmarketlaw43_ExecutiveFair.B36 = true := by kernel_rfl
set_option maxHeartbeats 8000000 in
set_option maxRecDepth 100000 in
theorem gridmarketlaw43_ExecutiveFair.calls (k : Nat) (A0 : Option Addr) (c0 : Nat) (l0 : List Int) (a1 : Int) (r : Bool) (w : World) (hr0 : Kd.C (Kd.int .i64) w A0 l0.length l0) (hc0 : l0.length ≤ c0) (h : gridmarketlaw43_ExecutiveFair.f k l0 a1 = some r) :
    Calls Try.prog 4 #[.slice A0 l0.length c0, .int .i64 a1] w fun e w' => e = .returned (.bool r) ∧ Below w.heap.size w w' := by
  have hu25 := Try.underlying25
  have HR0 := Aside0.mk hr0
  have HC0 := Aside0.mk hc0
  clear hr0 hc0
  have HB := Aside0.mk (Below.refl w.heap.size w)
  have H : (if (l0.length : Int) > 32 then (some true) else (gridmarketlaw43_ExecutiveFair.l0 k l0 a1 ([] : List (S25)) 0 0)) = some r := h
  clear h
  by_cases c3 : (l0.length : Int) > 32
  ·
   rw [if_pos c3] at H
   have c3b0 : decide (32 < (l0.length : Int)) = true := decide_eq_true c3
   have c3b1 : decide (32 < l0.length) = true := decide_eq_true (by omega)
   clear c3
   obtain rfl := Option.some.inj H
   go_enter Try.func4, Try.ntmps4
   go_wp2
   go_ret
   exact ⟨by first | rfl | (simp [errW_none, errW_some] <;> rfl) | (simp [*, errW_none, errW_some] <;> rfl), by repeat (first | (with_reducible first | exact HB.out | apply below_alloc | apply pw_below_drewN | apply below_drew1) | exact HB.out)⟩
  ·
   rw [if_neg c3] at H
   have c3b0 : decide (32 < (l0.length : Int)) = false := decide_eq_false c3
   have c3b1 : decide (32 < l0.length) = false := decide_eq_false (by omega)
   clear c3
   have H' := Aside0.mk H
   clear H
   go_enter Try.func4, Try.ntmps4
   go_wp2
   go_loopg [5, 6, 7] k (fun kq v5 v6 v7 w' => ∃ (x5_1 : List (S25)) (x6_1 : Int) (x7_1 : Int), v6 = .int .i64 x6_1 ∧ v7 = .int .i64 x7_1 ∧ Aside0 (gridmarketlaw43_ExecutiveFair.l0 kq l0 a1 x5_1 x6_1 x7_1 = some r) ∧ Aside0 (kq ≤ k) ∧ Aside0 (Kd.R k25 25 w' w.heap.size (fun _ => True) v5 x5_1) ∧ Aside0 (Below w.heap.size w w'))
   case atStart => exact ⟨(([] : List (S25))), (0), (0), (by first | rfl | (simp; done) | (simp [*]; done)), (by first | rfl | (simp; done) | (simp [*]; done)), H', ⟨Nat.le_refl _⟩, ⟨by first | exact Kd.R_nil _ _ _ _ _ | exact Kd.N_nil _ _ _ _ _ | exact Kd.V_nil _ _ _ _ _ | exact Kd.Q_nil _ _ _ _ _ | exact Kd.S_nil _ _ _ _ _⟩, ⟨by repeat (first | (with_reducible first | exact HB.out | apply below_alloc | apply pw_below_drewN | apply below_drew1) | exact HB.out)⟩⟩
   case round =>
    clear H'
    try clear p2
    try clear c3
    try clear c3b0
    try clear c3b1
    obtain ⟨x5_1, x6_1, x7_1, rfl, rfl, HA, HK1, HO_5, HB⟩ := hrel
    cases gk with
    | zero => exact absurd HA.out (by simp [gridmarketlaw43_ExecutiveFair.l0])
    | succ k1 =>
     have H := HA.out
     clear HA
     simp only [gridmarketlaw43_ExecutiveFair.l0] at H
     by_cases c4 : x7_1 < (l0.length : Int)
     ·
      rw [if_pos c4] at H
      have c4b0 : decide (x7_1 < (l0.length : Int)) = true := decide_eq_true c4
      clear c4
      by_cases c5 : 0 ≤ x7_1
      ·
       rw [if_pos c5] at H
       have c5b0 : decide (0 ≤ x7_1) = true := decide_eq_true c5
       clear c5
       replace H := Option.bind_eq_some_iff.mp H
       obtain ⟨t160, A60, H⟩ := H
       replace H : ((gridmarketmake_Mod.f (wrap64 (Int.tdiv (rd l0 x7_1) 30)) 3).bind fun t162 => (if x5_1.length < 8796093022208 then ((some (x5_1 ++ [(⟨t160, t162⟩ : S25)] : List (S25))).bind fun y163 => (if x7_1 < (y163.length : Int) then (gridmarketlaw43_ExecutiveFair.l0 k1 l0 a1 y163 (wrap64 (x6_1 + ((rd_T25 y163 x7_1).f0))) (wrap64 (x7_1 + 1))) else (none))) else (none))) = some r := H
       have A6 := Aside0.mk A60
       clear A60
       replace H := Option.bind_eq_some_iff.mp H
       obtain ⟨t162, A70, H⟩ := H
       replace H : (if x5_1.length < 8796093022208 then ((some (x5_1 ++ [(⟨t160, t162⟩ : S25)] : List (S25))).bind fun y163 => (if x7_1 < (y163.length : Int) then (gridmarketlaw43_ExecutiveFair.l0 k1 l0 a1 y163 (wrap64 (x6_1 + ((rd_T25 y163 x7_1).f0))) (wrap64 (x7_1 + 1))) else (none))) else (none)) = some r := H
       have A7 := Aside0.mk A70
       clear A70
       by_cases c8 : x5_1.length < 8796093022208
       ·
        rw [if_pos c8] at H
        have LMc8 := Aside0.mk c8
        clear c8
        obtain ⟨y163, hy163⟩ : ∃ y_ : List (S25), y_ = (x5_1 ++ [(⟨t160, t162⟩ : S25)]) := ⟨_, rfl⟩
        replace H : (if x7_1 < (y163.length : Int) then (gridmarketlaw43_ExecutiveFair.l0 k1 l0 a1 y163 (wrap64 (x6_1 + ((rd_T25 y163 x7_1).f0))) (wrap64 (x7_1 + 1))) else (none)) = some r := by first | (rw [hy163]; with_reducible exact H) | (have H2_ := (Option.bind_some _ _).symm.trans H; rw [hy163]; with_reducible exact H2_) | (have H2_ := (Option.bind_some _ _).symm.trans H; with_reducible exact H2_) | with_reducible exact H | (rw [hy163]; exact H) | exact H
        have Ny163 := Aside0.mk hy163
        clear hy163
        by_cases c9 : x7_1 < (y163.length : Int)
        ·
         rw [if_pos c9] at H
         have c9b0 : decide (x7_1 < (y163.length : Int)) = true := decide_eq_true c9
         clear c9
         have H' := Aside0.mk H
         clear H
         try go_wp2
         have n0_ := Aside0.mk (Kd.R_drew HO_5.out)
         have n1_ := Aside0.mk (below_drew1 HB.out)
         clear HO_5
         clear HB
         have HO_5 := n0_
         have HB := n1_
         clear n0_ n1_
         have p159 : 0 ≤ (x7_1 : Int) := of_decide_eq_true (by first | (with_reducible assumption) | assumption)
         have q159 : x7_1 < (l0.length : Int) := of_decide_eq_true (by first | (with_reducible assumption) | assumption)
         obtain ⟨ad159, e159, hx159_0⟩ := Kd.at_int HR0.out x7_1 p159 q159
         have hw159_0 := hx159_0
         cases e159
         replace hx159_0 := (HB.out.cell (World.block_lt_of_cell? w _ hx159_0)).trans hx159_0
         replace p159 := eq_true p159
         replace q159 := eq_true q159
         have p161 : 0 ≤ (x7_1 : Int) := of_decide_eq_true (by first | (with_reducible assumption) | assumption)
         have q161 : x7_1 < (l0.length : Int) := of_decide_eq_true (by first | (with_reducible assumption) | assumption)
         obtain ⟨ad161, e161, hx161_0⟩ := Kd.at_int HR0.out x7_1 p161 q161
         have hw161_0 := hx161_0
         obtain rfl : ad159 = ad161 := (by injection e161)
         replace hx161_0 := (HB.out.cell (World.block_lt_of_cell? w _ hx161_0)).trans hx161_0
         replace p161 := eq_true p161
         replace q161 := eq_true q161
         refine start_ (n := 16) (S := fun w' => w'.cell? (ad159.add (x7_1).toNat) = some (.int .i64 (rd l0 x7_1)) ∧ w'.cell? (ad159.add (x7_1).toNat) = some (.int .i64 (rd l0 x7_1))) (ds := []) #[false, false, false, false, false, false, false, false, false, false, false, false, false, false, false, false] (by kernel_rfl) rfl rfl ⟨((HB.out.cell (World.block_lt_of_cell? w _ hw159_0)).trans hw159_0), ((HB.out.cell (World.block_lt_of_cell? w _ hw161_0)).trans hw161_0)⟩ (fun hHeld => ?_); refine with_tabW gridmarketlaw43_ExecutiveFair.tab8 gridmarketlaw43_ExecutiveFair.bits8 (fun HT_ HW_ => ?_)
         generalize wr.drew = w10 at HO_5 HB hx159_0 hx161_0 hHeld ⊢
         refine pure_ (i := 0) (N := some 28) (v := ?_) (a' := ?_) #[true, false, false, false, false, false, false, false, false, false, false, false, false, false, false, false] rfl rfl (any_of HT_.out (by kernel_rfl)) (fun _ _ _ h => h) (Or.inl ⟨by rfl, ?_⟩) ?_ ?_
         rotate_left
         ·
          intro w'
          go_simp
          with_reducible rfl
         rotate_left
         ·
          simp only [Act.put, List.setIfInBounds_toArray, List.set_cons_zero, List.set_cons_succ, i64_w, i32_w]
          rfl
         refine pure_ (i := 1) (N := some 29) (v := ?_) (a' := ?_) #[true, true, false, false, false, false, false, false, false, false, false, false, false, false, false, false] rfl rfl (any_of HT_.out (by kernel_rfl)) (fun _ _ _ h => h) (Or.inl ⟨by rfl, ?_⟩) ?_ ?_
         rotate_left
         ·
          intro w'
          go_simp
          with_reducible rfl
         rotate_left
         ·
          simp only [Act.put, List.setIfInBounds_toArray, List.set_cons_zero, List.set_cons_succ, i64_w, i32_w]
          rfl
         refine pure_ (i := 2) (N := some 30) (v := ?_) (a' := ?_) #[true, true, true, false, false, false, false, false, false, false, false, false, false, false, false, false] rfl rfl (any_of HT_.out (by kernel_rfl)) (fun _ _ _ h => h) (Or.inl ⟨by rfl, ?_⟩) ?_ ?_
         rotate_left
         ·
          intro w'
          go_simp
          with_reducible rfl
         rotate_left
         ·
          simp only [Act.put, List.setIfInBounds_toArray, List.set_cons_zero, List.set_cons_succ, i64_w, i32_w]
          rfl
         refine pure_ (i := 3) (N := some 31) (v := ?_) (a' := ?_) #[true, true, true, true, false, false, false, false, false, false, false, false, false, false, false, false] rfl rfl (any_of HT_.out (by kernel_rfl)) (fun _ _ _ h => h) (Or.inl ⟨by rfl, ?_⟩) ?_ ?_
         rotate_left
         ·
          intro w'
          go_simp
          with_reducible rfl
         rotate_left
         ·
          simp only [Act.put, List.setIfInBounds_toArray, List.set_cons_zero, List.set_cons_succ, i64_w, i32_w]
          rfl
         refine pure_ (i := 6) (N := some 34) (v := ?_) (a' := ?_) #[true, true, true, true, false, false, true, false, false, false, false, false, false, false, false, false] rfl rfl (any_of HT_.out (by kernel_rfl)) (fun _ _ _ h => h) (Or.inl ⟨by rfl, ?_⟩) ?_ ?_
         rotate_left
         ·
          intro w'
          go_simp
          with_reducible rfl
         rotate_left
         ·
          simp only [Act.put, List.setIfInBounds_toArray, List.set_cons_zero, List.set_cons_succ, i64_w, i32_w]
          rfl
         refine pure_ (i := 7) (N := some 35) (v := ?_) (a' := ?_) #[true, true, true, true, false, false, true, true, false, false, false, false, false, false, false, false] rfl rfl (any_of HT_.out (by kernel_rfl)) (fun _ _ _ h => h) (Or.inl ⟨by rfl, ?_⟩) ?_ ?_
         rotate_left
         ·
          intro w'
          go_simp
          with_reducible rfl
         rotate_left
         ·
          simp only [Act.put, List.setIfInBounds_toArray, List.set_cons_zero, List.set_cons_succ, i64_w, i32_w]
          rfl
         refine pure_ (i := 8) (N := some 36) (v := ?_) (a' := ?_) #[true, true, true, true, false, false, true, true, true, false, false, false, false, false, false, false] rfl rfl (any_of HT_.out (by kernel_rfl)) (fun _ _ _ h => h) (Or.inl ⟨by rfl, ?_⟩) ?_ ?_
         rotate_left
         ·
          intro w'
          go_simp
          with_reducible rfl
         rotate_left
         ·
          simp only [Act.put, List.setIfInBounds_toArray, List.set_cons_zero, List.set_cons_succ, i64_w, i32_w]
          rfl
         refine take_ (i := 4) (N := some 32) (v := ?_) (a' := ?_) #[true, true, true, true, true, false, true, true, true, false, false, false, false, false, false, false] rfl rfl (take_ofW HT_.out HW_.out (by kernel_rfl)) (fun _ _ _ h => h) (Or.inl ⟨by rfl, ?_⟩) hHeld ?_ ?_
         rotate_left
         ·
          rintro w' ⟨s0, s1⟩
          go_simp
          with_reducible rfl
         rotate_left
         ·
          simp only [Act.put, List.setIfInBounds_toArray, List.set_cons_zero, List.set_cons_succ, i64_w, i32_w]
          rfl
         refine take_ (i := 9) (N := some 37) (v := ?_) (a' := ?_) #[true, true, true, true, true, false, true, true, true, true, false, false, false, false, false, false] rfl rfl (take_ofW HT_.out HW_.out (by kernel_rfl)) (fun _ _ _ h => h) (Or.inl ⟨by rfl, ?_⟩) hHeld ?_ ?_
         rotate_left
         ·
          rintro w' ⟨s0, s1⟩
          go_simp
          with_reducible rfl
         rotate_left
         ·
          simp only [Act.put, List.setIfInBounds_toArray, List.set_cons_zero, List.set_cons_succ, i64_w, i32_w]
          rfl
         refine pure_ (i := 10) (N := some 38) (v := ?_) (a' := ?_) #[true, true, true, true, true, false, true, true, true, true, true, false, false, false, false, false] rfl rfl (any_of HT_.out (by kernel_rfl)) (fun _ _ _ h => h) (Or.inl ⟨by rfl, ?_⟩) ?_ ?_
         rotate_left
         ·
          intro w'
          go_simp
          with_reducible rfl
         rotate_left
         ·
          simp only [Act.put, List.setIfInBounds_toArray, List.set_cons_zero, List.set_cons_succ, i64_w, i32_w]
          rfl
         refine one_ (i := 5) (N := some 33) #[true, true, true, true, true, true, true, true, true, true, true, false, false, false, false, false] rfl rfl (one_of HT_.out (by kernel_rfl)) (by decide) (fun K hK => ?_)
         refine goes_ Try.func7 (by kernel_rfl) rfl #[.int .i64 (rd l0 x7_1), .int .i64 30] (by rfl) rfl rfl (by (try simp only [List.map_toArray, List.map_cons, List.map_nil]); first | done | rfl | (simp only [List.length_drop, List.length_take]; rfl)) ?_
         with_reducible refine (gridmarketmake_Mod.calls (rd l0 x7_1) 30 t160 _ A6.out).mono ?_
         rintro e w' ⟨rfl, ⟨nd, rfl⟩⟩
         refine ⟨_, rfl, ?_⟩
         refine hK.out _ _ ⟨((HB.out.cell (World.block_lt_of_cell? w _ hw159_0)).trans hw159_0), ((HB.out.cell (World.block_lt_of_cell? w _ hw161_0)).trans hw161_0)⟩ (fun hHeld => ?_)
         clear hK K
         refine norm_ (a' := ?_) ?_ ?_
         rotate_left
         ·
          show Act.put _ (some 33) _ = _
          simp only [Act.put, List.setIfInBounds_toArray, List.set_cons_zero, List.set_cons_succ, i64_w, i32_w]
          rfl
         refine one_ (i := 11) (N := some 39) #[true, true, true, true, true, true, true, true, true, true, true, true, false, false, false, false] rfl rfl (one_of HT_.out (by kernel_rfl)) (by decide) (fun K hK => ?_)
         refine goes_ Try.func7 (by kernel_rfl) rfl #[.int .i64 (wrap64 (Int.tdiv (rd l0 x7_1) 30)), .int .i64 3] (by rfl) rfl rfl (by (try simp only [List.map_toArray, List.map_cons, List.map_nil]); first | done | rfl | (simp only [List.length_drop, List.length_take]; rfl)) ?_
         with_reducible refine (gridmarketmake_Mod.calls (wrap64 (Int.tdiv (rd l0 x7_1) 30)) 3 t162 _ A7.out).mono ?_
         rintro e w' ⟨rfl, ⟨nd, rfl⟩⟩
         refine ⟨_, rfl, ?_⟩
         refine hK.out _ _ ⟨((HB.out.cell (World.block_lt_of_cell? w _ hw159_0)).trans hw159_0), ((HB.out.cell (World.block_lt_of_cell? w _ hw161_0)).trans hw161_0)⟩ (fun hHeld => ?_)
         clear hK K
         refine norm_ (a' := ?_) ?_ ?_
         rotate_left
         ·
          show Act.put _ (some 39) _ = _
          simp only [Act.put, List.setIfInBounds_toArray, List.set_cons_zero, List.set_cons_succ, i64_w, i32_w]
          rfl
         refine pure_ (i := 12) (N := some 40) (v := ?_) (a' := ?_) #[true, true, true, true, true, true, true, true, true, true, true, true, true, false, false, false] rfl rfl (any_of HT_.out (by kernel_rfl)) (fun _ _ _ h => h) (Or.inl ⟨by rfl, ?_⟩) ?_ ?_
         rotate_left
         ·
          intro w'
          go_simp
          with_reducible rfl
         rotate_left
         ·
          simp only [Act.put, List.setIfInBounds_toArray, List.set_cons_zero, List.set_cons_succ, i64_w, i32_w]
          rfl
         refine one_ (i := 13) (N := some 41) #[true, true, true, true, true, true, true, true, true, true, true, true, true, true, false, false] rfl rfl (one_of HT_.out (by kernel_rfl)) (by decide) (fun K hK => ?_)
         refine value_ (w1 := ?_) (v := ?_) (by rfl) rfl ?_ ?_
         rotate_left 2
         ·
          go_simp
          constructor
          ·
           rfl
          ·
           rfl
         refine hK.out _ _ ⟨(World.cell?_alloc_lt _ _ _ (World.block_lt_of_cell? _ _ (((HB.out.cell (World.block_lt_of_cell? w _ hw159_0)).trans hw159_0)))).trans (((HB.out.cell (World.block_lt_of_cell? w _ hw159_0)).trans hw159_0)), (World.cell?_alloc_lt _ _ _ (World.block_lt_of_cell? _ _ (((HB.out.cell (World.block_lt_of_cell? w _ hw161_0)).trans hw161_0)))).trans (((HB.out.cell (World.block_lt_of_cell? w _ hw161_0)).trans hw161_0))⟩ (fun hHeld => ?_)
         clear hK K
         refine norm_ (a' := ?_) ?_ ?_
         rotate_left
         ·
          show Act.put _ (some 41) _ = _
          simp only [Act.put, List.setIfInBounds_toArray, List.set_cons_zero, List.set_cons_succ, i64_w, i32_w]
          rfl
         refine one_ (i := 14) (N := some 42) #[true, true, true, true, true, true, true, true, true, true, true, true, true, true, true, false] rfl rfl (one_of HT_.out (by kernel_rfl)) (by decide) (fun K hK => ?_)
         refine Kd.R_append_step k25 (w0 := w) w.heap.size (by rfl) (.tmp 28) (.tmp 41) 22 25 (.agg #[(.int .i64 0), (.int .i64 0)]) 16 rfl Try.underlying22 info25 rfl (by decide) (by omega) u5 x5_1 (⟨t160, t162⟩ : S25) [.int .i64 t160, .int .i64 t162] (fun _ => True) (fun _ => False) rfl rfl ?aP (fun _ hk => hk.elim) ?aF ?aO ?aB ?aS ?aL ?_
         (case aP => exact k25_mkM _ _ _ (⟨t160, t162⟩ : S25))
         (case aB => exact (by repeat (first | (with_reducible first | exact HB.out | apply below_alloc | apply pw_below_drewN | apply below_drew1) | exact HB.out)))
         (case aF => exact (fun _ _ => trivial))
         (case aO => exact (by (with_reducible repeat (first | apply Kd.R_alloc | apply Kd.R_drewN | apply Kd.R_drew)); exact HO_5.out))
         (case aS => exact (below_size (by repeat (first | (with_reducible first | exact HB.out | apply below_alloc | apply pw_below_drewN | apply below_drew1) | exact HB.out))))
         (case aL => have := LMc8.out; omega)
         intro v164 w11 ho hb hg hat
         rw [← Ny163.out] at ho
         have n0_ := Aside0.mk (hb)
         have n1_ := Aside0.mk (ho)
         clear HB
         clear HO_5
         have HB := n0_
         have HO165 := n1_
         clear n0_ n1_
         clear ho hb hg hat
         refine hK.out _ _ ⟨((HB.out.cell (World.block_lt_of_cell? w _ hw159_0)).trans hw159_0), ((HB.out.cell (World.block_lt_of_cell? w _ hw161_0)).trans hw161_0)⟩ (fun hHeld => ?_)
         clear hK K
         refine norm_ (a' := ?_) ?_ ?_
         rotate_left
         ·
          show Act.put _ (some 42) _ = _
          simp only [Act.put, List.setIfInBounds_toArray, List.set_cons_zero, List.set_cons_succ, i64_w, i32_w]
          rfl
         refine pure_ (i := 15) (N := some 5) (v := ?_) (a' := ?_) #[true, true, true, true, true, true, true, true, true, true, true, true, true, true, true, true] rfl rfl (any_of HT_.out (by kernel_rfl)) (fun _ _ _ h => h) (Or.inl ⟨by rfl, ?_⟩) ?_ ?_
         rotate_left
         ·
          intro w'
          go_simp
          with_reducible rfl
         rotate_left
         ·
          simp only [Act.put, List.setIfInBounds_toArray, List.set_cons_zero, List.set_cons_succ, i64_w, i32_w]
          rfl
         refine done_ (done_of HT_.out (by kernel_rfl)) ?_
         obtain ⟨Ao12, co12, eo12⟩ := Kd.R_slice HO165.out
         subst eo12
         have p166 : 0 ≤ (x7_1 : Int) := of_decide_eq_true (by first | (with_reducible assumption) | assumption)
         have q166 : x7_1 < (y163.length : Int) := of_decide_eq_true (by first | (with_reducible assumption) | assumption)
         obtain ⟨ad166, e166, hx166_0, hx166_1⟩ := at_T25 (Kd.R_reads' HO165.out).2.2 x7_1 p166 q166
         cases e166
         replace p166 := eq_true p166
         replace q166 := eq_true q166
         try go_wp2
         go_roundg k1
         case measure => have := HK1.out; omega
         case rel => exact ⟨(y163), (wrap64 (x6_1 + ((rd_T25 y163 x7_1).f0))), (wrap64 (x7_1 + 1)), (by first | rfl | (simp; done) | (simp [*]; done)), (by first | rfl | (simp; done) | (simp [*]; done)), H', ⟨by have := HK1.out; omega⟩, ⟨by (with_reducible repeat (first | apply Kd.R_alloc | apply Kd.R_drewN | apply Kd.R_drew)); exact HO165.out⟩, ⟨by repeat (first | (with_reducible first | exact HB.out | apply below_alloc | apply pw_below_drewN | apply below_drew1) | exact HB.out)⟩⟩
        ·
         rw [if_neg c9] at H
         exact absurd H (by simp)
       ·
        rw [if_neg c8] at H
        exact absurd H (by simp)
      ·
       rw [if_neg c5] at H
       exact absurd H (by simp)
     ·
      rw [if_neg c4] at H
      have c4b0 : decide (x7_1 < (l0.length : Int)) = false := decide_eq_false c4
      clear c4
      replace H := Option.bind_eq_some_iff.mp H
      obtain ⟨t167, A130, H⟩ := H
      replace H : ((executive_Curtail.f k1 x5_1 t167).bind fun bt168 => ((gridmarketlaw43_awake.f k1).bind fun t172 => (if t172 = true then (if bt168.2 = 0 then (gridmarketlaw43_ExecutiveFair.j1 k1 t167 x5_1 bt168.1 ((bt168.1.length : Int) != (x5_1.length : Int))) else (gridmarketlaw43_ExecutiveFair.j1 k1 t167 x5_1 bt168.1 true)) else (gridmarketlaw43_ExecutiveFair.j1 k1 t167 x5_1 bt168.1 true)))) = some r := H
      have A13 := Aside0.mk A130
      clear A130
      replace H := Option.bind_eq_some_iff.mp H
      obtain ⟨⟨t168, t169⟩, A140, H⟩ := H
      replace H : ((gridmarketlaw43_awake.f k1).bind fun t172 => (if t172 = true then (if t169 = 0 then (gridmarketlaw43_ExecutiveFair.j1 k1 t167 x5_1 t168 ((t168.length : Int) != (x5_1.length : Int))) else (gridmarketlaw43_ExecutiveFair.j1 k1 t167 x5_1 t168 true)) else (gridmarketlaw43_ExecutiveFair.j1 k1 t167 x5_1 t168 true))) = some r := H
      have A14 := Aside0.mk A140
      clear A140
      have HC15 := Aside0.mk H
      clear H
      go_upto_region 12 with (first | ((with_reducible refine gate_callee (f := 7) rfl ?_); refine goesL_ (some 53) rfl rfl Try.func7 (by kernel_rfl) rfl #[.int .i64 a1, .int .i64 (wrap64 (x6_1 + 1))] rfl (by (try simp only [List.map_toArray, List.map_cons, List.map_nil]); first | done | rfl | (simp only [List.length_drop, List.length_take]; rfl)) ?_; (with_reducible refine (gridmarketmake_Mod.calls a1 (wrap64 (x6_1 + 1)) t167 _ A13.out).mono ?_); rintro e w' ⟨rfl, ⟨nd, rfl⟩⟩; refine ⟨_, rfl, ?_⟩; obtain ⟨Ao16, co16, eo16⟩ := Kd.R_slice HO_5.out; subst eo16) | ((with_reducible refine gate_callee (f := 8) rfl ?_); refine goesL_ (some 57) rfl rfl Try.func8 (by kernel_rfl) rfl #[.slice Ao16 x5_1.length co16, .int .i64 t167] rfl (by (try simp only [List.map_toArray, List.map_cons, List.map_nil]); first | done | rfl | (simp only [List.length_drop, List.length_take]; rfl)) ?_; (with_reducible refine (executive_Curtail.calls k1 _ _ x5_1 t167 t168 t169 _ ?side1 ?side2 A14.out).mono ?_); (case side1 => repeat (first | exact (Kd.R_reads' HO_5.out).2.2 | (with_reducible refine Kd.C_alloc ?_ _) | (with_reducible refine Kd.C_drewN ?_ _) | (with_reducible refine Kd.C_drew ?_))); (case side2 => exact (Kd.R_reads' HO_5.out).2.1); rintro e w17 ⟨v170, rfl, ho0, hb⟩; refine ⟨_, rfl, ?_⟩; have n0_ := Aside0.mk (Kd.R_below (by (with_reducible repeat (first | apply Kd.R_alloc | apply Kd.R_drewN | apply Kd.R_drew)); exact HO_5.out) hb); have n1_ := Aside0.mk (Kd.R_lower ho0 (below_size (by repeat (first | (with_reducible first | exact HB.out | apply below_alloc | apply pw_below_drewN | apply below_drew1) | exact HB.out)))); have n2_ := Aside0.mk (below_step (by repeat (first | (with_reducible first | exact HB.out | apply below_alloc | apply pw_below_drewN | apply below_drew1) | exact HB.out)) hb); clear HO_5; clear HB; have HO_5 := n0_; have HO171 := n1_; have HB := n2_; clear n0_ n1_ n2_; (try clear hb); (try clear hb2); (try clear hk); (try clear hi); (try clear ho0)))
      (try simp only [Act.put, List.setIfInBounds_toArray, List.set_cons_zero, List.set_cons_succ])
      go_cut [72] (fun v72 wc => ∃ (kq : Nat) (x72_14 : Bool), v72 = .bool x72_14 ∧ Aside0 (gridmarketlaw43_ExecutiveFair.j1 kq t167 x5_1 t168 x72_14 = some r) ∧ Aside0 (kq ≤ k1) ∧ Aside0 (Kd.R k25 25 wc w.heap.size (fun _ => True) (.slice Ao16 x5_1.length co16) x5_1) ∧ Aside0 (Kd.R (Kd.int .i64) 3 wc w.heap.size (fun _ => True) v170 t168) ∧ Aside0 (Below w.heap.size w wc))
      case first =>
       have H := HC15.out
       clear HC15
       replace H := Option.bind_eq_some_iff.mp H
       obtain ⟨t172, A180, H⟩ := H
       replace H : (if t172 = true then (if t169 = 0 then (gridmarketlaw43_ExecutiveFair.j1 k1 t167 x5_1 t168 ((t168.length : Int) != (x5_1.length : Int))) else (gridmarketlaw43_ExecutiveFair.j1 k1 t167 x5_1 t168 true)) else (gridmarketlaw43_ExecutiveFair.j1 k1 t167 x5_1 t168 true)) = some r := H
       have A18 := Aside0.mk A180
       clear A180
       by_cases c19 : t172 = true
       ·
        subst c19
        have H1 : (if t169 = 0 then (gridmarketlaw43_ExecutiveFair.j1 k1 t167 x5_1 t168 ((t168.length : Int) != (x5_1.length : Int))) else (gridmarketlaw43_ExecutiveFair.j1 k1 t167 x5_1 t168 true)) = some r := by rw [if_pos rfl] at H; exact H
        clear H
        have H := H1
        clear H1
        by_cases c20 : t169 = 0
        ·
         rw [if_pos c20] at H
         have c20b0 : (t169 == 0) = true := beq_iff_eq.mpr c20
         have c20b1 : (t169 != 0) = false := bne_eq_false_iff_eq.mpr c20
         clear c20
         (first | rw [c20b0] | (simp only [i64_w, i32_w]; rw [c20b0]) | skip)
         have H' := Aside0.mk H
         clear H
         go_wp2_with (first | ((with_reducible refine gate_callee (f := 10) rfl ?_); refine goesL_ (some 60) rfl rfl Try.func10 (by kernel_rfl) rfl #[] rfl (by (try simp only [List.map_toArray, List.map_cons, List.map_nil]); first | done | rfl | (simp only [List.length_drop, List.length_take]; rfl)) ?_; (with_reducible refine (gridmarketlaw43_awake.calls k1  true _ A18.out).mono ?_); rintro e w21 ⟨rfl, hb⟩; refine ⟨_, rfl, ?_⟩; have n0_ := Aside0.mk (Kd.R_below (by (with_reducible repeat (first | apply Kd.R_alloc | apply Kd.R_drewN | apply Kd.R_drew)); exact HO_5.out) hb); have n1_ := Aside0.mk (Kd.R_below (by (with_reducible repeat (first | apply Kd.R_alloc | apply Kd.R_drewN | apply Kd.R_drew)); exact HO171.out) hb); have n2_ := Aside0.mk (below_step (by repeat (first | (with_reducible first | exact HB.out | apply below_alloc | apply pw_below_drewN | apply below_drew1) | exact HB.out)) hb); clear HO_5; clear HO171; clear HB; have HO_5 := n0_; have HO171 := n1_; have HB := n2_; clear n0_ n1_ n2_; (try clear hb); (try clear hb2); (try clear hk); (try clear hi); obtain ⟨Ao22, co22, eo22⟩ := Kd.R_slice HO171.out; subst eo22))
         go_meet
         case rel => exact ⟨_, (((t168.length : Int) != (x5_1.length : Int))), (by first | rfl | (simp; done) | (simp [*]; done)), H', ⟨by have := HK1.out; first | omega | exact Nat.le_refl _⟩, ⟨by (with_reducible repeat (first | apply Kd.R_alloc | apply Kd.R_drewN | apply Kd.R_drew)); exact HO_5.out⟩, ⟨by (with_reducible repeat (first | apply Kd.R_alloc | apply Kd.R_drewN | apply Kd.R_drew)); exact HO171.out⟩, ⟨by repeat (first | (with_reducible first | exact HB.out | apply below_alloc | apply pw_below_drewN | apply below_drew1) | exact HB.out)⟩⟩
        ·
         rw [if_neg c20] at H
         have c20b0 : (t169 == 0) = false := beq_eq_false_iff_ne.mpr c20
         have c20b1 : (t169 != 0) = true := bne_iff_ne.mpr c20
         (first | rw [c20b0] | (simp only [i64_w, i32_w]; rw [c20b0]) | skip)
         have H' := Aside0.mk H
         clear H
         go_wp2_with (first | ((with_reducible refine gate_callee (f := 10) rfl ?_); refine goesL_ (some 60) rfl rfl Try.func10 (by kernel_rfl) rfl #[] rfl (by (try simp only [List.map_toArray, List.map_cons, List.map_nil]); first | done | rfl | (simp only [List.length_drop, List.length_take]; rfl)) ?_; (with_reducible refine (gridmarketlaw43_awake.calls k1  true _ A18.out).mono ?_); rintro e w23 ⟨rfl, hb⟩; refine ⟨_, rfl, ?_⟩; have n0_ := Aside0.mk (Kd.R_below (by (with_reducible repeat (first | apply Kd.R_alloc | apply Kd.R_drewN | apply Kd.R_drew)); exact HO_5.out) hb); have n1_ := Aside0.mk (Kd.R_below (by (with_reducible repeat (first | apply Kd.R_alloc | apply Kd.R_drewN | apply Kd.R_drew)); exact HO171.out) hb); have n2_ := Aside0.mk (below_step (by repeat (first | (with_reducible first | exact HB.out | apply below_alloc | apply pw_below_drewN | apply below_drew1) | exact HB.out)) hb); clear HO_5; clear HO171; clear HB; have HO_5 := n0_; have HO171 := n1_; have HB := n2_; clear n0_ n1_ n2_; (try clear hb); (try clear hb2); (try clear hk); (try clear hi)))
         go_meet
         case rel => exact ⟨_, (true), (by first | rfl | (simp; done) | (simp [*]; done)), H', ⟨by have := HK1.out; first | omega | exact Nat.le_refl _⟩, ⟨by (with_reducible repeat (first | apply Kd.R_alloc | apply Kd.R_drewN | apply Kd.R_drew)); exact HO_5.out⟩, ⟨by (with_reducible repeat (first | apply Kd.R_alloc | apply Kd.R_drewN | apply Kd.R_drew)); exact HO171.out⟩, ⟨by repeat (first | (with_reducible first | exact HB.out | apply below_alloc | apply pw_below_drewN | apply below_drew1) | exact HB.out)⟩⟩
       ·
        replace c19 := Bool.eq_false_iff.mpr c19
        subst c19
        have H1 : (gridmarketlaw43_ExecutiveFair.j1 k1 t167 x5_1 t168 true) = some r := by rw [if_neg (show ¬ (false = true) by decide)] at H; exact H
        clear H
        have H := H1
        clear H1
        have H' := Aside0.mk H
        clear H
        go_wp2_with (first | ((with_reducible refine gate_callee (f := 10) rfl ?_); refine goesL_ (some 60) rfl rfl Try.func10 (by kernel_rfl) rfl #[] rfl (by (try simp only [List.map_toArray, List.map_cons, List.map_nil]); first | done | rfl | (simp only [List.length_drop, List.length_take]; rfl)) ?_; (with_reducible refine (gridmarketlaw43_awake.calls k1  false _ A18.out).mono ?_); rintro e w24 ⟨rfl, hb⟩; refine ⟨_, rfl, ?_⟩; have n0_ := Aside0.mk (Kd.R_below (by (with_reducible repeat (first | apply Kd.R_alloc | apply Kd.R_drewN | apply Kd.R_drew)); exact HO_5.out) hb); have n1_ := Aside0.mk (Kd.R_below (by (with_reducible repeat (first | apply Kd.R_alloc | apply Kd.R_drewN | apply Kd.R_drew)); exact HO171.out) hb); have n2_ := Aside0.mk (below_step (by repeat (first | (with_reducible first | exact HB.out | apply below_alloc | apply pw_below_drewN | apply below_drew1) | exact HB.out)) hb); clear HO_5; clear HO171; clear HB; have HO_5 := n0_; have HO171 := n1_; have HB := n2_; clear n0_ n1_ n2_; (try clear hb); (try clear hb2); (try clear hk); (try clear hi)))
        go_meet
        case rel => exact ⟨_, (true), (by first | rfl | (simp; done) | (simp [*]; done)), H', ⟨by have := HK1.out; first | omega | exact Nat.le_refl _⟩, ⟨by (with_reducible repeat (first | apply Kd.R_alloc | apply Kd.R_drewN | apply Kd.R_drew)); exact HO_5.out⟩, ⟨by (with_reducible repeat (first | apply Kd.R_alloc | apply Kd.R_drewN | apply Kd.R_drew)); exact HO171.out⟩, ⟨by repeat (first | (with_reducible first | exact HB.out | apply below_alloc | apply pw_below_drewN | apply below_drew1) | exact HB.out)⟩⟩
      case rest =>
       clear HC15
       try clear c1
       try clear p1
       try clear q1
       try clear hx1
       try clear c2
       try clear p2
       try clear c3
       try clear c3b0
       try clear c3b1
       try clear c4
       try clear c4b0
       try clear c5
       try clear c5b0
       try clear p6
       try clear c7
       try clear c8
       try clear c9
       try clear c9b0
       try clear c10
       try clear p15
       try clear q15
       try clear hx15
       try clear p16
       try clear q16
       try clear hx16
       try clear c19
       try clear c20
       try clear c20b0
       try clear c20b1
       try clear hx159_0
       try clear hx161_0
       try clear hx166_0
       try clear hx166_1
       try clear p159
       try clear p161
       try clear p166
       try clear p2
       try clear q159
       try clear q161
       try clear q166
       obtain ⟨kq, x72_14, rfl, HA, HJ14, HO_5, HO_8, HB⟩ := hcut
       cases kq with
       | zero => exact absurd HA.out (by simp [gridmarketlaw43_ExecutiveFair.j1])
       | succ kj14 =>
        have H := HA.out
        clear HA
        simp only [gridmarketlaw43_ExecutiveFair.j1] at H
        by_cases c25 : x72_14 = true
        ·
         subst c25
         have H1 : (some false) = some r := by rw [if_pos rfl] at H; exact H
         clear H
         have H := H1
         clear H1
         obtain rfl := Option.some.inj H
         go_wp2
         go_ret
         exact ⟨by first | rfl | (simp [errW_none, errW_some] <;> rfl) | (simp [*, errW_none, errW_some] <;> rfl), by repeat (first | (with_reducible first | exact HB.out | apply below_alloc | apply pw_below_drewN | apply below_drew1) | exact HB.out)⟩
        ·
         replace c25 := Bool.eq_false_iff.mpr c25
         subst c25
         have H1 : (gridmarketlaw43_ExecutiveFair.l1 kj14 t167 x5_1 t168 0 (List.replicate 3 (0 : Int)) (List.replicate 3 (0 : Int)) 0) = some r := by rw [if_neg (show ¬ (false = true) by decide)] at H; exact H
         clear H
         have H := H1
         clear H1
         obtain ⟨y173, hy173⟩ : ∃ y_ : List Int, y_ = (List.replicate 3 (0 : Int)) := ⟨_, rfl⟩
         replace H : (gridmarketlaw43_ExecutiveFair.l1 kj14 t167 x5_1 t168 0 y173 (List.replicate 3 (0 : Int)) 0) = some r := by first | (rw [hy173]; with_reducible exact H) | (have H2_ := (Option.bind_some _ _).symm.trans H; rw [hy173]; with_reducible exact H2_) | (have H2_ := (Option.bind_some _ _).symm.trans H; with_reducible exact H2_) | with_reducible exact H | (rw [hy173]; exact H) | exact H
         have Ny173 := Aside0.mk hy173
         clear hy173
         obtain ⟨y177, hy177⟩ : ∃ y_ : List Int, y_ = (List.replicate 3 (0 : Int)) := ⟨_, rfl⟩
         replace H : (gridmarketlaw43_ExecutiveFair.l1 kj14 t167 x5_1 t168 0 y173 y177 0) = some r := by first | (rw [hy177]; with_reducible exact H) | (have H2_ := (Option.bind_some _ _).symm.trans H; rw [hy177]; with_reducible exact H2_) | (have H2_ := (Option.bind_some _ _).symm.trans H; with_reducible exact H2_) | with_reducible exact H | (rw [hy177]; exact H) | exact H
         have Ny177 := Aside0.mk hy177
         clear hy177
         have H' := Aside0.mk H
         clear H
         go_wp2_with (first | ((with_reducible refine gate_dst (N := 11) rfl ?_); (try (refine gate_guard (by rfl) ?_; dsimp only)); refine Own.arr_event (e := 33) (N := 11) rfl rfl 3 ?hr (by decide) (ok := fun _ => True) trivial (Below.refl _ _) (Nat.le_refl _) ?_; (case hr => first | (go_simp; done) | (go_simp; rfl)); intro ga176 w26 ho27 hb hg_ hnew_; clear hg_ hnew_; (first | rw [← Ny173.out] at ho27 | (simp only [Int.reduceToNat] at ho27; rw [← Ny173.out] at ho27)); have n0_ := Aside0.mk (Kd.R_below (by (with_reducible repeat (first | apply Kd.R_alloc | apply Kd.R_drewN | apply Kd.R_drew)); exact HO_5.out) hb); have n1_ := Aside0.mk (Kd.R_below (by (with_reducible repeat (first | apply Kd.R_alloc | apply Kd.R_drewN | apply Kd.R_drew)); exact HO_8.out) hb); have n2_ := Aside0.mk (Kd.R_lower ho27 (below_size (by repeat (first | (with_reducible first | exact HB.out | apply below_alloc | apply pw_below_drewN | apply below_drew1) | exact HB.out)))); have n3_ := Aside0.mk (below_step (by repeat (first | (with_reducible first | exact HB.out | apply below_alloc | apply pw_below_drewN | apply below_drew1) | exact HB.out)) hb); clear HO_5; clear HO_8; clear HB; have HO_5 := n0_; have HO_8 := n1_; have HO175 := n2_; have HB := n3_; clear n0_ n1_ n2_ n3_; clear hb ho27) | ((with_reducible refine gate_dst (N := 12) rfl ?_); (try (refine gate_guard (by rfl) ?_; dsimp only)); refine Own.arr_event (e := 33) (N := 12) rfl rfl 3 ?hr (by decide) (ok := fun _ => True) trivial (Below.refl _ _) (Nat.le_refl _) ?_; (case hr => first | (go_simp; done) | (go_simp; rfl)); intro ga180 w28 ho29 hb hg_ hnew_; clear hg_ hnew_; (first | rw [← Ny177.out] at ho29 | (simp only [Int.reduceToNat] at ho29; rw [← Ny177.out] at ho29)); have n0_ := Aside0.mk (Kd.R_below (by (with_reducible repeat (first | apply Kd.R_alloc | apply Kd.R_drewN | apply Kd.R_drew)); exact HO_5.out) hb); have n1_ := Aside0.mk (Kd.R_below (by (with_reducible repeat (first | apply Kd.R_alloc | apply Kd.R_drewN | apply Kd.R_drew)); exact HO_8.out) hb); have n2_ := Aside0.mk (Kd.R_elder' (by (with_reducible repeat (first | apply Kd.R_alloc | apply Kd.R_drewN | apply Kd.R_drew)); exact HO175.out) (Kd.R_base ho29) hb); have n3_ := Aside0.mk (Kd.R_lower (Kd.R_new' ho29 (Kd.R_lt (by (with_reducible repeat (first | apply Kd.R_alloc | apply Kd.R_drewN | apply Kd.R_drew)); exact HO175.out))) (below_size (by repeat (first | (with_reducible first | exact HB.out | apply below_alloc | apply pw_below_drewN | apply below_drew1) | exact HB.out)))); have n4_ := Aside0.mk (below_step (by repeat (first | (with_reducible first | exact HB.out | apply below_alloc | apply pw_below_drewN | apply below_drew1) | exact HB.out)) hb); clear HO_5; clear HO_8; clear HO175; clear HB; have HO_5 := n0_; have HO_8 := n1_; have HO175 := n2_; have HO179 := n3_; have HB := n4_; clear n0_ n1_ n2_ n3_ n4_; clear hb ho29))
         go_loopg [10, 13] kj14 (fun kq v10 v13 w' => ∃ (x10_3 : Int) (x11_3 : List Int) (x12_3 : List Int) (x13_3 : Int), v10 = .int .i64 x10_3 ∧ v13 = .int .i64 x13_3 ∧ Aside0 (gridmarketlaw43_ExecutiveFair.l1 kq t167 x5_1 t168 x10_3 x11_3 x12_3 x13_3 = some r) ∧ Aside0 (kq ≤ kj14) ∧ Aside0 (Kd.R k25 25 w' w.heap.size (fun _ => True) (.slice Ao16 x5_1.length co16) x5_1) ∧ Aside0 (Kd.R (Kd.int .i64) 3 w' w.heap.size (fun _ => True) v170 t168) ∧ Aside0 (Kd.R (Kd.int .i64) 33 w' w.heap.size (fun k_ => some k_ ≠ ((.slice (some ⟨ga180, 0, none⟩) 3 3) : Value).ownBlock) (.slice (some ⟨ga176, 0, none⟩) 3 3) x11_3) ∧ Aside0 (Kd.R (Kd.int .i64) 33 w' w.heap.size (fun k_ => some k_ ≠ ((.slice (some ⟨ga176, 0, none⟩) 3 3) : Value).ownBlock) (.slice (some ⟨ga180, 0, none⟩) 3 3) x12_3) ∧ Aside0 (Below w.heap.size w w'))
         case atStart => exact ⟨(0), (y173), (y177), (0), (by first | rfl | (simp; done) | (simp [*]; done)), (by first | rfl | (simp; done) | (simp [*]; done)), H', ⟨Nat.le_refl _⟩, ⟨by (with_reducible repeat (first | apply Kd.R_alloc | apply Kd.R_drewN | apply Kd.R_drew)); exact HO_5.out⟩, ⟨by (with_reducible repeat (first | apply Kd.R_alloc | apply Kd.R_drewN | apply Kd.R_drew)); exact HO_8.out⟩, ⟨by (with_reducible repeat (first | apply Kd.R_alloc | apply Kd.R_drewN | apply Kd.R_drew)); exact Kd.R_mono HO175.out (fun _ hk => hk.2)⟩, ⟨by (with_reducible repeat (first | apply Kd.R_alloc | apply Kd.R_drewN | apply Kd.R_drew)); exact Kd.R_mono HO179.out (fun _ hk => hk.2)⟩, ⟨by repeat (first | (with_reducible first | exact HB.out | apply below_alloc | apply pw_below_drewN | apply below_drew1) | exact HB.out)⟩⟩
         case round =>
          clear H'
          try clear c1
          try clear p1
          try clear q1
          try clear hx1
          try clear c2
          try clear p2
          try clear c3
          try clear c3b0
          try clear c3b1
          try clear c4
          try clear c4b0
          try clear c5
          try clear c5b0
          try clear p6
          try clear c7
          try clear c8
          try clear c9
          try clear c9b0
          try clear c10
          try clear p15
          try clear q15
          try clear hx15
          try clear p16
          try clear q16
          try clear hx16
          try clear c19
          try clear c20
          try clear c20b0
          try clear c20b1
          try clear c25
          try clear hx159_0
          try clear hx161_0
          try clear hx166_0
          try clear hx166_1
          try clear p1
          try clear p15
          try clear p159
          try clear p16
          try clear p161
          try clear p166
          try clear p2
          try clear p6
          try clear q1
          try clear q15
          try clear q159
          try clear q16
          try clear q161
          try clear q166
          obtain ⟨x10_3, x11_3, x12_3, x13_3, rfl, rfl, HA, HK3, HO_5, HO_8, HO_11, HO_12, HB⟩ := hrel
          cases gk with
          | zero => exact absurd HA.out (by simp [gridmarketlaw43_ExecutiveFair.l1])
          | succ k3 =>
           have H := HA.out
           clear HA
           simp only [gridmarketlaw43_ExecutiveFair.l1] at H
           by_cases c30 : x13_3 < (t168.length : Int)
           ·
            rw [if_pos c30] at H
            have c30b0 : decide (x13_3 < (t168.length : Int)) = true := decide_eq_true c30
            clear c30
            by_cases c31 : 0 ≤ x13_3
            ·
             rw [if_pos c31] at H
             have c31b0 : decide (0 ≤ x13_3) = true := decide_eq_true c31
             clear c31
             by_cases c32 : (rd t168 x13_3) < 0
             ·
              rw [if_pos c32] at H
              have c32b0 : decide ((rd t168 x13_3) < 0) = true := decide_eq_true c32
              clear c32
              obtain rfl := Option.some.inj H
              obtain ⟨Ao33, co33, eo33⟩ := Kd.R_slice HO_8.out
              subst eo33
              try go_wp2
              have n0_ := Aside0.mk (Kd.R_drew HO_5.out)
              have n1_ := Aside0.mk (Kd.R_drew HO_8.out)
              have n2_ := Aside0.mk (Kd.R_drew HO_11.out)
              have n3_ := Aside0.mk (Kd.R_drew HO_12.out)
              have n4_ := Aside0.mk (below_drew1 HB.out)
              clear HO_5
              clear HO_8
              clear HO_11
              clear HO_12
              clear HB
              have HO_5 := n0_
              have HO_8 := n1_
              have HO_11 := n2_
              have HO_12 := n3_
              have HB := n4_
              clear n0_ n1_ n2_ n3_ n4_
              have p181 : 0 ≤ (x13_3 : Int) := of_decide_eq_true (by first | (with_reducible assumption) | assumption)
              have q181 : x13_3 < (t168.length : Int) := of_decide_eq_true (by first | (with_reducible assumption) | assumption)
              obtain ⟨ad181, e181, hx181_0⟩ := Kd.at_int (Kd.R_reads' HO_8.out).2.2 x13_3 p181 q181
              cases e181
              replace p181 := eq_true p181
              replace q181 := eq_true q181
              refine start_ (n := 17) (S := fun w' => w'.cell? (ad181.add (x13_3).toNat) = some (.int .i64 (rd t168 x13_3))) (ds := []) #[false, false, false, false, false, false, false, false, false, false, false, false, false, false, false, false, false] (by kernel_rfl) rfl rfl (hx181_0) (fun hHeld => ?_); refine with_tabW gridmarketlaw43_ExecutiveFair.tab19 gridmarketlaw43_ExecutiveFair.bits19 (fun HT_ HW_ => ?_)
              generalize wr.drew = w34 at HO_5 HO_8 HO_11 HO_12 HB hx181_0 hHeld ⊢
              refine pure_ (i := 0) (N := some 79) (v := ?_) (a' := ?_) #[true, false, false, false, false, false, false, false, false, false, false, false, false, false, false, false, false] rfl rfl (any_of HT_.out (by kernel_rfl)) (fun _ _ _ h => h) (Or.inl ⟨by rfl, ?_⟩) ?_ ?_
              rotate_left
              ·
               intro w'
               go_simp
               with_reducible rfl
              rotate_left
              ·
               simp only [Act.put, List.setIfInBounds_toArray, List.set_cons_zero, List.set_cons_succ, i64_w, i32_w]
               rfl
              refine pure_ (i := 1) (N := some 80) (v := ?_) (a' := ?_) #[true, true, false, false, false, false, false, false, false, false, false, false, false, false, false, false, false] rfl rfl (any_of HT_.out (by kernel_rfl)) (fun _ _ _ h => h) (Or.inl ⟨by rfl, ?_⟩) ?_ ?_
              rotate_left
              ·
               intro w'
               go_simp
               with_reducible rfl
              rotate_left
              ·
               simp only [Act.put, List.setIfInBounds_toArray, List.set_cons_zero, List.set_cons_succ, i64_w, i32_w]
               rfl
              refine pure_ (i := 2) (N := some 81) (v := ?_) (a' := ?_) #[true, true, true, false, false, false, false, false, false, false, false, false, false, false, false, false, false] rfl rfl (any_of HT_.out (by kernel_rfl)) (fun _ _ _ h => h) (Or.inl ⟨by rfl, ?_⟩) ?_ ?_
              rotate_left
              ·
               intro w'
               go_simp
               with_reducible rfl
              rotate_left
              ·
               simp only [Act.put, List.setIfInBounds_toArray, List.set_cons_zero, List.set_cons_succ, i64_w, i32_w]
               rfl
              refine take_ (i := 3) (N := some 82) (v := ?_) (a' := ?_) #[true, true, true, true, false, false, false, false, false, false, false, false, false, false, false, false, false] rfl rfl (take_ofW HT_.out HW_.out (by kernel_rfl)) (fun _ _ _ h => h) (Or.inl ⟨by rfl, ?_⟩) hHeld ?_ ?_
              rotate_left
              ·
               intro w' s0
               go_simp
               with_reducible rfl
              rotate_left
              ·
               simp only [Act.put, List.setIfInBounds_toArray, List.set_cons_zero, List.set_cons_succ, i64_w, i32_w]
               rfl
              refine pure_ (i := 4) (N := some 83) (v := ?_) (a' := ?_) #[true, true, true, true, true, false, false, false, false, false, false, false, false, false, false, false, false] rfl rfl (any_of HT_.out (by kernel_rfl)) (fun _ _ _ h => h) (Or.inl ⟨by rfl, ?_⟩) ?_ ?_
              rotate_left
              ·
               intro w'
               go_simp
               with_reducible rfl
              rotate_left
              ·
               simp only [Act.put, List.setIfInBounds_toArray, List.set_cons_zero, List.set_cons_succ, i64_w, i32_w]
               rfl
              refine pure_ (i := 5) (N := some 84) (v := ?_) (a' := ?_) #[true, true, true, true, true, true, false, false, false, false, false, false, false, false, false, false, false] rfl rfl (any_of HT_.out (by kernel_rfl)) (fun _ _ _ h => h) (Or.inl ⟨by rfl, ?_⟩) ?_ ?_
              rotate_left
              ·
               intro w'
               go_simp
               with_reducible rfl
              rotate_left
              ·
               simp only [Act.put, List.setIfInBounds_toArray, List.set_cons_zero, List.set_cons_succ, i64_w, i32_w]
               rfl
              refine pure_ (i := 6) (N := some 85) (v := undef) (a' := ?_) #[true, true, true, true, true, true, true, false, false, false, false, false, false, false, false, false, false] rfl rfl (any_of HT_.out (by kernel_rfl)) (fun _ _ _ h => h) (Or.inr ⟨by rfl, rfl⟩) ?_ ?_
              rotate_left
              ·
               simp only [Act.put, List.setIfInBounds_toArray, List.set_cons_zero, List.set_cons_succ, i64_w, i32_w]
               rfl
              refine pure_ (i := 7) (N := some 86) (v := undef) (a' := ?_) #[true, true, true, true, true, true, true, true, false, false, false, false, false, false, false, false, false] rfl rfl (any_of HT_.out (by kernel_rfl)) (fun _ _ _ h => h) (Or.inr ⟨by rfl, rfl⟩) ?_ ?_
              rotate_left
              ·
               simp only [Act.put, List.setIfInBounds_toArray, List.set_cons_zero, List.set_cons_succ, i64_w, i32_w]
               rfl
              refine pure_ (i := 8) (N := some 87) (v := undef) (a' := ?_) #[true, true, true, true, true, true, true, true, true, false, false, false, false, false, false, false, false] rfl rfl (any_of HT_.out (by kernel_rfl)) (fun _ _ _ h => h) (Or.inr ⟨by rfl, rfl⟩) ?_ ?_
              rotate_left
              ·
               simp only [Act.put, List.setIfInBounds_toArray, List.set_cons_zero, List.set_cons_succ, i64_w, i32_w]
               rfl
              refine pure_ (i := 9) (N := some 88) (v := undef) (a' := ?_) #[true, true, true, true, true, true, true, true, true, true, false, false, false, false, false, false, false] rfl rfl (any_of HT_.out (by kernel_rfl)) (fun _ _ _ h => h) (Or.inr ⟨by rfl, rfl⟩) ?_ ?_
              rotate_left
              ·
               simp only [Act.put, List.setIfInBounds_toArray, List.set_cons_zero, List.set_cons_succ, i64_w, i32_w]
               rfl
              refine pure_ (i := 10) (N := some 89) (v := undef) (a' := ?_) #[true, true, true, true, true, true, true, true, true, true, true, false, false, false, false, false, false] rfl rfl (any_of HT_.out (by kernel_rfl)) (fun _ _ _ h => h) (Or.inr ⟨by rfl, rfl⟩) ?_ ?_
              rotate_left
              ·
               simp only [Act.put, List.setIfInBounds_toArray, List.set_cons_zero, List.set_cons_succ, i64_w, i32_w]
               rfl
              refine pure_ (i := 11) (N := some 90) (v := undef) (a' := ?_) #[true, true, true, true, true, true, true, true, true, true, true, true, false, false, false, false, false] rfl rfl (any_of HT_.out (by kernel_rfl)) (fun _ _ _ h => h) (Or.inr ⟨by rfl, rfl⟩) ?_ ?_
              rotate_left
              ·
               simp only [Act.put, List.setIfInBounds_toArray, List.set_cons_zero, List.set_cons_succ, i64_w, i32_w]
               rfl
              refine pure_ (i := 12) (N := some 91) (v := undef) (a' := ?_) #[true, true, true, true, true, true, true, true, true, true, true, true, true, false, false, false, false] rfl rfl (any_of HT_.out (by kernel_rfl)) (fun _ _ _ h => h) (Or.inr ⟨by rfl, rfl⟩) ?_ ?_
              rotate_left
              ·
               simp only [Act.put, List.setIfInBounds_toArray, List.set_cons_zero, List.set_cons_succ, i64_w, i32_w]
               rfl
              refine pure_ (i := 13) (N := some 92) (v := undef) (a' := ?_) #[true, true, true, true, true, true, true, true, true, true, true, true, true, true, false, false, false] rfl rfl (any_of HT_.out (by kernel_rfl)) (fun _ _ _ h => h) (Or.inr ⟨by rfl, rfl⟩) ?_ ?_
              rotate_left
              ·
               simp only [Act.put, List.setIfInBounds_toArray, List.set_cons_zero, List.set_cons_succ, i64_w, i32_w]
               rfl
              refine pure_ (i := 14) (N := some 93) (v := undef) (a' := ?_) #[true, true, true, true, true, true, true, true, true, true, true, true, true, true, true, false, false] rfl rfl (any_of HT_.out (by kernel_rfl)) (fun _ _ _ h => h) (Or.inr ⟨by rfl, rfl⟩) ?_ ?_
              rotate_left
              ·
               simp only [Act.put, List.setIfInBounds_toArray, List.set_cons_zero, List.set_cons_succ, i64_w, i32_w]
               rfl
              refine pure_ (i := 15) (N := some 94) (v := undef) (a' := ?_) #[true, true, true, true, true, true, true, true, true, true, true, true, true, true, true, true, false] rfl rfl (any_of HT_.out (by kernel_rfl)) (fun _ _ _ h => h) (Or.inr ⟨by rfl, rfl⟩) ?_ ?_
              rotate_left
              ·
               simp only [Act.put, List.setIfInBounds_toArray, List.set_cons_zero, List.set_cons_succ, i64_w, i32_w]
               rfl
              refine pure_ (i := 16) (N := some 95) (v := ?_) (a' := ?_) #[true, true, true, true, true, true, true, true, true, true, true, true, true, true, true, true, true] rfl rfl (any_of HT_.out (by kernel_rfl)) (fun _ _ _ h => h) (Or.inl ⟨by rfl, ?_⟩) ?_ ?_
              rotate_left
              ·
               intro w'
               go_simp
               with_reducible rfl
              rotate_left
              ·
               simp only [Act.put, List.setIfInBounds_toArray, List.set_cons_zero, List.set_cons_succ, i64_w, i32_w]
               rfl
              refine done_ (done_of HT_.out (by kernel_rfl)) ?_
              try go_wp2
              go_ret
              exact ⟨by first | rfl | (simp [errW_none, errW_some] <;> rfl) | (simp [*, errW_none, errW_some] <;> rfl), by repeat (first | (with_reducible first | exact HB.out | apply below_alloc | apply pw_below_drewN | apply below_drew1) | exact HB.out)⟩
             ·
              rw [if_neg c32] at H
              have c32b0 : decide ((rd t168 x13_3) < 0) = false := decide_eq_false c32
              clear c32
              by_cases c35 : x13_3 < (x5_1.length : Int)
              ·
               rw [if_pos c35] at H
               have c35b0 : decide (x13_3 < (x5_1.length : Int)) = true := decide_eq_true c35
               clear c35
               by_cases c36 : (rd t168 x13_3) > ((rd_T25 x5_1 x13_3).f0)
               ·
                rw [if_pos c36] at H
                have c36b0 : decide (((rd_T25 x5_1 x13_3).f0) < (rd t168 x13_3)) = true := decide_eq_true c36
                clear c36
                obtain rfl := Option.some.inj H
                obtain ⟨Ao37, co37, eo37⟩ := Kd.R_slice HO_8.out
                subst eo37
                try go_wp2
                have n0_ := Aside0.mk (Kd.R_drew HO_5.out)
                have n1_ := Aside0.mk (Kd.R_drew HO_8.out)
                have n2_ := Aside0.mk (Kd.R_drew HO_11.out)
                have n3_ := Aside0.mk (Kd.R_drew HO_12.out)
                have n4_ := Aside0.mk (below_drew1 HB.out)
                clear HO_5
                clear HO_8
                clear HO_11
                clear HO_12
                clear HB
                have HO_5 := n0_
                have HO_8 := n1_
                have HO_11 := n2_
                have HO_12 := n3_
                have HB := n4_
                clear n0_ n1_ n2_ n3_ n4_
                have p181 : 0 ≤ (x13_3 : Int) := of_decide_eq_true (by first | (with_reducible assumption) | assumption)
                have q181 : x13_3 < (t168.length : Int) := of_decide_eq_true (by first | (with_reducible assumption) | assumption)
                obtain ⟨ad181, e181, hx181_0⟩ := Kd.at_int (Kd.R_reads' HO_8.out).2.2 x13_3 p181 q181
                cases e181
                replace p181 := eq_true p181
                replace q181 := eq_true q181
                have p182 : 0 ≤ (x13_3 : Int) := of_decide_eq_true (by first | (with_reducible assumption) | assumption)
                have q182 : x13_3 < (t168.length : Int) := of_decide_eq_true (by first | (with_reducible assumption) | assumption)
                obtain ⟨ad182, e182, hx182_0⟩ := Kd.at_int (Kd.R_reads' HO_8.out).2.2 x13_3 p182 q182
                obtain rfl : ad181 = ad182 := (by injection e182)
                replace p182 := eq_true p182
                replace q182 := eq_true q182
                have p183 : 0 ≤ (x13_3 : Int) := of_decide_eq_true (by first | (with_reducible assumption) | assumption)
                have q183 : x13_3 < (x5_1.length : Int) := of_decide_eq_true (by first | (with_reducible assumption) | assumption)
                obtain ⟨ad183, e183, hx183_0, hx183_1⟩ := at_T25 (Kd.R_reads' HO_5.out).2.2 x13_3 p183 q183
                cases e183
                replace p183 := eq_true p183
                replace q183 := eq_true q183
                refine start_ (n := 17) (S := fun w' => w'.cell? (ad181.add (x13_3).toNat) = some (.int .i64 (rd t168 x13_3)) ∧ w'.cell? (ad181.add (x13_3).toNat) = some (.int .i64 (rd t168 x13_3)) ∧ w'.cell? (ad183.add ((x13_3).toNat * 2)) = some (.int .i64 ((rd_T25 x5_1 x13_3).f0)) ∧ w'.cell? ⟨(ad183.add ((x13_3).toNat * 2)).block, (ad183.add ((x13_3).toNat * 2)).off + 1, none⟩ = some (.int .i64 ((rd_T25 x5_1 x13_3).f1))) (ds := []) #[false, false, false, false, false, false, false, false, false, false, false, false, false, false, false, false, false] (by kernel_rfl) rfl rfl ⟨hx181_0, hx182_0, hx183_0, hx183_1⟩ (fun hHeld => ?_); refine with_tabW gridmarketlaw43_ExecutiveFair.tab19 gridmarketlaw43_ExecutiveFair.bits19 (fun HT_ HW_ => ?_)
                generalize wr.drew = w38 at HO_5 HO_8 HO_11 HO_12 HB hx181_0 hx182_0 hx183_0 hx183_1 hHeld ⊢
                refine pure_ (i := 0) (N := some 79) (v := ?_) (a' := ?_) #[true, false, false, false, false, false, false, false, false, false, false, false, false, false, false, false, false] rfl rfl (any_of HT_.out (by kernel_rfl)) (fun _ _ _ h => h) (Or.inl ⟨by rfl, ?_⟩) ?_ ?_
                rotate_left
                ·
                 intro w'
                 go_simp
                 with_reducible rfl
                rotate_left
                ·
                 simp only [Act.put, List.setIfInBounds_toArray, List.set_cons_zero, List.set_cons_succ, i64_w, i32_w]
                 rfl
                refine pure_ (i := 1) (N := some 80) (v := ?_) (a' := ?_) #[true, true, false, false, false, false, false, false, false, false, false, false, false, false, false, false, false] rfl rfl (any_of HT_.out (by kernel_rfl)) (fun _ _ _ h => h) (Or.inl ⟨by rfl, ?_⟩) ?_ ?_
                rotate_left
                ·
                 intro w'
                 go_simp
                 with_reducible rfl
                rotate_left
                ·
                 simp only [Act.put, List.setIfInBounds_toArray, List.set_cons_zero, List.set_cons_succ, i64_w, i32_w]
                 rfl
                refine pure_ (i := 2) (N := some 81) (v := ?_) (a' := ?_) #[true, true, true, false, false, false, false, false, false, false, false, false, false, false, false, false, false] rfl rfl (any_of HT_.out (by kernel_rfl)) (fun _ _ _ h => h) (Or.inl ⟨by rfl, ?_⟩) ?_ ?_
                rotate_left
                ·
                 intro w'
                 go_simp
                 with_reducible rfl
                rotate_left
                ·
                 simp only [Act.put, List.setIfInBounds_toArray, List.set_cons_zero, List.set_cons_succ, i64_w, i32_w]
                 rfl
                refine take_ (i := 3) (N := some 82) (v := ?_) (a' := ?_) #[true, true, true, true, false, false, false, false, false, false, false, false, false, false, false, false, false] rfl rfl (take_ofW HT_.out HW_.out (by kernel_rfl)) (fun _ _ _ h => h) (Or.inl ⟨by rfl, ?_⟩) hHeld ?_ ?_
                rotate_left
                ·
                 rintro w' ⟨s0, s1, s2, s3⟩
                 go_simp
                 with_reducible rfl
                rotate_left
                ·
                 simp only [Act.put, List.setIfInBounds_toArray, List.set_cons_zero, List.set_cons_succ, i64_w, i32_w]
                 rfl
                refine pure_ (i := 4) (N := some 83) (v := ?_) (a' := ?_) #[true, true, true, true, true, false, false, false, false, false, false, false, false, false, false, false, false] rfl rfl (any_of HT_.out (by kernel_rfl)) (fun _ _ _ h => h) (Or.inl ⟨by rfl, ?_⟩) ?_ ?_
                rotate_left
                ·
                 intro w'
                 go_simp
                 with_reducible rfl
                rotate_left
                ·
                 simp only [Act.put, List.setIfInBounds_toArray, List.set_cons_zero, List.set_cons_succ, i64_w, i32_w]
                 rfl
                refine pure_ (i := 5) (N := some 84) (v := ?_) (a' := ?_) #[true, true, true, true, true, true, false, false, false, false, false, false, false, false, false, false, false] rfl rfl (any_of HT_.out (by kernel_rfl)) (fun _ _ _ h => h) (Or.inl ⟨by rfl, ?_⟩) ?_ ?_
                rotate_left
                ·
                 intro w'
                 go_simp
                 with_reducible rfl
                rotate_left
                ·
                 simp only [Act.put, List.setIfInBounds_toArray, List.set_cons_zero, List.set_cons_succ, i64_w, i32_w]
                 rfl
                refine pure_ (i := 6) (N := some 85) (v := ?_) (a' := ?_) #[true, true, true, true, true, true, true, false, false, false, false, false, false, false, false, false, false] rfl rfl (any_of HT_.out (by kernel_rfl)) (fun _ _ _ h => h) (Or.inl ⟨by rfl, ?_⟩) ?_ ?_
                rotate_left
                ·
                 intro w'
                 go_simp
                 with_reducible rfl
                rotate_left
                ·
                 simp only [Act.put, List.setIfInBounds_toArray, List.set_cons_zero, List.set_cons_succ, i64_w, i32_w]
                 rfl
                refine pure_ (i := 7) (N := some 86) (v := ?_) (a' := ?_) #[true, true, true, true, true, true, true, true, false, false, false, false, false, false, false, false, false] rfl rfl (any_of HT_.out (by kernel_rfl)) (fun _ _ _ h => h) (Or.inl ⟨by rfl, ?_⟩) ?_ ?_
                rotate_left
                ·
                 intro w'
                 go_simp
                 with_reducible rfl
                rotate_left
                ·
                 simp only [Act.put, List.setIfInBounds_toArray, List.set_cons_zero, List.set_cons_succ, i64_w, i32_w]
                 rfl
                refine pure_ (i := 8) (N := some 87) (v := ?_) (a' := ?_) #[true, true, true, true, true, true, true, true, true, false, false, false, false, false, false, false, false] rfl rfl (any_of HT_.out (by kernel_rfl)) (fun _ _ _ h => h) (Or.inl ⟨by rfl, ?_⟩) ?_ ?_
                rotate_left
                ·
                 intro w'
                 go_simp
                 with_reducible rfl
                rotate_left
                ·
                 simp only [Act.put, List.setIfInBounds_toArray, List.set_cons_zero, List.set_cons_succ, i64_w, i32_w]
                 rfl
                refine pure_ (i := 10) (N := some 89) (v := ?_) (a' := ?_) #[true, true, true, true, true, true, true, true, true, false, true, false, false, false, false, false, false] rfl rfl (any_of HT_.out (by kernel_rfl)) (fun _ _ _ h => h) (Or.inl ⟨by rfl, ?_⟩) ?_ ?_
                rotate_left
                ·
                 intro w'
                 go_simp
                 with_reducible rfl
                rotate_left
                ·
                 simp only [Act.put, List.setIfInBounds_toArray, List.set_cons_zero, List.set_cons_succ, i64_w, i32_w]
                 rfl
                refine pure_ (i := 11) (N := some 90) (v := ?_) (a' := ?_) #[true, true, true, true, true, true, true, true, true, false, true, true, false, false, false, false, false] rfl rfl (any_of HT_.out (by kernel_rfl)) (fun _ _ _ h => h) (Or.inl ⟨by rfl, ?_⟩) ?_ ?_
                rotate_left
                ·
                 intro w'
                 go_simp
                 with_reducible rfl
                rotate_left
                ·
                 simp only [Act.put, List.setIfInBounds_toArray, List.set_cons_zero, List.set_cons_succ, i64_w, i32_w]
                 rfl
                refine pure_ (i := 12) (N := some 91) (v := ?_) (a' := ?_) #[true, true, true, true, true, true, true, true, true, false, true, true, true, false, false, false, false] rfl rfl (any_of HT_.out (by kernel_rfl)) (fun _ _ _ h => h) (Or.inl ⟨by rfl, ?_⟩) ?_ ?_
                rotate_left
                ·
                 intro w'
                 go_simp
                 with_reducible rfl
                rotate_left
                ·
                 simp only [Act.put, List.setIfInBounds_toArray, List.set_cons_zero, List.set_cons_succ, i64_w, i32_w]
                 rfl
                refine pure_ (i := 13) (N := some 92) (v := ?_) (a' := ?_) #[true, true, true, true, true, true, true, true, true, false, true, true, true, true, false, false, false] rfl rfl (any_of HT_.out (by kernel_rfl)) (fun _ _ _ h => h) (Or.inl ⟨by rfl, ?_⟩) ?_ ?_
                rotate_left
                ·
                 intro w'
                 go_simp
                 with_reducible rfl
                rotate_left
                ·
                 simp only [Act.put, List.setIfInBounds_toArray, List.set_cons_zero, List.set_cons_succ, i64_w, i32_w]
                 rfl
                refine take_ (i := 9) (N := some 88) (v := ?_) (a' := ?_) #[true, true, true, true, true, true, true, true, true, true, true, true, true, true, false, false, false] rfl rfl (take_ofW HT_.out HW_.out (by kernel_rfl)) (fun _ _ _ h => h) (Or.inl ⟨by rfl, ?_⟩) hHeld ?_ ?_
                rotate_left
                ·
                 rintro w' ⟨s0, s1, s2, s3⟩
                 go_simp
                 with_reducible rfl
                rotate_left
                ·
                 simp only [Act.put, List.setIfInBounds_toArray, List.set_cons_zero, List.set_cons_succ, i64_w, i32_w]
                 rfl
                refine take_ (i := 14) (N := some 93) (v := ?_) (a' := ?_) #[true, true, true, true, true, true, true, true, true, true, true, true, true, true, true, false, false] rfl rfl (take_ofW HT_.out HW_.out (by kernel_rfl)) (fun _ _ _ h => h) (Or.inl ⟨by rfl, ?_⟩) hHeld ?_ ?_
                rotate_left
                ·
                 rintro w' ⟨s0, s1, s2, s3⟩
                 go_simp
                 with_reducible rfl
                rotate_left
                ·
                 simp only [Act.put, List.setIfInBounds_toArray, List.set_cons_zero, List.set_cons_succ, i64_w, i32_w]
                 rfl
                refine pure_ (i := 15) (N := some 94) (v := ?_) (a' := ?_) #[true, true, true, true, true, true, true, true, true, true, true, true, true, true, true, true, false] rfl rfl (any_of HT_.out (by kernel_rfl)) (fun _ _ _ h => h) (Or.inl ⟨by rfl, ?_⟩) ?_ ?_
                rotate_left
                ·
                 intro w'
                 go_simp
                 with_reducible rfl
                rotate_left
                ·
                 simp only [Act.put, List.setIfInBounds_toArray, List.set_cons_zero, List.set_cons_succ, i64_w, i32_w]
                 rfl
                refine pure_ (i := 16) (N := some 95) (v := ?_) (a' := ?_) #[true, true, true, true, true, true, true, true, true, true, true, true, true, true, true, true, true] rfl rfl (any_of HT_.out (by kernel_rfl)) (fun _ _ _ h => h) (Or.inl ⟨by rfl, ?_⟩) ?_ ?_
                rotate_left
                ·
                 intro w'
                 go_simp
                 with_reducible rfl
                rotate_left
                ·
                 simp only [Act.put, List.setIfInBounds_toArray, List.set_cons_zero, List.set_cons_succ, i64_w, i32_w]
                 rfl
                refine done_ (done_of HT_.out (by kernel_rfl)) ?_
                try go_wp2
                go_ret
                exact ⟨by first | rfl | (simp [errW_none, errW_some] <;> rfl) | (simp [*, errW_none, errW_some] <;> rfl), by repeat (first | (with_reducible first | exact HB.out | apply below_alloc | apply pw_below_drewN | apply below_drew1) | exact HB.out)⟩
               ·
                rw [if_neg c36] at H
                have c36b0 : decide (((rd_T25 x5_1 x13_3).f0) < (rd t168 x13_3)) = false := decide_eq_false c36
                clear c36
                by_cases c39 : 0 ≤ ((rd_T25 x5_1 x13_3).f1)
                ·
                 rw [if_pos c39] at H
                 have c39b0 : decide (0 ≤ ((rd_T25 x5_1 x13_3).f1)) = true := decide_eq_true c39
                 clear c39
                 by_cases c40 : ((rd_T25 x5_1 x13_3).f1) < 3
                 ·
                  rw [if_pos c40] at H
                  have c40b0 : decide (((rd_T25 x5_1 x13_3).f1) < 3) = true := decide_eq_true c40
                  clear c40
                  obtain ⟨y188, hy188⟩ : ∃ y_ : List Int, y_ = (x11_3.set (((rd_T25 x5_1 x13_3).f1) : Int).toNat (wrap64 ((rd x11_3 ((rd_T25 x5_1 x13_3).f1)) + (rd t168 x13_3)))) := ⟨_, rfl⟩
                  replace H : (gridmarketlaw43_ExecutiveFair.l1 k3 t167 x5_1 t168 (wrap64 (x10_3 + (rd t168 x13_3))) y188 (x12_3.set (((rd_T25 x5_1 x13_3).f1) : Int).toNat (wrap64 ((rd x12_3 ((rd_T25 x5_1 x13_3).f1)) + ((rd_T25 x5_1 x13_3).f0)))) (wrap64 (x13_3 + 1))) = some r := by first | (rw [hy188]; with_reducible exact H) | (have H2_ := (Option.bind_some _ _).symm.trans H; rw [hy188]; with_reducible exact H2_) | (have H2_ := (Option.bind_some _ _).symm.trans H; with_reducible exact H2_) | with_reducible exact H | (rw [hy188]; exact H) | exact H
                  have Ny188 := Aside0.mk hy188
                  clear hy188
                  obtain ⟨y192, hy192⟩ : ∃ y_ : List Int, y_ = (x12_3.set (((rd_T25 x5_1 x13_3).f1) : Int).toNat (wrap64 ((rd x12_3 ((rd_T25 x5_1 x13_3).f1)) + ((rd_T25 x5_1 x13_3).f0)))) := ⟨_, rfl⟩
                  replace H : (gridmarketlaw43_ExecutiveFair.l1 k3 t167 x5_1 t168 (wrap64 (x10_3 + (rd t168 x13_3))) y188 y192 (wrap64 (x13_3 + 1))) = some r := by first | (rw [hy192]; with_reducible exact H) | (have H2_ := (Option.bind_some _ _).symm.trans H; rw [hy192]; with_reducible exact H2_) | (have H2_ := (Option.bind_some _ _).symm.trans H; with_reducible exact H2_) | with_reducible exact H | (rw [hy192]; exact H) | exact H
                  have Ny192 := Aside0.mk hy192
                  clear hy192
                  have H' := Aside0.mk H
                  clear H
                  obtain ⟨Ao43, co43, eo43⟩ := Kd.R_slice HO_8.out
                  subst eo43
                  try go_wp2
                  have n0_ := Aside0.mk (Kd.R_drew HO_5.out)
                  have n1_ := Aside0.mk (Kd.R_drew HO_8.out)
                  have n2_ := Aside0.mk (Kd.R_drew HO_11.out)
                  have n3_ := Aside0.mk (Kd.R_drew HO_12.out)
                  have n4_ := Aside0.mk (below_drew1 HB.out)
                  clear HO_5
                  clear HO_8
                  clear HO_11
                  clear HO_12
                  clear HB
                  have HO_5 := n0_
                  have HO_8 := n1_
                  have HO_11 := n2_
                  have HO_12 := n3_
                  have HB := n4_
                  clear n0_ n1_ n2_ n3_ n4_
                  have p181 : 0 ≤ (x13_3 : Int) := of_decide_eq_true (by first | (with_reducible assumption) | assumption)
                  have q181 : x13_3 < (t168.length : Int) := of_decide_eq_true (by first | (with_reducible assumption) | assumption)
                  obtain ⟨ad181, e181, hx181_0⟩ := Kd.at_int (Kd.R_reads' HO_8.out).2.2 x13_3 p181 q181
                  cases e181
                  replace p181 := eq_true p181
                  replace q181 := eq_true q181
                  have p182 : 0 ≤ (x13_3 : Int) := of_decide_eq_true (by first | (with_reducible assumption) | assumption)
                  have q182 : x13_3 < (t168.length : Int) := of_decide_eq_true (by first | (with_reducible assumption) | assumption)
                  obtain ⟨ad182, e182, hx182_0⟩ := Kd.at_int (Kd.R_reads' HO_8.out).2.2 x13_3 p182 q182
                  obtain rfl : ad181 = ad182 := (by injection e182)
                  replace p182 := eq_true p182
                  replace q182 := eq_true q182
                  have p183 : 0 ≤ (x13_3 : Int) := of_decide_eq_true (by first | (with_reducible assumption) | assumption)
                  have q183 : x13_3 < (x5_1.length : Int) := of_decide_eq_true (by first | (with_reducible assumption) | assumption)
                  obtain ⟨ad183, e183, hx183_0, hx183_1⟩ := at_T25 (Kd.R_reads' HO_5.out).2.2 x13_3 p183 q183
                  cases e183
                  replace p183 := eq_true p183
                  replace q183 := eq_true q183
                  refine start_ (n := 17) (S := fun w' => w'.cell? (ad181.add (x13_3).toNat) = some (.int .i64 (rd t168 x13_3)) ∧ w'.cell? (ad181.add (x13_3).toNat) = some (.int .i64 (rd t168 x13_3)) ∧ w'.cell? (ad183.add ((x13_3).toNat * 2)) = some (.int .i64 ((rd_T25 x5_1 x13_3).f0)) ∧ w'.cell? ⟨(ad183.add ((x13_3).toNat * 2)).block, (ad183.add ((x13_3).toNat * 2)).off + 1, none⟩ = some (.int .i64 ((rd_T25 x5_1 x13_3).f1))) (ds := []) #[false, false, false, false, false, false, false, false, false, false, false, false, false, false, false, false, false] (by kernel_rfl) rfl rfl ⟨hx181_0, hx182_0, hx183_0, hx183_1⟩ (fun hHeld => ?_); refine with_tabW gridmarketlaw43_ExecutiveFair.tab19 gridmarketlaw43_ExecutiveFair.bits19 (fun HT_ HW_ => ?_)
                  generalize wr.drew = w44 at HO_5 HO_8 HO_11 HO_12 HB hx181_0 hx182_0 hx183_0 hx183_1 hHeld ⊢
                  refine pure_ (i := 0) (N := some 79) (v := ?_) (a' := ?_) #[true, false, false, false, false, false, false, false, false, false, false, false, false, false, false, false, false] rfl rfl (any_of HT_.out (by kernel_rfl)) (fun _ _ _ h => h) (Or.inl ⟨by rfl, ?_⟩) ?_ ?_
                  rotate_left
                  ·
                   intro w'
                   go_simp
                   with_reducible rfl
                  rotate_left
                  ·
                   simp only [Act.put, List.setIfInBounds_toArray, List.set_cons_zero, List.set_cons_succ, i64_w, i32_w]
                   rfl
                  refine pure_ (i := 1) (N := some 80) (v := ?_) (a' := ?_) #[true, true, false, false, false, false, false, false, false, false, false, false, false, false, false, false, false] rfl rfl (any_of HT_.out (by kernel_rfl)) (fun _ _ _ h => h) (Or.inl ⟨by rfl, ?_⟩) ?_ ?_
                  rotate_left
                  ·
                   intro w'
                   go_simp
                   with_reducible rfl
                  rotate_left
                  ·
                   simp only [Act.put, List.setIfInBounds_toArray, List.set_cons_zero, List.set_cons_succ, i64_w, i32_w]
                   rfl
                  refine pure_ (i := 2) (N := some 81) (v := ?_) (a' := ?_) #[true, true, true, false, false, false, false, false, false, false, false, false, false, false, false, false, false] rfl rfl (any_of HT_.out (by kernel_rfl)) (fun _ _ _ h => h) (Or.inl ⟨by rfl, ?_⟩) ?_ ?_
                  rotate_left
                  ·
                   intro w'
                   go_simp
                   with_reducible rfl
                  rotate_left
                  ·
                   simp only [Act.put, List.setIfInBounds_toArray, List.set_cons_zero, List.set_cons_succ, i64_w, i32_w]
                   rfl
                  refine take_ (i := 3) (N := some 82) (v := ?_) (a' := ?_) #[true, true, true, true, false, false, false, false, false, false, false, false, false, false, false, false, false] rfl rfl (take_ofW HT_.out HW_.out (by kernel_rfl)) (fun _ _ _ h => h) (Or.inl ⟨by rfl, ?_⟩) hHeld ?_ ?_
                  rotate_left
                  ·
                   rintro w' ⟨s0, s1, s2, s3⟩
                   go_simp
                   with_reducible rfl
                  rotate_left
                  ·
                   simp only [Act.put, List.setIfInBounds_toArray, List.set_cons_zero, List.set_cons_succ, i64_w, i32_w]
                   rfl
                  refine pure_ (i := 4) (N := some 83) (v := ?_) (a' := ?_) #[true, true, true, true, true, false, false, false, false, false, false, false, false, false, false, false, false] rfl rfl (any_of HT_.out (by kernel_rfl)) (fun _ _ _ h => h) (Or.inl ⟨by rfl, ?_⟩) ?_ ?_
                  rotate_left
                  ·
                   intro w'
                   go_simp
                   with_reducible rfl
                  rotate_left
                  ·
                   simp only [Act.put, List.setIfInBounds_toArray, List.set_cons_zero, List.set_cons_succ, i64_w, i32_w]
                   rfl
                  refine pure_ (i := 5) (N := some 84) (v := ?_) (a' := ?_) #[true, true, true, true, true, true, false, false, false, false, false, false, false, false, false, false, false] rfl rfl (any_of HT_.out (by kernel_rfl)) (fun _ _ _ h => h) (Or.inl ⟨by rfl, ?_⟩) ?_ ?_
                  rotate_left
                  ·
                   intro w'
                   go_simp
                   with_reducible rfl
                  rotate_left
                  ·
                   simp only [Act.put, List.setIfInBounds_toArray, List.set_cons_zero, List.set_cons_succ, i64_w, i32_w]
                   rfl
                  refine pure_ (i := 6) (N := some 85) (v := ?_) (a' := ?_) #[true, true, true, true, true, true, true, false, false, false, false, false, false, false, false, false, false] rfl rfl (any_of HT_.out (by kernel_rfl)) (fun _ _ _ h => h) (Or.inl ⟨by rfl, ?_⟩) ?_ ?_
                  rotate_left
                  ·
                   intro w'
                   go_simp
                   with_reducible rfl
                  rotate_left
                  ·
                   simp only [Act.put, List.setIfInBounds_toArray, List.set_cons_zero, List.set_cons_succ, i64_w, i32_w]
                   rfl
                  refine pure_ (i := 7) (N := some 86) (v := ?_) (a' := ?_) #[true, true, true, true, true, true, true, true, false, false, false, false, false, false, false, false, false] rfl rfl (any_of HT_.out (by kernel_rfl)) (fun _ _ _ h => h) (Or.inl ⟨by rfl, ?_⟩) ?_ ?_
                  rotate_left
                  ·
                   intro w'
                   go_simp
                   with_reducible rfl
                  rotate_left
                  ·
                   simp only [Act.put, List.setIfInBounds_toArray, List.set_cons_zero, List.set_cons_succ, i64_w, i32_w]
                   rfl
                  refine pure_ (i := 8) (N := some 87) (v := ?_) (a' := ?_) #[true, true, true, true, true, true, true, true, true, false, false, false, false, false, false, false, false] rfl rfl (any_of HT_.out (by kernel_rfl)) (fun _ _ _ h => h) (Or.inl ⟨by rfl, ?_⟩) ?_ ?_
                  rotate_left
                  ·
                   intro w'
                   go_simp
                   with_reducible rfl
                  rotate_left
                  ·
                   simp only [Act.put, List.setIfInBounds_toArray, List.set_cons_zero, List.set_cons_succ, i64_w, i32_w]
                   rfl
                  refine pure_ (i := 10) (N := some 89) (v := ?_) (a' := ?_) #[true, true, true, true, true, true, true, true, true, false, true, false, false, false, false, false, false] rfl rfl (any_of HT_.out (by kernel_rfl)) (fun _ _ _ h => h) (Or.inl ⟨by rfl, ?_⟩) ?_ ?_
                  rotate_left
                  ·
                   intro w'
                   go_simp
                   with_reducible rfl
                  rotate_left
                  ·
                   simp only [Act.put, List.setIfInBounds_toArray, List.set_cons_zero, List.set_cons_succ, i64_w, i32_w]
                   rfl
                  refine pure_ (i := 11) (N := some 90) (v := ?_) (a' := ?_) #[true, true, true, true, true, true, true, true, true, false, true, true, false, false, false, false, false] rfl rfl (any_of HT_.out (by kernel_rfl)) (fun _ _ _ h => h) (Or.inl ⟨by rfl, ?_⟩) ?_ ?_
                  rotate_left
                  ·
                   intro w'
                   go_simp
                   with_reducible rfl
                  rotate_left
                  ·
                   simp only [Act.put, List.setIfInBounds_toArray, List.set_cons_zero, List.set_cons_succ, i64_w, i32_w]
                   rfl
                  refine pure_ (i := 12) (N := some 91) (v := ?_) (a' := ?_) #[true, true, true, true, true, true, true, true, true, false, true, true, true, false, false, false, false] rfl rfl (any_of HT_.out (by kernel_rfl)) (fun _ _ _ h => h) (Or.inl ⟨by rfl, ?_⟩) ?_ ?_
                  rotate_left
                  ·
                   intro w'
                   go_simp
                   with_reducible rfl
                  rotate_left
                  ·
                   simp only [Act.put, List.setIfInBounds_toArray, List.set_cons_zero, List.set_cons_succ, i64_w, i32_w]
                   rfl
                  refine pure_ (i := 13) (N := some 92) (v := ?_) (a' := ?_) #[true, true, true, true, true, true, true, true, true, false, true, true, true, true, false, false, false] rfl rfl (any_of HT_.out (by kernel_rfl)) (fun _ _ _ h => h) (Or.inl ⟨by rfl, ?_⟩) ?_ ?_
                  rotate_left
                  ·
                   intro w'
                   go_simp
                   with_reducible rfl
                  rotate_left
                  ·
                   simp only [Act.put, List.setIfInBounds_toArray, List.set_cons_zero, List.set_cons_succ, i64_w, i32_w]
                   rfl
                  refine take_ (i := 9) (N := some 88) (v := ?_) (a' := ?_) #[true, true, true, true, true, true, true, true, true, true, true, true, true, true, false, false, false] rfl rfl (take_ofW HT_.out HW_.out (by kernel_rfl)) (fun _ _ _ h => h) (Or.inl ⟨by rfl, ?_⟩) hHeld ?_ ?_
                  rotate_left
                  ·
                   rintro w' ⟨s0, s1, s2, s3⟩
                   go_simp
                   with_reducible rfl
                  rotate_left
                  ·
                   simp only [Act.put, List.setIfInBounds_toArray, List.set_cons_zero, List.set_cons_succ, i64_w, i32_w]
                   rfl
                  refine take_ (i := 14) (N := some 93) (v := ?_) (a' := ?_) #[true, true, true, true, true, true, true, true, true, true, true, true, true, true, true, false, false] rfl rfl (take_ofW HT_.out HW_.out (by kernel_rfl)) (fun _ _ _ h => h) (Or.inl ⟨by rfl, ?_⟩) hHeld ?_ ?_
                  rotate_left
                  ·
                   rintro w' ⟨s0, s1, s2, s3⟩
                   go_simp
                   with_reducible rfl
                  rotate_left
                  ·
                   simp only [Act.put, List.setIfInBounds_toArray, List.set_cons_zero, List.set_cons_succ, i64_w, i32_w]
                   rfl
                  refine pure_ (i := 15) (N := some 94) (v := ?_) (a' := ?_) #[true, true, true, true, true, true, true, true, true, true, true, true, true, true, true, true, false] rfl rfl (any_of HT_.out (by kernel_rfl)) (fun _ _ _ h => h) (Or.inl ⟨by rfl, ?_⟩) ?_ ?_
                  rotate_left
                  ·
                   intro w'
                   go_simp
                   with_reducible rfl
                  rotate_left
                  ·
                   simp only [Act.put, List.setIfInBounds_toArray, List.set_cons_zero, List.set_cons_succ, i64_w, i32_w]
                   rfl
                  refine pure_ (i := 16) (N := some 95) (v := ?_) (a' := ?_) #[true, true, true, true, true, true, true, true, true, true, true, true, true, true, true, true, true] rfl rfl (any_of HT_.out (by kernel_rfl)) (fun _ _ _ h => h) (Or.inl ⟨by rfl, ?_⟩) ?_ ?_
                  rotate_left
                  ·
                   intro w'
                   go_simp
                   with_reducible rfl
                  rotate_left
                  ·
                   simp only [Act.put, List.setIfInBounds_toArray, List.set_cons_zero, List.set_cons_succ, i64_w, i32_w]
                   rfl
                  refine done_ (done_of HT_.out (by kernel_rfl)) ?_
                  have p184 : 0 ≤ (x13_3 : Int) := of_decide_eq_true (by first | (with_reducible assumption) | assumption)
                  have q184 : x13_3 < (t168.length : Int) := of_decide_eq_true (by first | (with_reducible assumption) | assumption)
                  obtain ⟨ad184, e184, hx184_0⟩ := Kd.at_int (Kd.R_reads' HO_8.out).2.2 x13_3 p184 q184
                  obtain rfl : ad181 = ad184 := (by injection e184)
                  replace p184 := eq_true p184
                  replace q184 := eq_true q184
                  try go_wp2
                  have n0_ := Aside0.mk (Kd.R_drew HO_5.out)
                  have n1_ := Aside0.mk (Kd.R_drew HO_8.out)
                  have n2_ := Aside0.mk (Kd.R_drew HO_11.out)
                  have n3_ := Aside0.mk (Kd.R_drew HO_12.out)
                  have n4_ := Aside0.mk (below_drew1 HB.out)
                  clear HO_5
                  clear HO_8
                  clear HO_11
                  clear HO_12
                  clear HB
                  have HO_5 := n0_
                  have HO_8 := n1_
                  have HO_11 := n2_
                  have HO_12 := n3_
                  have HB := n4_
                  clear n0_ n1_ n2_ n3_ n4_
                  have p185 : 0 ≤ (x13_3 : Int) := of_decide_eq_true (by first | (with_reducible assumption) | assumption)
                  have q185 : x13_3 < (x5_1.length : Int) := of_decide_eq_true (by first | (with_reducible assumption) | assumption)
                  obtain ⟨ad185, e185, hx185_0, hx185_1⟩ := at_T25 (Kd.R_reads' HO_5.out).2.2 x13_3 p185 q185
                  obtain rfl : ad183 = ad185 := (by injection e185)
                  replace p185 := eq_true p185
                  replace q185 := eq_true q185
                  have p186 : 0 ≤ (((rd_T25 x5_1 x13_3).f1) : Int) := of_decide_eq_true (by first | (with_reducible assumption) | assumption)
                  have q186 : ((rd_T25 x5_1 x13_3).f1) < (x11_3.length : Int) := (by have h_ : (((rd_T25 x5_1 x13_3).f1) : Int) < (3 : Int) := of_decide_eq_true (by first | (with_reducible assumption) | assumption); have e_ := (Kd.R_reads' HO_11.out).1; omega)
                  obtain ⟨ad186, e186, hx186_0⟩ := Kd.at_int (Kd.R_reads' HO_11.out).2.2 ((rd_T25 x5_1 x13_3).f1) p186 q186
                  obtain rfl : (⟨ga176, 0, none⟩ : Addr) = ad186 := (by injection e186)
                  (first | simp only [add_plain] at hx186_0 | simp only [add_at] at hx186_0 | simp only [Addr.add, Nat.zero_add] at hx186_0 | skip)
                  (try simp only [Own.add_mk0] at hx186_0)
                  have qi186 : (((rd_T25 x5_1 x13_3).f1) < 3) = True := eq_true (of_decide_eq_true (by first | (with_reducible assumption) | assumption))
                  replace p186 := eq_true p186
                  replace q186 := eq_true q186
                  have p187 : 0 ≤ (x13_3 : Int) := of_decide_eq_true (by first | (with_reducible assumption) | assumption)
                  have q187 : x13_3 < (t168.length : Int) := of_decide_eq_true (by first | (with_reducible assumption) | assumption)
                  obtain ⟨ad187, e187, hx187_0⟩ := Kd.at_int (Kd.R_reads' HO_8.out).2.2 x13_3 p187 q187
                  obtain rfl : ad181 = ad187 := (by injection e187)
                  replace p187 := eq_true p187
                  replace q187 := eq_true q187
                  have p41 : 0 ≤ (((rd_T25 x5_1 x13_3).f1) : Int) := of_decide_eq_true (by first | (with_reducible assumption) | assumption)
                  have q41 : (((rd_T25 x5_1 x13_3).f1) : Int) < (3 : Int) := of_decide_eq_true (by first | (with_reducible assumption) | assumption)
                  obtain ⟨go41, co41, eo41, gb41, gl41, cl41, HG41⟩ := Kd.R_form HO_11.out (by have e_ := (Kd.R_reads' HO_11.out).1; omega)
                  (injection eo41 with ea_ en_ ec_; injection ea_ with ea_; injection ea_ with ea_; subst ea_; subst ec_; clear en_)
                  have GB176 := Aside0.mk gb41
                  have GG176 := Aside0.mk HG41
                  clear gb41 gl41 HG41
                  obtain ⟨hx41_0, hf41_0⟩ := Kd.R_celln 0 HO_11.out (((rd_T25 x5_1 x13_3).f1) : Int) p41 q41
                  replace p41 := eq_true p41
                  replace q41 := eq_true q41
                  have HP46 := Kd.R_putn HO_11.out (((rd_T25 x5_1 x13_3).f1) : Int) (wrap64 ((rd x11_3 ((rd_T25 x5_1 x13_3).f1)) + (rd t168 x13_3)))
                  rw [← Ny188.out] at HP46
                  have HQ46 := Aside0.mk HP46
                  clear HP46
                  refine start_ (n := 14) (S := fun w' => w'.cell? (ad183.add ((x13_3).toNat * 2)) = some (.int .i64 ((rd_T25 x5_1 x13_3).f0)) ∧ w'.cell? ⟨(ad183.add ((x13_3).toNat * 2)).block, (ad183.add ((x13_3).toNat * 2)).off + 1, none⟩ = some (.int .i64 ((rd_T25 x5_1 x13_3).f1)) ∧ w'.cell? ⟨ga176, (((rd_T25 x5_1 x13_3).f1)).toNat, none⟩ = some (.int .i64 (rd x11_3 ((rd_T25 x5_1 x13_3).f1))) ∧ w'.cell? (ad181.add (x13_3).toNat) = some (.int .i64 (rd t168 x13_3))) (ds := [13]) #[false, false, false, false, false, false, false, false, false, false, false, false, false, false] (by kernel_rfl) rfl rfl ⟨hx185_0, hx185_1, hx186_0, hx187_0⟩ (fun hHeld => ?_); refine with_tabW gridmarketlaw43_ExecutiveFair.tab22 gridmarketlaw43_ExecutiveFair.bits22 (fun HT_ HW_ => ?_)
                  generalize w44.drew = w45 at HO_5 HO_8 HO_11 HO_12 HB GG176 HQ46 hf41_0 hx185_0 hx185_1 hx186_0 hx187_0 hx41_0 hHeld ⊢
                  refine pure_ (i := 0) (N := some 102) (v := ?_) (a' := ?_) #[true, false, false, false, false, false, false, false, false, false, false, false, false, false] rfl rfl (any_of HT_.out (by kernel_rfl)) (fun _ _ _ h => h) (Or.inl ⟨by rfl, ?_⟩) ?_ ?_
                  rotate_left
                  ·
                   intro w'
                   go_simp
                   with_reducible rfl
                  rotate_left
                  ·
                   simp only [Act.put, List.setIfInBounds_toArray, List.set_cons_zero, List.set_cons_succ, i64_w, i32_w]
                   rfl
                  refine pure_ (i := 1) (N := some 103) (v := ?_) (a' := ?_) #[true, true, false, false, false, false, false, false, false, false, false, false, false, false] rfl rfl (any_of HT_.out (by kernel_rfl)) (fun _ _ _ h => h) (Or.inl ⟨by rfl, ?_⟩) ?_ ?_
                  rotate_left
                  ·
                   intro w'
                   go_simp
                   with_reducible rfl
                  rotate_left
                  ·
                   simp only [Act.put, List.setIfInBounds_toArray, List.set_cons_zero, List.set_cons_succ, i64_w, i32_w]
                   rfl
                  refine pure_ (i := 2) (N := some 104) (v := ?_) (a' := ?_) #[true, true, true, false, false, false, false, false, false, false, false, false, false, false] rfl rfl (any_of HT_.out (by kernel_rfl)) (fun _ _ _ h => h) (Or.inl ⟨by rfl, ?_⟩) ?_ ?_
                  rotate_left
                  ·
                   intro w'
                   go_simp
                   with_reducible rfl
                  rotate_left
                  ·
                   simp only [Act.put, List.setIfInBounds_toArray, List.set_cons_zero, List.set_cons_succ, i64_w, i32_w]
                   rfl
                  refine pure_ (i := 3) (N := some 105) (v := ?_) (a' := ?_) #[true, true, true, true, false, false, false, false, false, false, false, false, false, false] rfl rfl (any_of HT_.out (by kernel_rfl)) (fun _ _ _ h => h) (Or.inl ⟨by rfl, ?_⟩) ?_ ?_
                  rotate_left
                  ·
                   intro w'
                   go_simp
                   with_reducible rfl
                  rotate_left
                  ·
                   simp only [Act.put, List.setIfInBounds_toArray, List.set_cons_zero, List.set_cons_succ, i64_w, i32_w]
                   rfl
                  refine pure_ (i := 7) (N := some 109) (v := ?_) (a' := ?_) #[true, true, true, true, false, false, false, true, false, false, false, false, false, false] rfl rfl (any_of HT_.out (by kernel_rfl)) (fun _ _ _ h => h) (Or.inl ⟨by rfl, ?_⟩) ?_ ?_
                  rotate_left
                  ·
                   intro w'
                   go_simp
                   with_reducible rfl
                  rotate_left
                  ·
                   simp only [Act.put, List.setIfInBounds_toArray, List.set_cons_zero, List.set_cons_succ, i64_w, i32_w]
                   rfl
                  refine pure_ (i := 8) (N := some 110) (v := ?_) (a' := ?_) #[true, true, true, true, false, false, false, true, true, false, false, false, false, false] rfl rfl (any_of HT_.out (by kernel_rfl)) (fun _ _ _ h => h) (Or.inl ⟨by rfl, ?_⟩) ?_ ?_
                  rotate_left
                  ·
                   intro w'
                   go_simp
                   with_reducible rfl
                  rotate_left
                  ·
                   simp only [Act.put, List.setIfInBounds_toArray, List.set_cons_zero, List.set_cons_succ, i64_w, i32_w]
                   rfl
                  refine pure_ (i := 9) (N := some 111) (v := ?_) (a' := ?_) #[true, true, true, true, false, false, false, true, true, true, false, false, false, false] rfl rfl (any_of HT_.out (by kernel_rfl)) (fun _ _ _ h => h) (Or.inl ⟨by rfl, ?_⟩) ?_ ?_
                  rotate_left
                  ·
                   intro w'
                   go_simp
                   with_reducible rfl
                  rotate_left
                  ·
                   simp only [Act.put, List.setIfInBounds_toArray, List.set_cons_zero, List.set_cons_succ, i64_w, i32_w]
                   rfl
                  refine take_ (i := 4) (N := some 106) (v := ?_) (a' := ?_) #[true, true, true, true, true, false, false, true, true, true, false, false, false, false] rfl rfl (take_ofW HT_.out HW_.out (by kernel_rfl)) (fun _ _ _ h => h) (Or.inl ⟨by rfl, ?_⟩) hHeld ?_ ?_
                  rotate_left
                  ·
                   rintro w' ⟨s0, s1, s2, s3⟩
                   go_simp
                   with_reducible rfl
                  rotate_left
                  ·
                   simp only [Act.put, List.setIfInBounds_toArray, List.set_cons_zero, List.set_cons_succ, i64_w, i32_w]
                   rfl
                  refine pure_ (i := 5) (N := some 107) (v := ?_) (a' := ?_) #[true, true, true, true, true, true, false, true, true, true, false, false, false, false] rfl rfl (any_of HT_.out (by kernel_rfl)) (fun _ _ _ h => h) (Or.inl ⟨by rfl, ?_⟩) ?_ ?_
                  rotate_left
                  ·
                   intro w'
                   go_simp
                   with_reducible rfl
                  rotate_left
                  ·
                   simp only [Act.put, List.setIfInBounds_toArray, List.set_cons_zero, List.set_cons_succ, i64_w, i32_w]
                   rfl
                  refine take_ (i := 6) (N := some 108) (v := ?_) (a' := ?_) #[true, true, true, true, true, true, true, true, true, true, false, false, false, false] rfl rfl (take_ofW HT_.out HW_.out (by kernel_rfl)) (fun _ _ _ h => h) (Or.inl ⟨by rfl, ?_⟩) hHeld ?_ ?_
                  rotate_left
                  ·
                   rintro w' ⟨s0, s1, s2, s3⟩
                   go_simp
                   with_reducible rfl
                  rotate_left
                  ·
                   simp only [Act.put, List.setIfInBounds_toArray, List.set_cons_zero, List.set_cons_succ, i64_w, i32_w]
                   rfl
                  refine take_ (i := 10) (N := some 112) (v := ?_) (a' := ?_) #[true, true, true, true, true, true, true, true, true, true, true, false, false, false] rfl rfl (take_ofW HT_.out HW_.out (by kernel_rfl)) (fun _ _ _ h => h) (Or.inl ⟨by rfl, ?_⟩) hHeld ?_ ?_
                  rotate_left
                  ·
                   rintro w' ⟨s0, s1, s2, s3⟩
                   go_simp
                   with_reducible rfl
                  rotate_left
                  ·
                   simp only [Act.put, List.setIfInBounds_toArray, List.set_cons_zero, List.set_cons_succ, i64_w, i32_w]
                   rfl
                  refine pure_ (i := 11) (N := some 113) (v := ?_) (a' := ?_) #[true, true, true, true, true, true, true, true, true, true, true, true, false, false] rfl rfl (any_of HT_.out (by kernel_rfl)) (fun _ _ _ h => h) (Or.inl ⟨by rfl, ?_⟩) ?_ ?_
                  rotate_left
                  ·
                   intro w'
                   go_simp
                   with_reducible rfl
                  rotate_left
                  ·
                   simp only [Act.put, List.setIfInBounds_toArray, List.set_cons_zero, List.set_cons_succ, i64_w, i32_w]
                   rfl
                  refine pure_ (i := 12) (N := some 114) (v := ?_) (a' := ?_) #[true, true, true, true, true, true, true, true, true, true, true, true, true, false] rfl rfl (any_of HT_.out (by kernel_rfl)) (fun _ _ _ h => h) (Or.inl ⟨by rfl, ?_⟩) ?_ ?_
                  rotate_left
                  ·
                   intro w'
                   go_simp
                   with_reducible rfl
                  rotate_left
                  ·
                   simp only [Act.put, List.setIfInBounds_toArray, List.set_cons_zero, List.set_cons_succ, i64_w, i32_w]
                   rfl
                  refine last_ (i := 13) (N := none) #[true, true, true, true, true, true, true, true, true, true, true, true, true, true] rfl rfl (one_of HT_.out (by kernel_rfl)) (by decide) (fun K hK => ?_)
                  refine skip_ (w1 := ?_) (by rfl) rfl ?_ ?_
                  rotate_left
                  ·
                   go_simp
                   rfl
                  refine hK.out _ _ ?_
                  clear hK K
                  refine done_ (done_of HT_.out (by kernel_rfl)) ?_
                  try go_wp2
                  have n0_ : Aside0 (Kd.R k25 25 (w45.setCell ⟨ga176, (((rd_T25 x5_1 x13_3).f1) : Int).toNat, none⟩ (.int .i64 (wrap64 ((rd x11_3 ((rd_T25 x5_1 x13_3).f1)) + (rd t168 x13_3))))) w.heap.size (fun _ => True) (.slice (some ad183) x5_1.length co16) x5_1) := ⟨by (with_reducible repeat (first | apply Kd.R_alloc | apply Kd.R_drewN | apply Kd.R_drew)); exact Kd.R_mono (Kd.R_far (p := ⟨ga176, (((rd_T25 x5_1 x13_3).f1) : Int).toNat, none⟩) (Kd.R_types HO_5.out GG176.out (by decide)) (fun _ hk => hk.2) (.int .i64 (wrap64 ((rd x11_3 ((rd_T25 x5_1 x13_3).f1)) + (rd t168 x13_3))))) (fun _ hk => trivial)⟩
                  have n1_ : Aside0 (Kd.R (Kd.int .i64) 3 (w45.setCell ⟨ga176, (((rd_T25 x5_1 x13_3).f1) : Int).toNat, none⟩ (.int .i64 (wrap64 ((rd x11_3 ((rd_T25 x5_1 x13_3).f1)) + (rd t168 x13_3))))) w.heap.size (fun _ => True) (.slice (some ad181) t168.length co43) t168) := ⟨by (with_reducible repeat (first | apply Kd.R_alloc | apply Kd.R_drewN | apply Kd.R_drew)); exact Kd.R_mono (Kd.R_far (p := ⟨ga176, (((rd_T25 x5_1 x13_3).f1) : Int).toNat, none⟩) (Kd.R_types HO_8.out GG176.out (by decide)) (fun _ hk => hk.2) (.int .i64 (wrap64 ((rd x11_3 ((rd_T25 x5_1 x13_3).f1)) + (rd t168 x13_3))))) (fun _ hk => trivial)⟩
                  have n2_ : Aside0 (Kd.R (Kd.int .i64) 33 (w45.setCell ⟨ga176, (((rd_T25 x5_1 x13_3).f1) : Int).toNat, none⟩ (.int .i64 (wrap64 ((rd x11_3 ((rd_T25 x5_1 x13_3).f1)) + (rd t168 x13_3))))) w.heap.size (fun k_ => some k_ ≠ (.slice (some ⟨ga180, 0, none⟩) 3 3 : Value).ownBlock) (.slice (some ⟨ga176, 0, none⟩) 3 3) y188) := ⟨by (with_reducible repeat (first | apply Kd.R_alloc | apply Kd.R_drewN | apply Kd.R_drew)); exact HQ46.out⟩
                  have n3_ : Aside0 (Kd.R (Kd.int .i64) 33 (w45.setCell ⟨ga176, (((rd_T25 x5_1 x13_3).f1) : Int).toNat, none⟩ (.int .i64 (wrap64 ((rd x11_3 ((rd_T25 x5_1 x13_3).f1)) + (rd t168 x13_3))))) w.heap.size (fun k_ => some k_ ≠ (.slice (some ⟨ga176, 0, none⟩) 3 3 : Value).ownBlock) (.slice (some ⟨ga180, 0, none⟩) 3 3) x12_3) := ⟨by (with_reducible repeat (first | apply Kd.R_alloc | apply Kd.R_drewN | apply Kd.R_drew)); exact Kd.R_mono (Kd.R_far (p := ⟨ga176, (((rd_T25 x5_1 x13_3).f1) : Int).toNat, none⟩) (Kd.R_mono HO_12.out (fun k_ hk => (⟨hk, fun e_ => hk (by rw [e_]; rfl)⟩ : _ ∧ k_ ≠ ga176))) (fun _ hk => hk.2) (.int .i64 (wrap64 ((rd x11_3 ((rd_T25 x5_1 x13_3).f1)) + (rd t168 x13_3))))) (fun _ hk => hk.1)⟩
                  have n4_ : Aside0 (Below w.heap.size w (w45.setCell ⟨ga176, (((rd_T25 x5_1 x13_3).f1) : Int).toNat, none⟩ (.int .i64 (wrap64 ((rd x11_3 ((rd_T25 x5_1 x13_3).f1)) + (rd t168 x13_3)))))) := ⟨by repeat (first | (with_reducible first | exact HB.out | apply below_alloc | apply pw_below_drewN | apply below_drew1 | refine below_set ?_ GB176.out) | exact HB.out)⟩
                  (try clear HO_5)
                  (try clear HO_8)
                  (try clear HO_11)
                  (try clear HO_12)
                  (try clear HB)
                  generalize (w45.setCell ⟨ga176, (((rd_T25 x5_1 x13_3).f1) : Int).toNat, none⟩ (.int .i64 (wrap64 ((rd x11_3 ((rd_T25 x5_1 x13_3).f1)) + (rd t168 x13_3))))) = w47 at n0_ n1_ n2_ n3_ n4_ ⊢
                  have HO_5 := n0_
                  have HO_8 := n1_
                  have HO_11 := n2_
                  have HO_12 := n3_
                  have HB := n4_
                  clear n0_ n1_ n2_ n3_ n4_
                  have n0_ := Aside0.mk (Kd.R_drew HO_5.out)
                  have n1_ := Aside0.mk (Kd.R_drew HO_8.out)
                  have n2_ := Aside0.mk (Kd.R_drew HO_11.out)
                  have n3_ := Aside0.mk (Kd.R_drew HO_12.out)
                  have n4_ := Aside0.mk (below_drew1 HB.out)
                  clear HO_5
                  clear HO_8
                  clear HO_11
                  clear HO_12
                  clear HB
                  have HO_5 := n0_
                  have HO_8 := n1_
                  have HO_11 := n2_
                  have HO_12 := n3_
                  have HB := n4_
                  clear n0_ n1_ n2_ n3_ n4_
                  have p189 : 0 ≤ (x13_3 : Int) := of_decide_eq_true (by first | (with_reducible assumption) | assumption)
                  have q189 : x13_3 < (x5_1.length : Int) := of_decide_eq_true (by first | (with_reducible assumption) | assumption)
                  obtain ⟨ad189, e189, hx189_0, hx189_1⟩ := at_T25 (Kd.R_reads' HO_5.out).2.2 x13_3 p189 q189
                  obtain rfl : ad183 = ad189 := (by injection e189)
                  replace p189 := eq_true p189
                  replace q189 := eq_true q189
                  have p190 : 0 ≤ (((rd_T25 x5_1 x13_3).f1) : Int) := of_decide_eq_true (by first | (with_reducible assumption) | assumption)
                  have q190 : ((rd_T25 x5_1 x13_3).f1) < (x12_3.length : Int) := (by have h_ : (((rd_T25 x5_1 x13_3).f1) : Int) < (3 : Int) := of_decide_eq_true (by first | (with_reducible assumption) | assumption); have e_ := (Kd.R_reads' HO_12.out).1; omega)
                  obtain ⟨ad190, e190, hx190_0⟩ := Kd.at_int (Kd.R_reads' HO_12.out).2.2 ((rd_T25 x5_1 x13_3).f1) p190 q190
                  obtain rfl : (⟨ga180, 0, none⟩ : Addr) = ad190 := (by injection e190)
                  (first | simp only [add_plain] at hx190_0 | simp only [add_at] at hx190_0 | simp only [Addr.add, Nat.zero_add] at hx190_0 | skip)
                  (try simp only [Own.add_mk0] at hx190_0)
                  have qi190 : (((rd_T25 x5_1 x13_3).f1) < 3) = True := eq_true (of_decide_eq_true (by first | (with_reducible assumption) | assumption))
                  replace p190 := eq_true p190
                  replace q190 := eq_true q190
                  have p191 : 0 ≤ (x13_3 : Int) := of_decide_eq_true (by first | (with_reducible assumption) | assumption)
                  have q191 : x13_3 < (x5_1.length : Int) := of_decide_eq_true (by first | (with_reducible assumption) | assumption)
                  obtain ⟨ad191, e191, hx191_0, hx191_1⟩ := at_T25 (Kd.R_reads' HO_5.out).2.2 x13_3 p191 q191
                  obtain rfl : ad183 = ad191 := (by injection e191)
                  replace p191 := eq_true p191
                  replace q191 := eq_true q191
                  have p42 : 0 ≤ (((rd_T25 x5_1 x13_3).f1) : Int) := of_decide_eq_true (by first | (with_reducible assumption) | assumption)
                  have q42 : (((rd_T25 x5_1 x13_3).f1) : Int) < (3 : Int) := of_decide_eq_true (by first | (with_reducible assumption) | assumption)
                  obtain ⟨go42, co42, eo42, gb42, gl42, cl42, HG42⟩ := Kd.R_form HO_12.out (by have e_ := (Kd.R_reads' HO_12.out).1; omega)
                  (injection eo42 with ea_ en_ ec_; injection ea_ with ea_; injection ea_ with ea_; subst ea_; subst ec_; clear en_)
                  have GB180 := Aside0.mk gb42
                  have GG180 := Aside0.mk HG42
                  clear gb42 gl42 HG42
                  obtain ⟨hx42_0, hf42_0⟩ := Kd.R_celln 0 HO_12.out (((rd_T25 x5_1 x13_3).f1) : Int) p42 q42
                  replace p42 := eq_true p42
                  replace q42 := eq_true q42
                  have HP49 := Kd.R_putn HO_12.out (((rd_T25 x5_1 x13_3).f1) : Int) (wrap64 ((rd x12_3 ((rd_T25 x5_1 x13_3).f1)) + ((rd_T25 x5_1 x13_3).f0)))
                  rw [← Ny192.out] at HP49
                  have HQ49 := Aside0.mk HP49
                  clear HP49
                  refine start_ (n := 15) (S := fun w' => w'.cell? (ad183.add ((x13_3).toNat * 2)) = some (.int .i64 ((rd_T25 x5_1 x13_3).f0)) ∧ w'.cell? ⟨(ad183.add ((x13_3).toNat * 2)).block, (ad183.add ((x13_3).toNat * 2)).off + 1, none⟩ = some (.int .i64 ((rd_T25 x5_1 x13_3).f1)) ∧ w'.cell? ⟨ga180, (((rd_T25 x5_1 x13_3).f1)).toNat, none⟩ = some (.int .i64 (rd x12_3 ((rd_T25 x5_1 x13_3).f1))) ∧ w'.cell? (ad183.add ((x13_3).toNat * 2)) = some (.int .i64 ((rd_T25 x5_1 x13_3).f0)) ∧ w'.cell? ⟨(ad183.add ((x13_3).toNat * 2)).block, (ad183.add ((x13_3).toNat * 2)).off + 1, none⟩ = some (.int .i64 ((rd_T25 x5_1 x13_3).f1))) (ds := [14]) #[false, false, false, false, false, false, false, false, false, false, false, false, false, false, false] (by kernel_rfl) rfl rfl ⟨hx189_0, hx189_1, hx190_0, hx191_0, hx191_1⟩ (fun hHeld => ?_); refine with_tabW gridmarketlaw43_ExecutiveFair.tab23 gridmarketlaw43_ExecutiveFair.bits23 (fun HT_ HW_ => ?_)
                  generalize w47.drew = w48 at HO_5 HO_8 HO_11 HO_12 HB GG180 HQ46 HQ49 hf42_0 hx189_0 hx189_1 hx190_0 hx191_0 hx191_1 hx42_0 hHeld ⊢
                  refine pure_ (i := 0) (N := some 115) (v := ?_) (a' := ?_) #[true, false, false, false, false, false, false, false, false, false, false, false, false, false, false] rfl rfl (any_of HT_.out (by kernel_rfl)) (fun _ _ _ h => h) (Or.inl ⟨by rfl, ?_⟩) ?_ ?_
                  rotate_left
                  ·
                   intro w'
                   go_simp
                   with_reducible rfl
                  rotate_left
                  ·
                   simp only [Act.put, List.setIfInBounds_toArray, List.set_cons_zero, List.set_cons_succ, i64_w, i32_w]
                   rfl
                  refine pure_ (i := 1) (N := some 116) (v := ?_) (a' := ?_) #[true, true, false, false, false, false, false, false, false, false, false, false, false, false, false] rfl rfl (any_of HT_.out (by kernel_rfl)) (fun _ _ _ h => h) (Or.inl ⟨by rfl, ?_⟩) ?_ ?_
                  rotate_left
                  ·
                   intro w'
                   go_simp
                   with_reducible rfl
                  rotate_left
                  ·
                   simp only [Act.put, List.setIfInBounds_toArray, List.set_cons_zero, List.set_cons_succ, i64_w, i32_w]
                   rfl
                  refine pure_ (i := 2) (N := some 117) (v := ?_) (a' := ?_) #[true, true, true, false, false, false, false, false, false, false, false, false, false, false, false] rfl rfl (any_of HT_.out (by kernel_rfl)) (fun _ _ _ h => h) (Or.inl ⟨by rfl, ?_⟩) ?_ ?_
                  rotate_left
                  ·
                   intro w'
                   go_simp
                   with_reducible rfl
                  rotate_left
                  ·
                   simp only [Act.put, List.setIfInBounds_toArray, List.set_cons_zero, List.set_cons_succ, i64_w, i32_w]
                   rfl
                  refine pure_ (i := 3) (N := some 118) (v := ?_) (a' := ?_) #[true, true, true, true, false, false, false, false, false, false, false, false, false, false, false] rfl rfl (any_of HT_.out (by kernel_rfl)) (fun _ _ _ h => h) (Or.inl ⟨by rfl, ?_⟩) ?_ ?_
                  rotate_left
                  ·
                   intro w'
                   go_simp
                   with_reducible rfl
                  rotate_left
                  ·
                   simp only [Act.put, List.setIfInBounds_toArray, List.set_cons_zero, List.set_cons_succ, i64_w, i32_w]
                   rfl
                  refine pure_ (i := 7) (N := some 122) (v := ?_) (a' := ?_) #[true, true, true, true, false, false, false, true, false, false, false, false, false, false, false] rfl rfl (any_of HT_.out (by kernel_rfl)) (fun _ _ _ h => h) (Or.inl ⟨by rfl, ?_⟩) ?_ ?_
                  rotate_left
                  ·
                   intro w'
                   go_simp
                   with_reducible rfl
                  rotate_left
                  ·
                   simp only [Act.put, List.setIfInBounds_toArray, List.set_cons_zero, List.set_cons_succ, i64_w, i32_w]
                   rfl
                  refine pure_ (i := 8) (N := some 123) (v := ?_) (a' := ?_) #[true, true, true, true, false, false, false, true, true, false, false, false, false, false, false] rfl rfl (any_of HT_.out (by kernel_rfl)) (fun _ _ _ h => h) (Or.inl ⟨by rfl, ?_⟩) ?_ ?_
                  rotate_left
                  ·
                   intro w'
                   go_simp
                   with_reducible rfl
                  rotate_left
                  ·
                   simp only [Act.put, List.setIfInBounds_toArray, List.set_cons_zero, List.set_cons_succ, i64_w, i32_w]
                   rfl
                  refine pure_ (i := 9) (N := some 124) (v := ?_) (a' := ?_) #[true, true, true, true, false, false, false, true, true, true, false, false, false, false, false] rfl rfl (any_of HT_.out (by kernel_rfl)) (fun _ _ _ h => h) (Or.inl ⟨by rfl, ?_⟩) ?_ ?_
                  rotate_left
                  ·
                   intro w'
                   go_simp
                   with_reducible rfl
                  rotate_left
                  ·
                   simp only [Act.put, List.setIfInBounds_toArray, List.set_cons_zero, List.set_cons_succ, i64_w, i32_w]
                   rfl
                  refine pure_ (i := 10) (N := some 125) (v := ?_) (a' := ?_) #[true, true, true, true, false, false, false, true, true, true, true, false, false, false, false] rfl rfl (any_of HT_.out (by kernel_rfl)) (fun _ _ _ h => h) (Or.inl ⟨by rfl, ?_⟩) ?_ ?_
                  rotate_left
                  ·
                   intro w'
                   go_simp
                   with_reducible rfl
                  rotate_left
                  ·
                   simp only [Act.put, List.setIfInBounds_toArray, List.set_cons_zero, List.set_cons_succ, i64_w, i32_w]
                   rfl
                  refine take_ (i := 4) (N := some 119) (v := ?_) (a' := ?_) #[true, true, true, true, true, false, false, true, true, true, true, false, false, false, false] rfl rfl (take_ofW HT_.out HW_.out (by kernel_rfl)) (fun _ _ _ h => h) (Or.inl ⟨by rfl, ?_⟩) hHeld ?_ ?_
                  rotate_left
                  ·
                   rintro w' ⟨s0, s1, s2, s3, s4⟩
                   go_simp
                   with_reducible rfl
                  rotate_left
                  ·
                   simp only [Act.put, List.setIfInBounds_toArray, List.set_cons_zero, List.set_cons_succ, i64_w, i32_w]
                   rfl
                  refine pure_ (i := 5) (N := some 120) (v := ?_) (a' := ?_) #[true, true, true, true, true, true, false, true, true, true, true, false, false, false, false] rfl rfl (any_of HT_.out (by kernel_rfl)) (fun _ _ _ h => h) (Or.inl ⟨by rfl, ?_⟩) ?_ ?_
                  rotate_left
                  ·
                   intro w'
                   go_simp
                   with_reducible rfl
                  rotate_left
                  ·
                   simp only [Act.put, List.setIfInBounds_toArray, List.set_cons_zero, List.set_cons_succ, i64_w, i32_w]
                   rfl
                  refine take_ (i := 6) (N := some 121) (v := ?_) (a' := ?_) #[true, true, true, true, true, true, true, true, true, true, true, false, false, false, false] rfl rfl (take_ofW HT_.out HW_.out (by kernel_rfl)) (fun _ _ _ h => h) (Or.inl ⟨by rfl, ?_⟩) hHeld ?_ ?_
                  rotate_left
                  ·
                   rintro w' ⟨s0, s1, s2, s3, s4⟩
                   go_simp
                   with_reducible rfl
                  rotate_left
                  ·
                   simp only [Act.put, List.setIfInBounds_toArray, List.set_cons_zero, List.set_cons_succ, i64_w, i32_w]
                   rfl
                  refine take_ (i := 11) (N := some 126) (v := ?_) (a' := ?_) #[true, true, true, true, true, true, true, true, true, true, true, true, false, false, false] rfl rfl (take_ofW HT_.out HW_.out (by kernel_rfl)) (fun _ _ _ h => h) (Or.inl ⟨by rfl, ?_⟩) hHeld ?_ ?_
                  rotate_left
                  ·
                   rintro w' ⟨s0, s1, s2, s3, s4⟩
                   go_simp
                   with_reducible rfl
                  rotate_left
                  ·
                   simp only [Act.put, List.setIfInBounds_toArray, List.set_cons_zero, List.set_cons_succ, i64_w, i32_w]
                   rfl
                  refine pure_ (i := 12) (N := some 127) (v := ?_) (a' := ?_) #[true, true, true, true, true, true, true, true, true, true, true, true, true, false, false] rfl rfl (any_of HT_.out (by kernel_rfl)) (fun _ _ _ h => h) (Or.inl ⟨by rfl, ?_⟩) ?_ ?_
                  rotate_left
                  ·
                   intro w'
                   go_simp
                   with_reducible rfl
                  rotate_left
                  ·
                   simp only [Act.put, List.setIfInBounds_toArray, List.set_cons_zero, List.set_cons_succ, i64_w, i32_w]
                   rfl
                  refine pure_ (i := 13) (N := some 128) (v := ?_) (a' := ?_) #[true, true, true, true, true, true, true, true, true, true, true, true, true, true, false] rfl rfl (any_of HT_.out (by kernel_rfl)) (fun _ _ _ h => h) (Or.inl ⟨by rfl, ?_⟩) ?_ ?_
                  rotate_left
                  ·
                   intro w'
                   go_simp
                   with_reducible rfl
                  rotate_left
                  ·
                   simp only [Act.put, List.setIfInBounds_toArray, List.set_cons_zero, List.set_cons_succ, i64_w, i32_w]
                   rfl
                  refine last_ (i := 14) (N := none) #[true, true, true, true, true, true, true, true, true, true, true, true, true, true, true] rfl rfl (one_of HT_.out (by kernel_rfl)) (by decide) (fun K hK => ?_)
                  refine skip_ (w1 := ?_) (by rfl) rfl ?_ ?_
                  rotate_left
                  ·
                   go_simp
                   rfl
                  refine hK.out _ _ ?_
                  clear hK K
                  refine done_ (done_of HT_.out (by kernel_rfl)) ?_
                  try go_wp2
                  go_roundg k3
                  case measure => have := HK1.out; have := HJ14.out; have := HK3.out; omega
                  case rel => exact ⟨(wrap64 (x10_3 + (rd t168 x13_3))), (y188), (y192), (wrap64 (x13_3 + 1)), (by first | rfl | (simp; done) | (simp [*]; done)), (by first | rfl | (simp; done) | (simp [*]; done)), H', ⟨by have := HK1.out; have := HJ14.out; have := HK3.out; omega⟩, ⟨by (with_reducible repeat (first | apply Kd.R_alloc | apply Kd.R_drewN | apply Kd.R_drew)); exact Kd.R_mono (Kd.R_far (p := ⟨ga180, (((rd_T25 x5_1 x13_3).f1) : Int).toNat, none⟩) (Kd.R_types HO_5.out GG180.out (by decide)) (fun _ hk => hk.2) (.int .i64 (wrap64 ((rd x12_3 ((rd_T25 x5_1 x13_3).f1)) + ((rd_T25 x5_1 x13_3).f0))))) (fun _ hk => trivial)⟩, ⟨by (with_reducible repeat (first | apply Kd.R_alloc | apply Kd.R_drewN | apply Kd.R_drew)); exact Kd.R_mono (Kd.R_far (p := ⟨ga180, (((rd_T25 x5_1 x13_3).f1) : Int).toNat, none⟩) (Kd.R_types HO_8.out GG180.out (by decide)) (fun _ hk => hk.2) (.int .i64 (wrap64 ((rd x12_3 ((rd_T25 x5_1 x13_3).f1)) + ((rd_T25 x5_1 x13_3).f0))))) (fun _ hk => trivial)⟩, ⟨by (with_reducible repeat (first | apply Kd.R_alloc | apply Kd.R_drewN | apply Kd.R_drew)); exact Kd.R_mono (Kd.R_far (p := ⟨ga180, (((rd_T25 x5_1 x13_3).f1) : Int).toNat, none⟩) (Kd.R_mono HO_11.out (fun k_ hk => (⟨hk, fun e_ => hk (by rw [e_]; rfl)⟩ : _ ∧ k_ ≠ ga180))) (fun _ hk => hk.2) (.int .i64 (wrap64 ((rd x12_3 ((rd_T25 x5_1 x13_3).f1)) + ((rd_T25 x5_1 x13_3).f0))))) (fun _ hk => hk.1)⟩, ⟨by (with_reducible repeat (first | apply Kd.R_alloc | apply Kd.R_drewN | apply Kd.R_drew)); exact HQ49.out⟩, ⟨by repeat (first | (with_reducible first | exact HB.out | apply below_alloc | apply pw_below_drewN | apply below_drew1 | refine below_set ?_ GB180.out) | exact HB.out)⟩⟩
                 ·
                  rw [if_neg c40] at H
                  exact absurd H (by simp)
                ·
                 rw [if_neg c39] at H
                 exact absurd H (by simp)
              ·
               rw [if_neg c35] at H
               exact absurd H (by simp)
            ·
             rw [if_neg c31] at H
             exact absurd H (by simp)
           ·
            rw [if_neg c30] at H
            have c30b0 : decide (x13_3 < (t168.length : Int)) = false := decide_eq_false c30
            clear c30
            have H' := Aside0.mk H
            clear H
            obtain ⟨Ao50, co50, eo50⟩ := Kd.R_slice HO_8.out
            subst eo50
            go_wp2
            go_loopg [14] k3 (fun kq v14 w' => ∃ (x14_4 : Int), v14 = .int .i64 x14_4 ∧ Aside0 (gridmarketlaw43_ExecutiveFair.l2 kq t167 x5_1 t168 x10_3 x11_3 x12_3 x14_4 = some r) ∧ Aside0 (kq ≤ k3) ∧ Aside0 (Kd.R k25 25 w' w.heap.size (fun _ => True) (.slice Ao16 x5_1.length co16) x5_1) ∧ Aside0 (Kd.R (Kd.int .i64) 3 w' w.heap.size (fun _ => True) (.slice Ao50 t168.length co50) t168) ∧ Aside0 (Kd.R (Kd.int .i64) 33 w' w.heap.size (fun k_ => some k_ ≠ ((.slice (some ⟨ga180, 0, none⟩) 3 3) : Value).ownBlock) (.slice (some ⟨ga176, 0, none⟩) 3 3) x11_3) ∧ Aside0 (Kd.R (Kd.int .i64) 33 w' w.heap.size (fun k_ => some k_ ≠ ((.slice (some ⟨ga176, 0, none⟩) 3 3) : Value).ownBlock) (.slice (some ⟨ga180, 0, none⟩) 3 3) x12_3) ∧ Aside0 (Below w.heap.size w w'))
            case atStart => exact ⟨(1), (by first | rfl | (simp; done) | (simp [*]; done)), H', ⟨Nat.le_refl _⟩, ⟨by (with_reducible repeat (first | apply Kd.R_alloc | apply Kd.R_drewN | apply Kd.R_drew)); exact HO_5.out⟩, ⟨by (with_reducible repeat (first | apply Kd.R_alloc | apply Kd.R_drewN | apply Kd.R_drew)); exact HO_8.out⟩, ⟨by (with_reducible repeat (first | apply Kd.R_alloc | apply Kd.R_drewN | apply Kd.R_drew)); exact HO_11.out⟩, ⟨by (with_reducible repeat (first | apply Kd.R_alloc | apply Kd.R_drewN | apply Kd.R_drew)); exact HO_12.out⟩, ⟨by repeat (first | (with_reducible first | exact HB.out | apply below_alloc | apply pw_below_drewN | apply below_drew1) | exact HB.out)⟩⟩
            case round =>
             clear H'
             try clear p1
             try clear q1
             try clear hx1
             try clear qi1
             try clear p2
             try clear c3
             try clear c4
             try clear p4
             try clear q4
             try clear hx4
             try clear hf4
             try clear p6
             try clear p18
             try clear q18
             try clear hx18
             try clear qi18
             try clear p19
             try clear q19
             try clear hx19
             try clear qi19
             try clear c30
             try clear c30b0
             try clear c31
             try clear c35
             try clear c39
             try clear c40
             try clear p41
             try clear q41
             try clear hx41
             try clear hf41
             try clear p42
             try clear q42
             try clear hx42
             try clear hf42
             try clear hx184_0
             try clear hx185_0
             try clear hx185_1
             try clear hx186_0
             try clear hx187_0
             try clear hx189_0
             try clear hx189_1
             try clear hx190_0
             try clear hx191_0
             try clear hx191_1
             try clear hx41_0
             try clear hx42_0
             try clear p184
             try clear p185
             try clear p186
             try clear p187
             try clear p189
             try clear p190
             try clear p191
             try clear p41
             try clear p42
             try clear q184
             try clear q185
             try clear q186
             try clear q187
             try clear q189
             try clear q190
             try clear q191
             try clear q41
             try clear q42
             obtain ⟨x14_4, rfl, HA, HK4, HO_5, HO_8, HO_11, HO_12, HB⟩ := hrel
             cases gk with
             | zero => exact absurd HA.out (by simp [gridmarketlaw43_ExecutiveFair.l2])
             | succ k4 =>
              have H := HA.out
              clear HA
              simp only [gridmarketlaw43_ExecutiveFair.l2] at H
              by_cases c51 : x14_4 < 3
              ·
               rw [if_pos c51] at H
               have c51b0 : decide (x14_4 < 3) = true := decide_eq_true c51
               clear c51
               have H' := Aside0.mk H
               clear H
               go_wp2
               go_loopg [15] k4 (fun kq v15 w' => ∃ (x15_5 : Int), v15 = .int .i64 x15_5 ∧ Aside0 (gridmarketlaw43_ExecutiveFair.l3 kq t167 x5_1 t168 x10_3 x11_3 x12_3 x14_4 x15_5 = some r) ∧ Aside0 (kq ≤ k4) ∧ Aside0 (Kd.R k25 25 w' w.heap.size (fun _ => True) (.slice Ao16 x5_1.length co16) x5_1) ∧ Aside0 (Kd.R (Kd.int .i64) 3 w' w.heap.size (fun _ => True) (.slice Ao50 t168.length co50) t168) ∧ Aside0 (Kd.R (Kd.int .i64) 33 w' w.heap.size (fun k_ => some k_ ≠ ((.slice (some ⟨ga180, 0, none⟩) 3 3) : Value).ownBlock) (.slice (some ⟨ga176, 0, none⟩) 3 3) x11_3) ∧ Aside0 (Kd.R (Kd.int .i64) 33 w' w.heap.size (fun k_ => some k_ ≠ ((.slice (some ⟨ga176, 0, none⟩) 3 3) : Value).ownBlock) (.slice (some ⟨ga180, 0, none⟩) 3 3) x12_3) ∧ Aside0 (Below w.heap.size w w'))
               case atStart => exact ⟨(0), (by first | rfl | (simp; done) | (simp [*]; done)), H', ⟨Nat.le_refl _⟩, ⟨by (with_reducible repeat (first | apply Kd.R_alloc | apply Kd.R_drewN | apply Kd.R_drew)); exact HO_5.out⟩, ⟨by (with_reducible repeat (first | apply Kd.R_alloc | apply Kd.R_drewN | apply Kd.R_drew)); exact HO_8.out⟩, ⟨by (with_reducible repeat (first | apply Kd.R_alloc | apply Kd.R_drewN | apply Kd.R_drew)); exact HO_11.out⟩, ⟨by (with_reducible repeat (first | apply Kd.R_alloc | apply Kd.R_drewN | apply Kd.R_drew)); exact HO_12.out⟩, ⟨by repeat (first | (with_reducible first | exact HB.out | apply below_alloc | apply pw_below_drewN | apply below_drew1) | exact HB.out)⟩⟩
               case round =>
                clear H'
                try clear p1
                try clear q1
                try clear hx1
                try clear qi1
                try clear p2
                try clear c3
                try clear c4
                try clear p4
                try clear q4
                try clear hx4
                try clear hf4
                try clear c5
                try clear p6
                try clear p18
                try clear q18
                try clear hx18
                try clear qi18
                try clear p19
                try clear q19
                try clear hx19
                try clear qi19
                try clear c30
                try clear c30b0
                try clear c31
                try clear c35
                try clear c39
                try clear c40
                try clear p41
                try clear q41
                try clear hx41
                try clear hf41
                try clear p42
                try clear q42
                try clear hx42
                try clear hf42
                try clear c51
                try clear c51b0
                try clear hx184_0
                try clear hx185_0
                try clear hx185_1
                try clear hx186_0
                try clear hx187_0
                try clear hx189_0
                try clear hx189_1
                try clear hx190_0
                try clear hx191_0
                try clear hx191_1
                try clear hx41_0
                try clear hx42_0
                try clear p1
                try clear p18
                try clear p184
                try clear p185
                try clear p186
                try clear p187
                try clear p189
                try clear p19
                try clear p190
                try clear p191
                try clear p2
                try clear p4
                try clear p41
                try clear p42
                try clear p6
                try clear q1
                try clear q18
                try clear q184
                try clear q185
                try clear q186
                try clear q187
                try clear q189
                try clear q19
                try clear q190
                try clear q191
                try clear q4
                try clear q41
                try clear q42
                obtain ⟨x15_5, rfl, HA, HK5, HO_5, HO_8, HO_11, HO_12, HB⟩ := hrel
                cases gk with
                | zero => exact absurd HA.out (by simp [gridmarketlaw43_ExecutiveFair.l3])
                | succ k5 =>
                 have H := HA.out
                 clear HA
                 simp only [gridmarketlaw43_ExecutiveFair.l3] at H
                 by_cases c52 : x15_5 < x14_4
                 ·
                  rw [if_pos c52] at H
                  have c52b0 : decide (x15_5 < x14_4) = true := decide_eq_true c52
                  clear c52
                  by_cases c53 : 0 ≤ x14_4
                  ·
                   rw [if_pos c53] at H
                   have c53b0 : decide (0 ≤ x14_4) = true := decide_eq_true c53
                   clear c53
                   by_cases c54 : x14_4 < 3
                   ·
                    rw [if_pos c54] at H
                    have c54b0 : decide (x14_4 < 3) = true := decide_eq_true c54
                    clear c54
                    by_cases c55 : (rd x11_3 x14_4) > 0
                    ·
                     rw [if_pos c55] at H
                     have c55b0 : decide (0 < (rd x11_3 x14_4)) = true := decide_eq_true c55
                     clear c55
                     by_cases c56 : 0 ≤ x15_5
                     ·
                      rw [if_pos c56] at H
                      have c56b0 : decide (0 ≤ x15_5) = true := decide_eq_true c56
                      clear c56
                      by_cases c57 : x15_5 < 3
                      ·
                       rw [if_pos c57] at H
                       have c57b0 : decide (x15_5 < 3) = true := decide_eq_true c57
                       clear c57
                       by_cases c58 : (rd x11_3 x15_5) = (rd x12_3 x15_5)
                       ·
                        rw [if_pos c58] at H
                        have c58b0 : ((rd x11_3 x15_5) == (rd x12_3 x15_5)) = true := beq_iff_eq.mpr c58
                        have c58b1 : ((rd x11_3 x15_5) != (rd x12_3 x15_5)) = false := bne_eq_false_iff_eq.mpr c58
                        clear c58
                        have H' := Aside0.mk H
                        clear H
                        try go_wp2
                        have n0_ := Aside0.mk (Kd.R_drew HO_5.out)
                        have n1_ := Aside0.mk (Kd.R_drew HO_8.out)
                        have n2_ := Aside0.mk (Kd.R_drew HO_11.out)
                        have n3_ := Aside0.mk (Kd.R_drew HO_12.out)
                        have n4_ := Aside0.mk (below_drew1 HB.out)
                        clear HO_5
                        clear HO_8
                        clear HO_11
                        clear HO_12
                        clear HB
                        have HO_5 := n0_
                        have HO_8 := n1_
                        have HO_11 := n2_
                        have HO_12 := n3_
                        have HB := n4_
                        clear n0_ n1_ n2_ n3_ n4_
                        have p193 : 0 ≤ (x14_4 : Int) := of_decide_eq_true (by first | (with_reducible assumption) | assumption)
                        have q193 : x14_4 < (x11_3.length : Int) := (by have h_ : (x14_4 : Int) < (3 : Int) := of_decide_eq_true (by first | (with_reducible assumption) | assumption); have e_ := (Kd.R_reads' HO_11.out).1; omega)
                        obtain ⟨ad193, e193, hx193_0⟩ := Kd.at_int (Kd.R_reads' HO_11.out).2.2 x14_4 p193 q193
                        obtain rfl : (⟨ga176, 0, none⟩ : Addr) = ad193 := (by injection e193)
                        (first | simp only [add_plain] at hx193_0 | simp only [add_at] at hx193_0 | simp only [Addr.add, Nat.zero_add] at hx193_0 | skip)
                        (try simp only [Own.add_mk0] at hx193_0)
                        have qi193 : (x14_4 < 3) = True := eq_true (of_decide_eq_true (by first | (with_reducible assumption) | assumption))
                        replace p193 := eq_true p193
                        replace q193 := eq_true q193
                        have p194 : 0 ≤ (x15_5 : Int) := of_decide_eq_true (by first | (with_reducible assumption) | assumption)
                        have q194 : x15_5 < (x11_3.length : Int) := (by have h_ : (x15_5 : Int) < (3 : Int) := of_decide_eq_true (by first | (with_reducible assumption) | assumption); have e_ := (Kd.R_reads' HO_11.out).1; omega)
                        obtain ⟨ad194, e194, hx194_0⟩ := Kd.at_int (Kd.R_reads' HO_11.out).2.2 x15_5 p194 q194
                        obtain rfl : (⟨ga176, 0, none⟩ : Addr) = ad194 := (by injection e194)
                        (first | simp only [add_plain] at hx194_0 | simp only [add_at] at hx194_0 | simp only [Addr.add, Nat.zero_add] at hx194_0 | skip)
                        (try simp only [Own.add_mk0] at hx194_0)
                        have qi194 : (x15_5 < 3) = True := eq_true (of_decide_eq_true (by first | (with_reducible assumption) | assumption))
                        replace p194 := eq_true p194
                        replace q194 := eq_true q194
                        have p195 : 0 ≤ (x15_5 : Int) := of_decide_eq_true (by first | (with_reducible assumption) | assumption)
                        have q195 : x15_5 < (x12_3.length : Int) := (by have h_ : (x15_5 : Int) < (3 : Int) := of_decide_eq_true (by first | (with_reducible assumption) | assumption); have e_ := (Kd.R_reads' HO_12.out).1; omega)
                        obtain ⟨ad195, e195, hx195_0⟩ := Kd.at_int (Kd.R_reads' HO_12.out).2.2 x15_5 p195 q195
                        obtain rfl : (⟨ga180, 0, none⟩ : Addr) = ad195 := (by injection e195)
                        (first | simp only [add_plain] at hx195_0 | simp only [add_at] at hx195_0 | simp only [Addr.add, Nat.zero_add] at hx195_0 | skip)
                        (try simp only [Own.add_mk0] at hx195_0)
                        have qi195 : (x15_5 < 3) = True := eq_true (of_decide_eq_true (by first | (with_reducible assumption) | assumption))
                        replace p195 := eq_true p195
                        replace q195 := eq_true q195
                        refine start_ (n := 13) (S := fun w' => w'.cell? ⟨ga176, (x14_4).toNat, none⟩ = some (.int .i64 (rd x11_3 x14_4)) ∧ w'.cell? ⟨ga176, (x15_5).toNat, none⟩ = some (.int .i64 (rd x11_3 x15_5)) ∧ w'.cell? ⟨ga180, (x15_5).toNat, none⟩ = some (.int .i64 (rd x12_3 x15_5))) (ds := []) #[false, false, false, false, false, false, false, false, false, false, false, false, false] (by kernel_rfl) rfl rfl ⟨hx193_0, hx194_0, hx195_0⟩ (fun hHeld => ?_); refine with_tabW gridmarketlaw43_ExecutiveFair.tab30 gridmarketlaw43_ExecutiveFair.bits30 (fun HT_ HW_ => ?_)
                        generalize wr.drew = w59 at HO_5 HO_8 HO_11 HO_12 HB hx193_0 hx194_0 hx195_0 hHeld ⊢
                        refine pure_ (i := 0) (N := some 138) (v := ?_) (a' := ?_) #[true, false, false, false, false, false, false, false, false, false, false, false, false] rfl rfl (any_of HT_.out (by kernel_rfl)) (fun _ _ _ h => h) (Or.inl ⟨by rfl, ?_⟩) ?_ ?_
                        rotate_left
                        ·
                         intro w'
                         go_simp
                         with_reducible rfl
                        rotate_left
                        ·
                         simp only [Act.put, List.setIfInBounds_toArray, List.set_cons_zero, List.set_cons_succ, i64_w, i32_w]
                         rfl
                        refine pure_ (i := 1) (N := some 139) (v := ?_) (a' := ?_) #[true, true, false, false, false, false, false, false, false, false, false, false, false] rfl rfl (any_of HT_.out (by kernel_rfl)) (fun _ _ _ h => h) (Or.inl ⟨by rfl, ?_⟩) ?_ ?_
                        rotate_left
                        ·
                         intro w'
                         go_simp
                         with_reducible rfl
                        rotate_left
                        ·
                         simp only [Act.put, List.setIfInBounds_toArray, List.set_cons_zero, List.set_cons_succ, i64_w, i32_w]
                         rfl
                        refine take_ (i := 2) (N := some 140) (v := ?_) (a' := ?_) #[true, true, true, false, false, false, false, false, false, false, false, false, false] rfl rfl (take_ofW HT_.out HW_.out (by kernel_rfl)) (fun _ _ _ h => h) (Or.inl ⟨by rfl, ?_⟩) hHeld ?_ ?_
                        rotate_left
                        ·
                         rintro w' ⟨s0, s1, s2⟩
                         go_simp
                         with_reducible rfl
                        rotate_left
                        ·
                         simp only [Act.put, List.setIfInBounds_toArray, List.set_cons_zero, List.set_cons_succ, i64_w, i32_w]
                         rfl
                        refine pure_ (i := 3) (N := some 141) (v := ?_) (a' := ?_) #[true, true, true, true, false, false, false, false, false, false, false, false, false] rfl rfl (any_of HT_.out (by kernel_rfl)) (fun _ _ _ h => h) (Or.inl ⟨by rfl, ?_⟩) ?_ ?_
                        rotate_left
                        ·
                         intro w'
                         go_simp
                         with_reducible rfl
                        rotate_left
                        ·
                         simp only [Act.put, List.setIfInBounds_toArray, List.set_cons_zero, List.set_cons_succ, i64_w, i32_w]
                         rfl
                        refine pure_ (i := 4) (N := some 142) (v := ?_) (a' := ?_) #[true, true, true, true, true, false, false, false, false, false, false, false, false] rfl rfl (any_of HT_.out (by kernel_rfl)) (fun _ _ _ h => h) (Or.inl ⟨by rfl, ?_⟩) ?_ ?_
                        rotate_left
                        ·
                         intro w'
                         go_simp
                         with_reducible rfl
                        rotate_left
                        ·
                         simp only [Act.put, List.setIfInBounds_toArray, List.set_cons_zero, List.set_cons_succ, i64_w, i32_w]
                         rfl
                        refine pure_ (i := 5) (N := some 143) (v := ?_) (a' := ?_) #[true, true, true, true, true, true, false, false, false, false, false, false, false] rfl rfl (any_of HT_.out (by kernel_rfl)) (fun _ _ _ h => h) (Or.inl ⟨by rfl, ?_⟩) ?_ ?_
                        rotate_left
                        ·
                         intro w'
                         go_simp
                         with_reducible rfl
                        rotate_left
                        ·
                         simp only [Act.put, List.setIfInBounds_toArray, List.set_cons_zero, List.set_cons_succ, i64_w, i32_w]
                         rfl
                        refine pure_ (i := 6) (N := some 144) (v := ?_) (a' := ?_) #[true, true, true, true, true, true, true, false, false, false, false, false, false] rfl rfl (any_of HT_.out (by kernel_rfl)) (fun _ _ _ h => h) (Or.inl ⟨by rfl, ?_⟩) ?_ ?_
                        rotate_left
                        ·
                         intro w'
                         go_simp
                         with_reducible rfl
                        rotate_left
                        ·
                         simp only [Act.put, List.setIfInBounds_toArray, List.set_cons_zero, List.set_cons_succ, i64_w, i32_w]
                         rfl
                        refine pure_ (i := 8) (N := some 146) (v := ?_) (a' := ?_) #[true, true, true, true, true, true, true, false, true, false, false, false, false] rfl rfl (any_of HT_.out (by kernel_rfl)) (fun _ _ _ h => h) (Or.inl ⟨by rfl, ?_⟩) ?_ ?_
                        rotate_left
                        ·
                         intro w'
                         go_simp
                         with_reducible rfl
                        rotate_left
                        ·
                         simp only [Act.put, List.setIfInBounds_toArray, List.set_cons_zero, List.set_cons_succ, i64_w, i32_w]
                         rfl
                        refine pure_ (i := 9) (N := some 147) (v := ?_) (a' := ?_) #[true, true, true, true, true, true, true, false, true, true, false, false, false] rfl rfl (any_of HT_.out (by kernel_rfl)) (fun _ _ _ h => h) (Or.inl ⟨by rfl, ?_⟩) ?_ ?_
                        rotate_left
                        ·
                         intro w'
                         go_simp
                         with_reducible rfl
                        rotate_left
                        ·
                         simp only [Act.put, List.setIfInBounds_toArray, List.set_cons_zero, List.set_cons_succ, i64_w, i32_w]
                         rfl
                        refine take_ (i := 7) (N := some 145) (v := ?_) (a' := ?_) #[true, true, true, true, true, true, true, true, true, true, false, false, false] rfl rfl (take_ofW HT_.out HW_.out (by kernel_rfl)) (fun _ _ _ h => h) (Or.inl ⟨by rfl, ?_⟩) hHeld ?_ ?_
                        rotate_left
                        ·
                         rintro w' ⟨s0, s1, s2⟩
                         go_simp
                         with_reducible rfl
                        rotate_left
                        ·
                         simp only [Act.put, List.setIfInBounds_toArray, List.set_cons_zero, List.set_cons_succ, i64_w, i32_w]
                         rfl
                        refine take_ (i := 10) (N := some 148) (v := ?_) (a' := ?_) #[true, true, true, true, true, true, true, true, true, true, true, false, false] rfl rfl (take_ofW HT_.out HW_.out (by kernel_rfl)) (fun _ _ _ h => h) (Or.inl ⟨by rfl, ?_⟩) hHeld ?_ ?_
                        rotate_left
                        ·
                         rintro w' ⟨s0, s1, s2⟩
                         go_simp
                         with_reducible rfl
                        rotate_left
                        ·
                         simp only [Act.put, List.setIfInBounds_toArray, List.set_cons_zero, List.set_cons_succ, i64_w, i32_w]
                         rfl
                        refine pure_ (i := 11) (N := some 149) (v := ?_) (a' := ?_) #[true, true, true, true, true, true, true, true, true, true, true, true, false] rfl rfl (any_of HT_.out (by kernel_rfl)) (fun _ _ _ h => h) (Or.inl ⟨by rfl, ?_⟩) ?_ ?_
                        rotate_left
                        ·
                         intro w'
                         go_simp
                         with_reducible rfl
                        rotate_left
                        ·
                         simp only [Act.put, List.setIfInBounds_toArray, List.set_cons_zero, List.set_cons_succ, i64_w, i32_w]
                         rfl
                        refine pure_ (i := 12) (N := some 150) (v := ?_) (a' := ?_) #[true, true, true, true, true, true, true, true, true, true, true, true, true] rfl rfl (any_of HT_.out (by kernel_rfl)) (fun _ _ _ h => h) (Or.inl ⟨by rfl, ?_⟩) ?_ ?_
                        rotate_left
                        ·
                         intro w'
                         go_simp
                         with_reducible rfl
                        rotate_left
                        ·
                         simp only [Act.put, List.setIfInBounds_toArray, List.set_cons_zero, List.set_cons_succ, i64_w, i32_w]
                         rfl
                        refine done_ (done_of HT_.out (by kernel_rfl)) ?_
                        try go_wp2
                        go_roundg k5
                        case measure => have := HK1.out; have := HJ14.out; have := HK3.out; have := HK4.out; have := HK5.out; omega
                        case rel => exact ⟨(wrap64 (x15_5 + 1)), (by first | rfl | (simp; done) | (simp [*]; done)), H', ⟨by have := HK1.out; have := HJ14.out; have := HK3.out; have := HK4.out; have := HK5.out; omega⟩, ⟨by (with_reducible repeat (first | apply Kd.R_alloc | apply Kd.R_drewN | apply Kd.R_drew)); exact HO_5.out⟩, ⟨by (with_reducible repeat (first | apply Kd.R_alloc | apply Kd.R_drewN | apply Kd.R_drew)); exact HO_8.out⟩, ⟨by (with_reducible repeat (first | apply Kd.R_alloc | apply Kd.R_drewN | apply Kd.R_drew)); exact HO_11.out⟩, ⟨by (with_reducible repeat (first | apply Kd.R_alloc | apply Kd.R_drewN | apply Kd.R_drew)); exact HO_12.out⟩, ⟨by repeat (first | (with_reducible first | exact HB.out | apply below_alloc | apply pw_below_drewN | apply below_drew1) | exact HB.out)⟩⟩
                       ·
                        rw [if_neg c58] at H
                        have c58b0 : ((rd x11_3 x15_5) == (rd x12_3 x15_5)) = false := beq_eq_false_iff_ne.mpr c58
                        have c58b1 : ((rd x11_3 x15_5) != (rd x12_3 x15_5)) = true := bne_iff_ne.mpr c58
                        obtain rfl := Option.some.inj H
                        try go_wp2
                        have n0_ := Aside0.mk (Kd.R_drew HO_5.out)
                        have n1_ := Aside0.mk (Kd.R_drew HO_8.out)
                        have n2_ := Aside0.mk (Kd.R_drew HO_11.out)
                        have n3_ := Aside0.mk (Kd.R_drew HO_12.out)
                        have n4_ := Aside0.mk (below_drew1 HB.out)
                        clear HO_5
                        clear HO_8
                        clear HO_11
                        clear HO_12
                        clear HB
                        have HO_5 := n0_
                        have HO_8 := n1_
                        have HO_11 := n2_
                        have HO_12 := n3_
                        have HB := n4_
                        clear n0_ n1_ n2_ n3_ n4_
                        have p193 : 0 ≤ (x14_4 : Int) := of_decide_eq_true (by first | (with_reducible assumption) | assumption)
                        have q193 : x14_4 < (x11_3.length : Int) := (by have h_ : (x14_4 : Int) < (3 : Int) := of_decide_eq_true (by first | (with_reducible assumption) | assumption); have e_ := (Kd.R_reads' HO_11.out).1; omega)
                        obtain ⟨ad193, e193, hx193_0⟩ := Kd.at_int (Kd.R_reads' HO_11.out).2.2 x14_4 p193 q193
                        obtain rfl : (⟨ga176, 0, none⟩ : Addr) = ad193 := (by injection e193)
                        (first | simp only [add_plain] at hx193_0 | simp only [add_at] at hx193_0 | simp only [Addr.add, Nat.zero_add] at hx193_0 | skip)
                        (try simp only [Own.add_mk0] at hx193_0)
                        have qi193 : (x14_4 < 3) = True := eq_true (of_decide_eq_true (by first | (with_reducible assumption) | assumption))
                        replace p193 := eq_true p193
                        replace q193 := eq_true q193
                        have p194 : 0 ≤ (x15_5 : Int) := of_decide_eq_true (by first | (with_reducible assumption) | assumption)
                        have q194 : x15_5 < (x11_3.length : Int) := (by have h_ : (x15_5 : Int) < (3 : Int) := of_decide_eq_true (by first | (with_reducible assumption) | assumption); have e_ := (Kd.R_reads' HO_11.out).1; omega)
                        obtain ⟨ad194, e194, hx194_0⟩ := Kd.at_int (Kd.R_reads' HO_11.out).2.2 x15_5 p194 q194
                        obtain rfl : (⟨ga176, 0, none⟩ : Addr) = ad194 := (by injection e194)
                        (first | simp only [add_plain] at hx194_0 | simp only [add_at] at hx194_0 | simp only [Addr.add, Nat.zero_add] at hx194_0 | skip)
                        (try simp only [Own.add_mk0] at hx194_0)
                        have qi194 : (x15_5 < 3) = True := eq_true (of_decide_eq_true (by first | (with_reducible assumption) | assumption))
                        replace p194 := eq_true p194
                        replace q194 := eq_true q194
                        have p195 : 0 ≤ (x15_5 : Int) := of_decide_eq_true (by first | (with_reducible assumption) | assumption)
                        have q195 : x15_5 < (x12_3.length : Int) := (by have h_ : (x15_5 : Int) < (3 : Int) := of_decide_eq_true (by first | (with_reducible assumption) | assumption); have e_ := (Kd.R_reads' HO_12.out).1; omega)
                        obtain ⟨ad195, e195, hx195_0⟩ := Kd.at_int (Kd.R_reads' HO_12.out).2.2 x15_5 p195 q195
                        obtain rfl : (⟨ga180, 0, none⟩ : Addr) = ad195 := (by injection e195)
                        (first | simp only [add_plain] at hx195_0 | simp only [add_at] at hx195_0 | simp only [Addr.add, Nat.zero_add] at hx195_0 | skip)
                        (try simp only [Own.add_mk0] at hx195_0)
                        have qi195 : (x15_5 < 3) = True := eq_true (of_decide_eq_true (by first | (with_reducible assumption) | assumption))
                        replace p195 := eq_true p195
                        replace q195 := eq_true q195
                        refine start_ (n := 13) (S := fun w' => w'.cell? ⟨ga176, (x14_4).toNat, none⟩ = some (.int .i64 (rd x11_3 x14_4)) ∧ w'.cell? ⟨ga176, (x15_5).toNat, none⟩ = some (.int .i64 (rd x11_3 x15_5)) ∧ w'.cell? ⟨ga180, (x15_5).toNat, none⟩ = some (.int .i64 (rd x12_3 x15_5))) (ds := []) #[false, false, false, false, false, false, false, false, false, false, false, false, false] (by kernel_rfl) rfl rfl ⟨hx193_0, hx194_0, hx195_0⟩ (fun hHeld => ?_); refine with_tabW gridmarketlaw43_ExecutiveFair.tab30 gridmarketlaw43_ExecutiveFair.bits30 (fun HT_ HW_ => ?_)
                        generalize wr.drew = w60 at HO_5 HO_8 HO_11 HO_12 HB hx193_0 hx194_0 hx195_0 hHeld ⊢
                        refine pure_ (i := 0) (N := some 138) (v := ?_) (a' := ?_) #[true, false, false, false, false, false, false, false, false, false, false, false, false] rfl rfl (any_of HT_.out (by kernel_rfl)) (fun _ _ _ h => h) (Or.inl ⟨by rfl, ?_⟩) ?_ ?_
                        rotate_left
                        ·
                         intro w'
                         go_simp
                         with_reducible rfl
                        rotate_left
                        ·
                         simp only [Act.put, List.setIfInBounds_toArray, List.set_cons_zero, List.set_cons_succ, i64_w, i32_w]
                         rfl
                        refine pure_ (i := 1) (N := some 139) (v := ?_) (a' := ?_) #[true, true, false, false, false, false, false, false, false, false, false, false, false] rfl rfl (any_of HT_.out (by kernel_rfl)) (fun _ _ _ h => h) (Or.inl ⟨by rfl, ?_⟩) ?_ ?_
                        rotate_left
                        ·
                         intro w'
                         go_simp
                         with_reducible rfl
                        rotate_left
                        ·
                         simp only [Act.put, List.setIfInBounds_toArray, List.set_cons_zero, List.set_cons_succ, i64_w, i32_w]
                         rfl
                        refine take_ (i := 2) (N := some 140) (v := ?_) (a' := ?_) #[true, true, true, false, false, false, false, false, false, false, false, false, false] rfl rfl (take_ofW HT_.out HW_.out (by kernel_rfl)) (fun _ _ _ h => h) (Or.inl ⟨by rfl, ?_⟩) hHeld ?_ ?_
                        rotate_left
                        ·
                         rintro w' ⟨s0, s1, s2⟩
                         go_simp
                         with_reducible rfl
                        rotate_left
                        ·
                         simp only [Act.put, List.setIfInBounds_toArray, List.set_cons_zero, List.set_cons_succ, i64_w, i32_w]
                         rfl
                        refine pure_ (i := 3) (N := some 141) (v := ?_) (a' := ?_) #[true, true, true, true, false, false, false, false, false, false, false, false, false] rfl rfl (any_of HT_.out (by kernel_rfl)) (fun _ _ _ h => h) (Or.inl ⟨by rfl, ?_⟩) ?_ ?_
                        rotate_left
                        ·
                         intro w'
                         go_simp
                         with_reducible rfl
                        rotate_left
                        ·
                         simp only [Act.put, List.setIfInBounds_toArray, List.set_cons_zero, List.set_cons_succ, i64_w, i32_w]
                         rfl
                        refine pure_ (i := 4) (N := some 142) (v := ?_) (a' := ?_) #[true, true, true, true, true, false, false, false, false, false, false, false, false] rfl rfl (any_of HT_.out (by kernel_rfl)) (fun _ _ _ h => h) (Or.inl ⟨by rfl, ?_⟩) ?_ ?_
                        rotate_left
                        ·
                         intro w'
                         go_simp
                         with_reducible rfl
                        rotate_left
                        ·
                         simp only [Act.put, List.setIfInBounds_toArray, List.set_cons_zero, List.set_cons_succ, i64_w, i32_w]
                         rfl
                        refine pure_ (i := 5) (N := some 143) (v := ?_) (a' := ?_) #[true, true, true, true, true, true, false, false, false, false, false, false, false] rfl rfl (any_of HT_.out (by kernel_rfl)) (fun _ _ _ h => h) (Or.inl ⟨by rfl, ?_⟩) ?_ ?_
                        rotate_left
                        ·
                         intro w'
                         go_simp
                         with_reducible rfl
                        rotate_left
                        ·
                         simp only [Act.put, List.setIfInBounds_toArray, List.set_cons_zero, List.set_cons_succ, i64_w, i32_w]
                         rfl
                        refine pure_ (i := 6) (N := some 144) (v := ?_) (a' := ?_) #[true, true, true, true, true, true, true, false, false, false, false, false, false] rfl rfl (any_of HT_.out (by kernel_rfl)) (fun _ _ _ h => h) (Or.inl ⟨by rfl, ?_⟩) ?_ ?_
                        rotate_left
                        ·
                         intro w'
                         go_simp
                         with_reducible rfl
                        rotate_left
                        ·
                         simp only [Act.put, List.setIfInBounds_toArray, List.set_cons_zero, List.set_cons_succ, i64_w, i32_w]
                         rfl
                        refine pure_ (i := 8) (N := some 146) (v := ?_) (a' := ?_) #[true, true, true, true, true, true, true, false, true, false, false, false, false] rfl rfl (any_of HT_.out (by kernel_rfl)) (fun _ _ _ h => h) (Or.inl ⟨by rfl, ?_⟩) ?_ ?_
                        rotate_left
                        ·
                         intro w'
                         go_simp
                         with_reducible rfl
                        rotate_left
                        ·
                         simp only [Act.put, List.setIfInBounds_toArray, List.set_cons_zero, List.set_cons_succ, i64_w, i32_w]
                         rfl
                        refine pure_ (i := 9) (N := some 147) (v := ?_) (a' := ?_) #[true, true, true, true, true, true, true, false, true, true, false, false, false] rfl rfl (any_of HT_.out (by kernel_rfl)) (fun _ _ _ h => h) (Or.inl ⟨by rfl, ?_⟩) ?_ ?_
                        rotate_left
                        ·
                         intro w'
                         go_simp
                         with_reducible rfl
                        rotate_left
                        ·
                         simp only [Act.put, List.setIfInBounds_toArray, List.set_cons_zero, List.set_cons_succ, i64_w, i32_w]
                         rfl
                        refine take_ (i := 7) (N := some 145) (v := ?_) (a' := ?_) #[true, true, true, true, true, true, true, true, true, true, false, false, false] rfl rfl (take_ofW HT_.out HW_.out (by kernel_rfl)) (fun _ _ _ h => h) (Or.inl ⟨by rfl, ?_⟩) hHeld ?_ ?_
                        rotate_left
                        ·
                         rintro w' ⟨s0, s1, s2⟩
                         go_simp
                         with_reducible rfl
                        rotate_left
                        ·
                         simp only [Act.put, List.setIfInBounds_toArray, List.set_cons_zero, List.set_cons_succ, i64_w, i32_w]
                         rfl
                        refine take_ (i := 10) (N := some 148) (v := ?_) (a' := ?_) #[true, true, true, true, true, true, true, true, true, true, true, false, false] rfl rfl (take_ofW HT_.out HW_.out (by kernel_rfl)) (fun _ _ _ h => h) (Or.inl ⟨by rfl, ?_⟩) hHeld ?_ ?_
                        rotate_left
                        ·
                         rintro w' ⟨s0, s1, s2⟩
                         go_simp
                         with_reducible rfl
                        rotate_left
                        ·
                         simp only [Act.put, List.setIfInBounds_toArray, List.set_cons_zero, List.set_cons_succ, i64_w, i32_w]
                         rfl
                        refine pure_ (i := 11) (N := some 149) (v := ?_) (a' := ?_) #[true, true, true, true, true, true, true, true, true, true, true, true, false] rfl rfl (any_of HT_.out (by kernel_rfl)) (fun _ _ _ h => h) (Or.inl ⟨by rfl, ?_⟩) ?_ ?_
                        rotate_left
                        ·
                         intro w'
                         go_simp
                         with_reducible rfl
                        rotate_left
                        ·
                         simp only [Act.put, List.setIfInBounds_toArray, List.set_cons_zero, List.set_cons_succ, i64_w, i32_w]
                         rfl
                        refine pure_ (i := 12) (N := some 150) (v := ?_) (a' := ?_) #[true, true, true, true, true, true, true, true, true, true, true, true, true] rfl rfl (any_of HT_.out (by kernel_rfl)) (fun _ _ _ h => h) (Or.inl ⟨by rfl, ?_⟩) ?_ ?_
                        rotate_left
                        ·
                         intro w'
                         go_simp
                         with_reducible rfl
                        rotate_left
                        ·
                         simp only [Act.put, List.setIfInBounds_toArray, List.set_cons_zero, List.set_cons_succ, i64_w, i32_w]
                         rfl
                        refine done_ (done_of HT_.out (by kernel_rfl)) ?_
                        try go_wp2
                        go_ret
                        exact ⟨by first | rfl | (simp [errW_none, errW_some] <;> rfl) | (simp [*, errW_none, errW_some] <;> rfl), by repeat (first | (with_reducible first | exact HB.out | apply below_alloc | apply pw_below_drewN | apply below_drew1) | exact HB.out)⟩
                      ·
                       rw [if_neg c57] at H
                       exact absurd H (by simp)
                     ·
                      rw [if_neg c56] at H
                      exact absurd H (by simp)
                    ·
                     rw [if_neg c55] at H
                     have c55b0 : decide (0 < (rd x11_3 x14_4)) = false := decide_eq_false c55
                     clear c55
                     have H' := Aside0.mk H
                     clear H
                     try go_wp2
                     have n0_ := Aside0.mk (Kd.R_drew HO_5.out)
                     have n1_ := Aside0.mk (Kd.R_drew HO_8.out)
                     have n2_ := Aside0.mk (Kd.R_drew HO_11.out)
                     have n3_ := Aside0.mk (Kd.R_drew HO_12.out)
                     have n4_ := Aside0.mk (below_drew1 HB.out)
                     clear HO_5
                     clear HO_8
                     clear HO_11
                     clear HO_12
                     clear HB
                     have HO_5 := n0_
                     have HO_8 := n1_
                     have HO_11 := n2_
                     have HO_12 := n3_
                     have HB := n4_
                     clear n0_ n1_ n2_ n3_ n4_
                     have p193 : 0 ≤ (x14_4 : Int) := of_decide_eq_true (by first | (with_reducible assumption) | assumption)
                     have q193 : x14_4 < (x11_3.length : Int) := (by have h_ : (x14_4 : Int) < (3 : Int) := of_decide_eq_true (by first | (with_reducible assumption) | assumption); have e_ := (Kd.R_reads' HO_11.out).1; omega)
                     obtain ⟨ad193, e193, hx193_0⟩ := Kd.at_int (Kd.R_reads' HO_11.out).2.2 x14_4 p193 q193
                     obtain rfl : (⟨ga176, 0, none⟩ : Addr) = ad193 := (by injection e193)
                     (first | simp only [add_plain] at hx193_0 | simp only [add_at] at hx193_0 | simp only [Addr.add, Nat.zero_add] at hx193_0 | skip)
                     (try simp only [Own.add_mk0] at hx193_0)
                     have qi193 : (x14_4 < 3) = True := eq_true (of_decide_eq_true (by first | (with_reducible assumption) | assumption))
                     replace p193 := eq_true p193
                     replace q193 := eq_true q193
                     refine start_ (n := 13) (S := fun w' => w'.cell? ⟨ga176, (x14_4).toNat, none⟩ = some (.int .i64 (rd x11_3 x14_4))) (ds := []) #[false, false, false, false, false, false, false, false, false, false, false, false, false] (by kernel_rfl) rfl rfl (hx193_0) (fun hHeld => ?_); refine with_tabW gridmarketlaw43_ExecutiveFair.tab30 gridmarketlaw43_ExecutiveFair.bits30 (fun HT_ HW_ => ?_)
                     generalize wr.drew = w61 at HO_5 HO_8 HO_11 HO_12 HB hx193_0 hHeld ⊢
                     refine pure_ (i := 0) (N := some 138) (v := ?_) (a' := ?_) #[true, false, false, false, false, false, false, false, false, false, false, false, false] rfl rfl (any_of HT_.out (by kernel_rfl)) (fun _ _ _ h => h) (Or.inl ⟨by rfl, ?_⟩) ?_ ?_
                     rotate_left
                     ·
                      intro w'
                      go_simp
                      with_reducible rfl
                     rotate_left
                     ·
                      simp only [Act.put, List.setIfInBounds_toArray, List.set_cons_zero, List.set_cons_succ, i64_w, i32_w]
                      rfl
                     refine pure_ (i := 1) (N := some 139) (v := ?_) (a' := ?_) #[true, true, false, false, false, false, false, false, false, false, false, false, false] rfl rfl (any_of HT_.out (by kernel_rfl)) (fun _ _ _ h => h) (Or.inl ⟨by rfl, ?_⟩) ?_ ?_
                     rotate_left
                     ·
                      intro w'
                      go_simp
                      with_reducible rfl
                     rotate_left
                     ·
                      simp only [Act.put, List.setIfInBounds_toArray, List.set_cons_zero, List.set_cons_succ, i64_w, i32_w]
                      rfl
                     refine take_ (i := 2) (N := some 140) (v := ?_) (a' := ?_) #[true, true, true, false, false, false, false, false, false, false, false, false, false] rfl rfl (take_ofW HT_.out HW_.out (by kernel_rfl)) (fun _ _ _ h => h) (Or.inl ⟨by rfl, ?_⟩) hHeld ?_ ?_
                     rotate_left
                     ·
                      intro w' s0
                      go_simp
                      with_reducible rfl
                     rotate_left
                     ·
                      simp only [Act.put, List.setIfInBounds_toArray, List.set_cons_zero, List.set_cons_succ, i64_w, i32_w]
                      rfl
                     refine pure_ (i := 3) (N := some 141) (v := ?_) (a' := ?_) #[true, true, true, true, false, false, false, false, false, false, false, false, false] rfl rfl (any_of HT_.out (by kernel_rfl)) (fun _ _ _ h => h) (Or.inl ⟨by rfl, ?_⟩) ?_ ?_
                     rotate_left
                     ·
                      intro w'
                      go_simp
                      with_reducible rfl
                     rotate_left
                     ·
                      simp only [Act.put, List.setIfInBounds_toArray, List.set_cons_zero, List.set_cons_succ, i64_w, i32_w]
                      rfl
                     refine pure_ (i := 4) (N := some 142) (v := ?_) (a' := ?_) #[true, true, true, true, true, false, false, false, false, false, false, false, false] rfl rfl (any_of HT_.out (by kernel_rfl)) (fun _ _ _ h => h) (Or.inl ⟨by rfl, ?_⟩) ?_ ?_
                     rotate_left
                     ·
                      intro w'
                      go_simp
                      with_reducible rfl
                     rotate_left
                     ·
                      simp only [Act.put, List.setIfInBounds_toArray, List.set_cons_zero, List.set_cons_succ, i64_w, i32_w]
                      rfl
                     refine pure_ (i := 5) (N := some 143) (v := undef) (a' := ?_) #[true, true, true, true, true, true, false, false, false, false, false, false, false] rfl rfl (any_of HT_.out (by kernel_rfl)) (fun _ _ _ h => h) (Or.inr ⟨by rfl, rfl⟩) ?_ ?_
                     rotate_left
                     ·
                      simp only [Act.put, List.setIfInBounds_toArray, List.set_cons_zero, List.set_cons_succ, i64_w, i32_w]
                      rfl
                     refine pure_ (i := 6) (N := some 144) (v := undef) (a' := ?_) #[true, true, true, true, true, true, true, false, false, false, false, false, false] rfl rfl (any_of HT_.out (by kernel_rfl)) (fun _ _ _ h => h) (Or.inr ⟨by rfl, rfl⟩) ?_ ?_
                     rotate_left
                     ·
                      simp only [Act.put, List.setIfInBounds_toArray, List.set_cons_zero, List.set_cons_succ, i64_w, i32_w]
                      rfl
                     refine pure_ (i := 7) (N := some 145) (v := undef) (a' := ?_) #[true, true, true, true, true, true, true, true, false, false, false, false, false] rfl rfl (any_of HT_.out (by kernel_rfl)) (fun _ _ _ h => h) (Or.inr ⟨by rfl, rfl⟩) ?_ ?_
                     rotate_left
                     ·
                      simp only [Act.put, List.setIfInBounds_toArray, List.set_cons_zero, List.set_cons_succ, i64_w, i32_w]
                      rfl
                     refine pure_ (i := 8) (N := some 146) (v := undef) (a' := ?_) #[true, true, true, true, true, true, true, true, true, false, false, false, false] rfl rfl (any_of HT_.out (by kernel_rfl)) (fun _ _ _ h => h) (Or.inr ⟨by rfl, rfl⟩) ?_ ?_
                     rotate_left
                     ·
                      simp only [Act.put, List.setIfInBounds_toArray, List.set_cons_zero, List.set_cons_succ, i64_w, i32_w]
                      rfl
                     refine pure_ (i := 9) (N := some 147) (v := undef) (a' := ?_) #[true, true, true, true, true, true, true, true, true, true, false, false, false] rfl rfl (any_of HT_.out (by kernel_rfl)) (fun _ _ _ h => h) (Or.inr ⟨by rfl, rfl⟩) ?_ ?_
                     rotate_left
                     ·
                      simp only [Act.put, List.setIfInBounds_toArray, List.set_cons_zero, List.set_cons_succ, i64_w, i32_w]
                      rfl
                     refine pure_ (i := 10) (N := some 148) (v := undef) (a' := ?_) #[true, true, true, true, true, true, true, true, true, true, true, false, false] rfl rfl (any_of HT_.out (by kernel_rfl)) (fun _ _ _ h => h) (Or.inr ⟨by rfl, rfl⟩) ?_ ?_
                     rotate_left
                     ·
                      simp only [Act.put, List.setIfInBounds_toArray, List.set_cons_zero, List.set_cons_succ, i64_w, i32_w]
                      rfl
                     refine pure_ (i := 11) (N := some 149) (v := undef) (a' := ?_) #[true, true, true, true, true, true, true, true, true, true, true, true, false] rfl rfl (any_of HT_.out (by kernel_rfl)) (fun _ _ _ h => h) (Or.inr ⟨by rfl, rfl⟩) ?_ ?_
                     rotate_left
                     ·
                      simp only [Act.put, List.setIfInBounds_toArray, List.set_cons_zero, List.set_cons_succ, i64_w, i32_w]
                      rfl
                     refine pure_ (i := 12) (N := some 150) (v := ?_) (a' := ?_) #[true, true, true, true, true, true, true, true, true, true, true, true, true] rfl rfl (any_of HT_.out (by kernel_rfl)) (fun _ _ _ h => h) (Or.inl ⟨by rfl, ?_⟩) ?_ ?_
                     rotate_left
                     ·
                      intro w'
                      go_simp
                      with_reducible rfl
                     rotate_left
                     ·
                      simp only [Act.put, List.setIfInBounds_toArray, List.set_cons_zero, List.set_cons_succ, i64_w, i32_w]
                      rfl
                     refine done_ (done_of HT_.out (by kernel_rfl)) ?_
                     try go_wp2
                     go_roundg k5
                     case measure => have := HK1.out; have := HJ14.out; have := HK3.out; have := HK4.out; have := HK5.out; omega
                     case rel => exact ⟨(wrap64 (x15_5 + 1)), (by first | rfl | (simp; done) | (simp [*]; done)), H', ⟨by have := HK1.out; have := HJ14.out; have := HK3.out; have := HK4.out; have := HK5.out; omega⟩, ⟨by (with_reducible repeat (first | apply Kd.R_alloc | apply Kd.R_drewN | apply Kd.R_drew)); exact HO_5.out⟩, ⟨by (with_reducible repeat (first | apply Kd.R_alloc | apply Kd.R_drewN | apply Kd.R_drew)); exact HO_8.out⟩, ⟨by (with_reducible repeat (first | apply Kd.R_alloc | apply Kd.R_drewN | apply Kd.R_drew)); exact HO_11.out⟩, ⟨by (with_reducible repeat (first | apply Kd.R_alloc | apply Kd.R_drewN | apply Kd.R_drew)); exact HO_12.out⟩, ⟨by repeat (first | (with_reducible first | exact HB.out | apply below_alloc | apply pw_below_drewN | apply below_drew1) | exact HB.out)⟩⟩
                   ·
                    rw [if_neg c54] at H
                    exact absurd H (by simp)
                  ·
                   rw [if_neg c53] at H
                   exact absurd H (by simp)
                 ·
                  rw [if_neg c52] at H
                  have c52b0 : decide (x15_5 < x14_4) = false := decide_eq_false c52
                  clear c52
                  have H' := Aside0.mk H
                  clear H
                  go_wp2
                  go_roundg k5
                  case measure => have := HK1.out; have := HJ14.out; have := HK3.out; have := HK4.out; have := HK5.out; omega
                  case rel => exact ⟨(wrap64 (x14_4 + 1)), (by first | rfl | (simp; done) | (simp [*]; done)), H', ⟨by have := HK1.out; have := HJ14.out; have := HK3.out; have := HK4.out; have := HK5.out; omega⟩, ⟨by (with_reducible repeat (first | apply Kd.R_alloc | apply Kd.R_drewN | apply Kd.R_drew)); exact HO_5.out⟩, ⟨by (with_reducible repeat (first | apply Kd.R_alloc | apply Kd.R_drewN | apply Kd.R_drew)); exact HO_8.out⟩, ⟨by (with_reducible repeat (first | apply Kd.R_alloc | apply Kd.R_drewN | apply Kd.R_drew)); exact HO_11.out⟩, ⟨by (with_reducible repeat (first | apply Kd.R_alloc | apply Kd.R_drewN | apply Kd.R_drew)); exact HO_12.out⟩, ⟨by repeat (first | (with_reducible first | exact HB.out | apply below_alloc | apply pw_below_drewN | apply below_drew1) | exact HB.out)⟩⟩
              ·
               rw [if_neg c51] at H
               have c51b0 : decide (x14_4 < 3) = false := decide_eq_false c51
               clear c51
               have H' := Aside0.mk H
               clear H
               go_wp2
               go_loopg [16] k4 (fun kq v16 w' => ∃ (x16_5 : Int), v16 = .int .i64 x16_5 ∧ Aside0 (gridmarketlaw43_ExecutiveFair.l4 kq t167 x5_1 t168 x10_3 x11_3 x12_3 x16_5 = some r) ∧ Aside0 (kq ≤ k4) ∧ Aside0 (Kd.R k25 25 w' w.heap.size (fun _ => True) (.slice Ao16 x5_1.length co16) x5_1) ∧ Aside0 (Kd.R (Kd.int .i64) 3 w' w.heap.size (fun _ => True) (.slice Ao50 t168.length co50) t168) ∧ Aside0 (Kd.R (Kd.int .i64) 33 w' w.heap.size (fun k_ => some k_ ≠ ((.slice (some ⟨ga180, 0, none⟩) 3 3) : Value).ownBlock) (.slice (some ⟨ga176, 0, none⟩) 3 3) x11_3) ∧ Aside0 (Kd.R (Kd.int .i64) 33 w' w.heap.size (fun k_ => some k_ ≠ ((.slice (some ⟨ga176, 0, none⟩) 3 3) : Value).ownBlock) (.slice (some ⟨ga180, 0, none⟩) 3 3) x12_3) ∧ Aside0 (Below w.heap.size w w'))
               case atStart => exact ⟨(0), (by first | rfl | (simp; done) | (simp [*]; done)), H', ⟨Nat.le_refl _⟩, ⟨by (with_reducible repeat (first | apply Kd.R_alloc | apply Kd.R_drewN | apply Kd.R_drew)); exact HO_5.out⟩, ⟨by (with_reducible repeat (first | apply Kd.R_alloc | apply Kd.R_drewN | apply Kd.R_drew)); exact HO_8.out⟩, ⟨by (with_reducible repeat (first | apply Kd.R_alloc | apply Kd.R_drewN | apply Kd.R_drew)); exact HO_11.out⟩, ⟨by (with_reducible repeat (first | apply Kd.R_alloc | apply Kd.R_drewN | apply Kd.R_drew)); exact HO_12.out⟩, ⟨by repeat (first | (with_reducible first | exact HB.out | apply below_alloc | apply pw_below_drewN | apply below_drew1) | exact HB.out)⟩⟩
               case round =>
                clear H'
                try clear p1
                try clear q1
                try clear hx1
                try clear qi1
                try clear p2
                try clear p4
                try clear q4
                try clear c5
                try clear p6
                try clear p18
                try clear q18
                try clear p19
                try clear q19
                try clear hx19
                try clear qi19
                try clear p41
                try clear q41
                try clear p42
                try clear q42
                try clear c51
                try clear c51b0
                try clear c52
                try clear c52b0
                try clear c53
                try clear c53b0
                try clear c54
                try clear c54b0
                try clear c55
                try clear c55b0
                try clear c56
                try clear c56b0
                try clear c57
                try clear c57b0
                try clear c58
                try clear c58b0
                try clear c58b1
                try clear hx193_0
                try clear hx194_0
                try clear hx195_0
                try clear p189
                try clear p19
                try clear p190
                try clear p191
                try clear p193
                try clear p194
                try clear p195
                try clear p2
                try clear p4
                try clear p41
                try clear p42
                try clear p6
                try clear q1
                try clear q18
                try clear q184
                try clear q185
                try clear q186
                try clear q187
                try clear q189
                try clear q19
                try clear q190
                try clear q191
                try clear q193
                try clear q194
                try clear q195
                try clear q4
                try clear q41
                try clear q42
                obtain ⟨x16_5, rfl, HA, HK5, HO_5, HO_8, HO_11, HO_12, HB⟩ := hrel
                cases gk with
                | zero => exact absurd HA.out (by simp [gridmarketlaw43_ExecutiveFair.l4])
                | succ k5 =>
                 have H := HA.out
                 clear HA
                 simp only [gridmarketlaw43_ExecutiveFair.l4] at H
                 by_cases c62 : x16_5 < (t168.length : Int)
                 ·
                  rw [if_pos c62] at H
                  have c62b0 : decide (x16_5 < (t168.length : Int)) = true := decide_eq_true c62
                  clear c62
                  by_cases c63 : 0 ≤ x16_5
                  ·
                   rw [if_pos c63] at H
                   have c63b0 : decide (0 ≤ x16_5) = true := decide_eq_true c63
                   clear c63
                   by_cases c64 : x16_5 < (x5_1.length : Int)
                   ·
                    rw [if_pos c64] at H
                    have c64b0 : decide (x16_5 < (x5_1.length : Int)) = true := decide_eq_true c64
                    clear c64
                    by_cases c65 : 0 ≤ ((rd_T25 x5_1 x16_5).f1)
                    ·
                     rw [if_pos c65] at H
                     have c65b0 : decide (0 ≤ ((rd_T25 x5_1 x16_5).f1)) = true := decide_eq_true c65
                     clear c65
                     by_cases c66 : ((rd_T25 x5_1 x16_5).f1) < 3
                     ·
                      rw [if_pos c66] at H
                      have c66b0 : decide (((rd_T25 x5_1 x16_5).f1) < 3) = true := decide_eq_true c66
                      clear c66
                      by_cases c67 : (rd x12_3 ((rd_T25 x5_1 x16_5).f1)) > 0
                      ·
                       rw [if_pos c67] at H
                       have c67b0 : decide (0 < (rd x12_3 ((rd_T25 x5_1 x16_5).f1))) = true := decide_eq_true c67
                       clear c67
                       by_cases c68 : (wrap64 ((wrap64 ((rd t168 x16_5) * (rd x12_3 ((rd_T25 x5_1 x16_5).f1)))) - (wrap64 ((rd x11_3 ((rd_T25 x5_1 x16_5).f1)) * ((rd_T25 x5_1 x16_5).f0))))) ≥ (rd x12_3 ((rd_T25 x5_1 x16_5).f1))
                       ·
                        rw [if_pos c68] at H
                        have c68b0 : decide ((rd x12_3 ((rd_T25 x5_1 x16_5).f1)) ≤ (wrap64 ((wrap64 ((rd t168 x16_5) * (rd x12_3 ((rd_T25 x5_1 x16_5).f1)))) - (wrap64 ((rd x11_3 ((rd_T25 x5_1 x16_5).f1)) * ((rd_T25 x5_1 x16_5).f0)))))) = true := decide_eq_true c68
                        clear c68
                        obtain rfl := Option.some.inj H
                        have p196 : 0 ≤ (x16_5 : Int) := of_decide_eq_true (by first | (with_reducible assumption) | assumption)
                        have q196 : x16_5 < (x5_1.length : Int) := of_decide_eq_true (by first | (with_reducible assumption) | assumption)
                        obtain ⟨ad196, e196, hx196_0, hx196_1⟩ := at_T25 (Kd.R_reads' HO_5.out).2.2 x16_5 p196 q196
                        cases e196
                        replace p196 := eq_true p196
                        replace q196 := eq_true q196
                        try go_wp2
                        have n0_ := Aside0.mk (Kd.R_drew HO_5.out)
                        have n1_ := Aside0.mk (Kd.R_drew HO_8.out)
                        have n2_ := Aside0.mk (Kd.R_drew HO_11.out)
                        have n3_ := Aside0.mk (Kd.R_drew HO_12.out)
                        have n4_ := Aside0.mk (below_drew1 HB.out)
                        clear HO_5
                        clear HO_8
                        clear HO_11
                        clear HO_12
                        clear HB
                        have HO_5 := n0_
                        have HO_8 := n1_
                        have HO_11 := n2_
                        have HO_12 := n3_
                        have HB := n4_
                        clear n0_ n1_ n2_ n3_ n4_
                        have p197 : 0 ≤ (x16_5 : Int) := of_decide_eq_true (by first | (with_reducible assumption) | assumption)
                        have q197 : x16_5 < (t168.length : Int) := of_decide_eq_true (by first | (with_reducible assumption) | assumption)
                        obtain ⟨ad197, e197, hx197_0⟩ := Kd.at_int (Kd.R_reads' HO_8.out).2.2 x16_5 p197 q197
                        cases e197
                        replace p197 := eq_true p197
                        replace q197 := eq_true q197
                        have p198 : 0 ≤ (((rd_T25 x5_1 x16_5).f1) : Int) := of_decide_eq_true (by first | (with_reducible assumption) | assumption)
                        have q198 : ((rd_T25 x5_1 x16_5).f1) < (x12_3.length : Int) := (by have h_ : (((rd_T25 x5_1 x16_5).f1) : Int) < (3 : Int) := of_decide_eq_true (by first | (with_reducible assumption) | assumption); have e_ := (Kd.R_reads' HO_12.out).1; omega)
                        obtain ⟨ad198, e198, hx198_0⟩ := Kd.at_int (Kd.R_reads' HO_12.out).2.2 ((rd_T25 x5_1 x16_5).f1) p198 q198
                        obtain rfl : (⟨ga180, 0, none⟩ : Addr) = ad198 := (by injection e198)
                        (first | simp only [add_plain] at hx198_0 | simp only [add_at] at hx198_0 | simp only [Addr.add, Nat.zero_add] at hx198_0 | skip)
                        (try simp only [Own.add_mk0] at hx198_0)
                        have qi198 : (((rd_T25 x5_1 x16_5).f1) < 3) = True := eq_true (of_decide_eq_true (by first | (with_reducible assumption) | assumption))
                        replace p198 := eq_true p198
                        replace q198 := eq_true q198
                        have p199 : 0 ≤ (((rd_T25 x5_1 x16_5).f1) : Int) := of_decide_eq_true (by first | (with_reducible assumption) | assumption)
                        have q199 : ((rd_T25 x5_1 x16_5).f1) < (x11_3.length : Int) := (by have h_ : (((rd_T25 x5_1 x16_5).f1) : Int) < (3 : Int) := of_decide_eq_true (by first | (with_reducible assumption) | assumption); have e_ := (Kd.R_reads' HO_11.out).1; omega)
                        obtain ⟨ad199, e199, hx199_0⟩ := Kd.at_int (Kd.R_reads' HO_11.out).2.2 ((rd_T25 x5_1 x16_5).f1) p199 q199
                        obtain rfl : (⟨ga176, 0, none⟩ : Addr) = ad199 := (by injection e199)
                        (first | simp only [add_plain] at hx199_0 | simp only [add_at] at hx199_0 | simp only [Addr.add, Nat.zero_add] at hx199_0 | skip)
                        (try simp only [Own.add_mk0] at hx199_0)
                        have qi199 : (((rd_T25 x5_1 x16_5).f1) < 3) = True := eq_true (of_decide_eq_true (by first | (with_reducible assumption) | assumption))
                        replace p199 := eq_true p199
                        replace q199 := eq_true q199
                        have p200 : 0 ≤ (x16_5 : Int) := of_decide_eq_true (by first | (with_reducible assumption) | assumption)
                        have q200 : x16_5 < (x5_1.length : Int) := of_decide_eq_true (by first | (with_reducible assumption) | assumption)
                        obtain ⟨ad200, e200, hx200_0, hx200_1⟩ := at_T25 (Kd.R_reads' HO_5.out).2.2 x16_5 p200 q200
                        obtain rfl : ad196 = ad200 := (by injection e200)
                        replace p200 := eq_true p200
                        replace q200 := eq_true q200
                        refine start_ (n := 19) (S := fun w' => w'.cell? (ad197.add (x16_5).toNat) = some (.int .i64 (rd t168 x16_5)) ∧ w'.cell? ⟨ga180, (((rd_T25 x5_1 x16_5).f1)).toNat, none⟩ = some (.int .i64 (rd x12_3 ((rd_T25 x5_1 x16_5).f1))) ∧ w'.cell? ⟨ga176, (((rd_T25 x5_1 x16_5).f1)).toNat, none⟩ = some (.int .i64 (rd x11_3 ((rd_T25 x5_1 x16_5).f1))) ∧ w'.cell? (ad196.add ((x16_5).toNat * 2)) = some (.int .i64 ((rd_T25 x5_1 x16_5).f0)) ∧ w'.cell? ⟨(ad196.add ((x16_5).toNat * 2)).block, (ad196.add ((x16_5).toNat * 2)).off + 1, none⟩ = some (.int .i64 ((rd_T25 x5_1 x16_5).f1))) (ds := []) #[false, false, false, false, false, false, false, false, false, false, false, false, false, false, false, false, false, false, false] (by kernel_rfl) rfl rfl ⟨hx197_0, hx198_0, hx199_0, hx200_0, hx200_1⟩ (fun hHeld => ?_); refine with_tabW gridmarketlaw43_ExecutiveFair.tab36 gridmarketlaw43_ExecutiveFair.bits36 (fun HT_ HW_ => ?_)
                        generalize wr.drew = w69 at HO_5 HO_8 HO_11 HO_12 HB hx197_0 hx198_0 hx199_0 hx200_0 hx200_1 hHeld ⊢
                        refine pure_ (i := 0) (N := some 162) (v := ?_) (a' := ?_) #[true, false, false, false, false, false, false, false, false, false, false, false, false, false, false, false, false, false, false] rfl rfl (any_of HT_.out (by kernel_rfl)) (fun _ _ _ h => h) (Or.inl ⟨by rfl, ?_⟩) ?_ ?_
                        rotate_left
                        ·
                         intro w'
                         go_simp
                         with_reducible rfl
                        rotate_left
                        ·
                         simp only [Act.put, List.setIfInBounds_toArray, List.set_cons_zero, List.set_cons_succ, i64_w, i32_w]
                         rfl
                        refine pure_ (i := 1) (N := some 163) (v := ?_) (a' := ?_) #[true, true, false, false, false, false, false, false, false, false, false, false, false, false, false, false, false, false, false] rfl rfl (any_of HT_.out (by kernel_rfl)) (fun _ _ _ h => h) (Or.inl ⟨by rfl, ?_⟩) ?_ ?_
                        rotate_left
                        ·
                         intro w'
                         go_simp
                         with_reducible rfl
                        rotate_left
                        ·
                         simp only [Act.put, List.setIfInBounds_toArray, List.set_cons_zero, List.set_cons_succ, i64_w, i32_w]
                         rfl
                        refine pure_ (i := 2) (N := some 164) (v := ?_) (a' := ?_) #[true, true, true, false, false, false, false, false, false, false, false, false, false, false, false, false, false, false, false] rfl rfl (any_of HT_.out (by kernel_rfl)) (fun _ _ _ h => h) (Or.inl ⟨by rfl, ?_⟩) ?_ ?_
                        rotate_left
                        ·
                         intro w'
                         go_simp
                         with_reducible rfl
                        rotate_left
                        ·
                         simp only [Act.put, List.setIfInBounds_toArray, List.set_cons_zero, List.set_cons_succ, i64_w, i32_w]
                         rfl
                        refine pure_ (i := 4) (N := some 166) (v := ?_) (a' := ?_) #[true, true, true, false, true, false, false, false, false, false, false, false, false, false, false, false, false, false, false] rfl rfl (any_of HT_.out (by kernel_rfl)) (fun _ _ _ h => h) (Or.inl ⟨by rfl, ?_⟩) ?_ ?_
                        rotate_left
                        ·
                         intro w'
                         go_simp
                         with_reducible rfl
                        rotate_left
                        ·
                         simp only [Act.put, List.setIfInBounds_toArray, List.set_cons_zero, List.set_cons_succ, i64_w, i32_w]
                         rfl
                        refine pure_ (i := 5) (N := some 167) (v := ?_) (a' := ?_) #[true, true, true, false, true, true, false, false, false, false, false, false, false, false, false, false, false, false, false] rfl rfl (any_of HT_.out (by kernel_rfl)) (fun _ _ _ h => h) (Or.inl ⟨by rfl, ?_⟩) ?_ ?_
                        rotate_left
                        ·
                         intro w'
                         go_simp
                         with_reducible rfl
                        rotate_left
                        ·
                         simp only [Act.put, List.setIfInBounds_toArray, List.set_cons_zero, List.set_cons_succ, i64_w, i32_w]
                         rfl
                        refine pure_ (i := 8) (N := some 170) (v := ?_) (a' := ?_) #[true, true, true, false, true, true, false, false, true, false, false, false, false, false, false, false, false, false, false] rfl rfl (any_of HT_.out (by kernel_rfl)) (fun _ _ _ h => h) (Or.inl ⟨by rfl, ?_⟩) ?_ ?_
                        rotate_left
                        ·
                         intro w'
                         go_simp
                         with_reducible rfl
                        rotate_left
                        ·
                         simp only [Act.put, List.setIfInBounds_toArray, List.set_cons_zero, List.set_cons_succ, i64_w, i32_w]
                         rfl
                        refine pure_ (i := 9) (N := some 171) (v := ?_) (a' := ?_) #[true, true, true, false, true, true, false, false, true, true, false, false, false, false, false, false, false, false, false] rfl rfl (any_of HT_.out (by kernel_rfl)) (fun _ _ _ h => h) (Or.inl ⟨by rfl, ?_⟩) ?_ ?_
                        rotate_left
                        ·
                         intro w'
                         go_simp
                         with_reducible rfl
                        rotate_left
                        ·
                         simp only [Act.put, List.setIfInBounds_toArray, List.set_cons_zero, List.set_cons_succ, i64_w, i32_w]
                         rfl
                        refine pure_ (i := 11) (N := some 173) (v := ?_) (a' := ?_) #[true, true, true, false, true, true, false, false, true, true, false, true, false, false, false, false, false, false, false] rfl rfl (any_of HT_.out (by kernel_rfl)) (fun _ _ _ h => h) (Or.inl ⟨by rfl, ?_⟩) ?_ ?_
                        rotate_left
                        ·
                         intro w'
                         go_simp
                         with_reducible rfl
                        rotate_left
                        ·
                         simp only [Act.put, List.setIfInBounds_toArray, List.set_cons_zero, List.set_cons_succ, i64_w, i32_w]
                         rfl
                        refine pure_ (i := 12) (N := some 174) (v := ?_) (a' := ?_) #[true, true, true, false, true, true, false, false, true, true, false, true, true, false, false, false, false, false, false] rfl rfl (any_of HT_.out (by kernel_rfl)) (fun _ _ _ h => h) (Or.inl ⟨by rfl, ?_⟩) ?_ ?_
                        rotate_left
                        ·
                         intro w'
                         go_simp
                         with_reducible rfl
                        rotate_left
                        ·
                         simp only [Act.put, List.setIfInBounds_toArray, List.set_cons_zero, List.set_cons_succ, i64_w, i32_w]
                         rfl
                        refine pure_ (i := 13) (N := some 175) (v := ?_) (a' := ?_) #[true, true, true, false, true, true, false, false, true, true, false, true, true, true, false, false, false, false, false] rfl rfl (any_of HT_.out (by kernel_rfl)) (fun _ _ _ h => h) (Or.inl ⟨by rfl, ?_⟩) ?_ ?_
                        rotate_left
                        ·
                         intro w'
                         go_simp
                         with_reducible rfl
                        rotate_left
                        ·
                         simp only [Act.put, List.setIfInBounds_toArray, List.set_cons_zero, List.set_cons_succ, i64_w, i32_w]
                         rfl
                        refine pure_ (i := 14) (N := some 176) (v := ?_) (a' := ?_) #[true, true, true, false, true, true, false, false, true, true, false, true, true, true, true, false, false, false, false] rfl rfl (any_of HT_.out (by kernel_rfl)) (fun _ _ _ h => h) (Or.inl ⟨by rfl, ?_⟩) ?_ ?_
                        rotate_left
                        ·
                         intro w'
                         go_simp
                         with_reducible rfl
                        rotate_left
                        ·
                         simp only [Act.put, List.setIfInBounds_toArray, List.set_cons_zero, List.set_cons_succ, i64_w, i32_w]
                         rfl
                        refine take_ (i := 3) (N := some 165) (v := ?_) (a' := ?_) #[true, true, true, true, true, true, false, false, true, true, false, true, true, true, true, false, false, false, false] rfl rfl (take_ofW HT_.out HW_.out (by kernel_rfl)) (fun _ _ _ h => h) (Or.inl ⟨by rfl, ?_⟩) hHeld ?_ ?_
                        rotate_left
                        ·
                         rintro w' ⟨s0, s1, s2, s3, s4⟩
                         go_simp
                         with_reducible rfl
                        rotate_left
                        ·
                         simp only [Act.put, List.setIfInBounds_toArray, List.set_cons_zero, List.set_cons_succ, i64_w, i32_w]
                         rfl
                        refine take_ (i := 6) (N := some 168) (v := ?_) (a' := ?_) #[true, true, true, true, true, true, true, false, true, true, false, true, true, true, true, false, false, false, false] rfl rfl (take_ofW HT_.out HW_.out (by kernel_rfl)) (fun _ _ _ h => h) (Or.inl ⟨by rfl, ?_⟩) hHeld ?_ ?_
                        rotate_left
                        ·
                         rintro w' ⟨s0, s1, s2, s3, s4⟩
                         go_simp
                         with_reducible rfl
                        rotate_left
                        ·
                         simp only [Act.put, List.setIfInBounds_toArray, List.set_cons_zero, List.set_cons_succ, i64_w, i32_w]
                         rfl
                        refine pure_ (i := 7) (N := some 169) (v := ?_) (a' := ?_) #[true, true, true, true, true, true, true, true, true, true, false, true, true, true, true, false, false, false, false] rfl rfl (any_of HT_.out (by kernel_rfl)) (fun _ _ _ h => h) (Or.inl ⟨by rfl, ?_⟩) ?_ ?_
                        rotate_left
                        ·
                         intro w'
                         go_simp
                         with_reducible rfl
                        rotate_left
                        ·
                         simp only [Act.put, List.setIfInBounds_toArray, List.set_cons_zero, List.set_cons_succ, i64_w, i32_w]
                         rfl
                        refine take_ (i := 10) (N := some 172) (v := ?_) (a' := ?_) #[true, true, true, true, true, true, true, true, true, true, true, true, true, true, true, false, false, false, false] rfl rfl (take_ofW HT_.out HW_.out (by kernel_rfl)) (fun _ _ _ h => h) (Or.inl ⟨by rfl, ?_⟩) hHeld ?_ ?_
                        rotate_left
                        ·
                         rintro w' ⟨s0, s1, s2, s3, s4⟩
                         go_simp
                         with_reducible rfl
                        rotate_left
                        ·
                         simp only [Act.put, List.setIfInBounds_toArray, List.set_cons_zero, List.set_cons_succ, i64_w, i32_w]
                         rfl
                        refine take_ (i := 15) (N := some 177) (v := ?_) (a' := ?_) #[true, true, true, true, true, true, true, true, true, true, true, true, true, true, true, true, false, false, false] rfl rfl (take_ofW HT_.out HW_.out (by kernel_rfl)) (fun _ _ _ h => h) (Or.inl ⟨by rfl, ?_⟩) hHeld ?_ ?_
                        rotate_left
                        ·
                         rintro w' ⟨s0, s1, s2, s3, s4⟩
                         go_simp
                         with_reducible rfl
                        rotate_left
                        ·
                         simp only [Act.put, List.setIfInBounds_toArray, List.set_cons_zero, List.set_cons_succ, i64_w, i32_w]
                         rfl
                        refine pure_ (i := 16) (N := some 178) (v := ?_) (a' := ?_) #[true, true, true, true, true, true, true, true, true, true, true, true, true, true, true, true, true, false, false] rfl rfl (any_of HT_.out (by kernel_rfl)) (fun _ _ _ h => h) (Or.inl ⟨by rfl, ?_⟩) ?_ ?_
                        rotate_left
                        ·
                         intro w'
                         go_simp
                         with_reducible rfl
                        rotate_left
                        ·
                         simp only [Act.put, List.setIfInBounds_toArray, List.set_cons_zero, List.set_cons_succ, i64_w, i32_w]
                         rfl
                        refine pure_ (i := 17) (N := some 179) (v := ?_) (a' := ?_) #[true, true, true, true, true, true, true, true, true, true, true, true, true, true, true, true, true, true, false] rfl rfl (any_of HT_.out (by kernel_rfl)) (fun _ _ _ h => h) (Or.inl ⟨by rfl, ?_⟩) ?_ ?_
                        rotate_left
                        ·
                         intro w'
                         go_simp
                         with_reducible rfl
                        rotate_left
                        ·
                         simp only [Act.put, List.setIfInBounds_toArray, List.set_cons_zero, List.set_cons_succ, i64_w, i32_w]
                         rfl
                        refine pure_ (i := 18) (N := some 18) (v := ?_) (a' := ?_) #[true, true, true, true, true, true, true, true, true, true, true, true, true, true, true, true, true, true, true] rfl rfl (any_of HT_.out (by kernel_rfl)) (fun _ _ _ h => h) (Or.inl ⟨by rfl, ?_⟩) ?_ ?_
                        rotate_left
                        ·
                         intro w'
                         go_simp
                         with_reducible rfl
                        rotate_left
                        ·
                         simp only [Act.put, List.setIfInBounds_toArray, List.set_cons_zero, List.set_cons_succ, i64_w, i32_w]
                         rfl
                        refine done_ (done_of HT_.out (by kernel_rfl)) ?_
                        have p201 : 0 ≤ (((rd_T25 x5_1 x16_5).f1) : Int) := of_decide_eq_true (by first | (with_reducible assumption) | assumption)
                        have q201 : ((rd_T25 x5_1 x16_5).f1) < (x12_3.length : Int) := (by have h_ : (((rd_T25 x5_1 x16_5).f1) : Int) < (3 : Int) := of_decide_eq_true (by first | (with_reducible assumption) | assumption); have e_ := (Kd.R_reads' HO_12.out).1; omega)
                        obtain ⟨ad201, e201, hx201_0⟩ := Kd.at_int (Kd.R_reads' HO_12.out).2.2 ((rd_T25 x5_1 x16_5).f1) p201 q201
                        obtain rfl : (⟨ga180, 0, none⟩ : Addr) = ad201 := (by injection e201)
                        (first | simp only [add_plain] at hx201_0 | simp only [add_at] at hx201_0 | simp only [Addr.add, Nat.zero_add] at hx201_0 | skip)
                        (try simp only [Own.add_mk0] at hx201_0)
                        have qi201 : (((rd_T25 x5_1 x16_5).f1) < 3) = True := eq_true (of_decide_eq_true (by first | (with_reducible assumption) | assumption))
                        replace p201 := eq_true p201
                        replace q201 := eq_true q201
                        have p202 : 0 ≤ (((rd_T25 x5_1 x16_5).f1) : Int) := of_decide_eq_true (by first | (with_reducible assumption) | assumption)
                        have q202 : ((rd_T25 x5_1 x16_5).f1) < (x12_3.length : Int) := (by have h_ : (((rd_T25 x5_1 x16_5).f1) : Int) < (3 : Int) := of_decide_eq_true (by first | (with_reducible assumption) | assumption); have e_ := (Kd.R_reads' HO_12.out).1; omega)
                        obtain ⟨ad202, e202, hx202_0⟩ := Kd.at_int (Kd.R_reads' HO_12.out).2.2 ((rd_T25 x5_1 x16_5).f1) p202 q202
                        obtain rfl : (⟨ga180, 0, none⟩ : Addr) = ad202 := (by injection e202)
                        (first | simp only [add_plain] at hx202_0 | simp only [add_at] at hx202_0 | simp only [Addr.add, Nat.zero_add] at hx202_0 | skip)
                        (try simp only [Own.add_mk0] at hx202_0)
                        have qi202 : (((rd_T25 x5_1 x16_5).f1) < 3) = True := eq_true (of_decide_eq_true (by first | (with_reducible assumption) | assumption))
                        replace p202 := eq_true p202
                        replace q202 := eq_true q202
                        try go_wp2
                        go_ret
                        exact ⟨by first | rfl | (simp [errW_none, errW_some] <;> rfl) | (simp [*, errW_none, errW_some] <;> rfl), by repeat (first | (with_reducible first | exact HB.out | apply below_alloc | apply pw_below_drewN | apply below_drew1) | exact HB.out)⟩
                       ·
                        rw [if_neg c68] at H
                        have c68b0 : decide ((rd x12_3 ((rd_T25 x5_1 x16_5).f1)) ≤ (wrap64 ((wrap64 ((rd t168 x16_5) * (rd x12_3 ((rd_T25 x5_1 x16_5).f1)))) - (wrap64 ((rd x11_3 ((rd_T25 x5_1 x16_5).f1)) * ((rd_T25 x5_1 x16_5).f0)))))) = false := decide_eq_false c68
                        clear c68
                        by_cases c70 : (wrap64 ((wrap64 ((rd t168 x16_5) * (rd x12_3 ((rd_T25 x5_1 x16_5).f1)))) - (wrap64 ((rd x11_3 ((rd_T25 x5_1 x16_5).f1)) * ((rd_T25 x5_1 x16_5).f0))))) ≤ (wrap64 (-(rd x12_3 ((rd_T25 x5_1 x16_5).f1))))
                        ·
                         rw [if_pos c70] at H
                         have c70b0 : decide ((wrap64 ((wrap64 ((rd t168 x16_5) * (rd x12_3 ((rd_T25 x5_1 x16_5).f1)))) - (wrap64 ((rd x11_3 ((rd_T25 x5_1 x16_5).f1)) * ((rd_T25 x5_1 x16_5).f0))))) ≤ (wrap64 (-(rd x12_3 ((rd_T25 x5_1 x16_5).f1))))) = true := decide_eq_true c70
                         clear c70
                         obtain rfl := Option.some.inj H
                         have p196 : 0 ≤ (x16_5 : Int) := of_decide_eq_true (by first | (with_reducible assumption) | assumption)
                         have q196 : x16_5 < (x5_1.length : Int) := of_decide_eq_true (by first | (with_reducible assumption) | assumption)
                         obtain ⟨ad196, e196, hx196_0, hx196_1⟩ := at_T25 (Kd.R_reads' HO_5.out).2.2 x16_5 p196 q196
                         cases e196
                         replace p196 := eq_true p196
                         replace q196 := eq_true q196
                         try go_wp2
                         have n0_ := Aside0.mk (Kd.R_drew HO_5.out)
                         have n1_ := Aside0.mk (Kd.R_drew HO_8.out)
                         have n2_ := Aside0.mk (Kd.R_drew HO_11.out)
                         have n3_ := Aside0.mk (Kd.R_drew HO_12.out)
                         have n4_ := Aside0.mk (below_drew1 HB.out)
                         clear HO_5
                         clear HO_8
                         clear HO_11
                         clear HO_12
                         clear HB
                         have HO_5 := n0_
                         have HO_8 := n1_
                         have HO_11 := n2_
                         have HO_12 := n3_
                         have HB := n4_
                         clear n0_ n1_ n2_ n3_ n4_
                         have p197 : 0 ≤ (x16_5 : Int) := of_decide_eq_true (by first | (with_reducible assumption) | assumption)
                         have q197 : x16_5 < (t168.length : Int) := of_decide_eq_true (by first | (with_reducible assumption) | assumption)
                         obtain ⟨ad197, e197, hx197_0⟩ := Kd.at_int (Kd.R_reads' HO_8.out).2.2 x16_5 p197 q197
                         cases e197
                         replace p197 := eq_true p197
                         replace q197 := eq_true q197
                         have p198 : 0 ≤ (((rd_T25 x5_1 x16_5).f1) : Int) := of_decide_eq_true (by first | (with_reducible assumption) | assumption)
                         have q198 : ((rd_T25 x5_1 x16_5).f1) < (x12_3.length : Int) := (by have h_ : (((rd_T25 x5_1 x16_5).f1) : Int) < (3 : Int) := of_decide_eq_true (by first | (with_reducible assumption) | assumption); have e_ := (Kd.R_reads' HO_12.out).1; omega)
                         obtain ⟨ad198, e198, hx198_0⟩ := Kd.at_int (Kd.R_reads' HO_12.out).2.2 ((rd_T25 x5_1 x16_5).f1) p198 q198
                         obtain rfl : (⟨ga180, 0, none⟩ : Addr) = ad198 := (by injection e198)
                         (first | simp only [add_plain] at hx198_0 | simp only [add_at] at hx198_0 | simp only [Addr.add, Nat.zero_add] at hx198_0 | skip)
                         (try simp only [Own.add_mk0] at hx198_0)
                         have qi198 : (((rd_T25 x5_1 x16_5).f1) < 3) = True := eq_true (of_decide_eq_true (by first | (with_reducible assumption) | assumption))
                         replace p198 := eq_true p198
                         replace q198 := eq_true q198
                         have p199 : 0 ≤ (((rd_T25 x5_1 x16_5).f1) : Int) := of_decide_eq_true (by first | (with_reducible assumption) | assumption)
                         have q199 : ((rd_T25 x5_1 x16_5).f1) < (x11_3.length : Int) := (by have h_ : (((rd_T25 x5_1 x16_5).f1) : Int) < (3 : Int) := of_decide_eq_true (by first | (with_reducible assumption) | assumption); have e_ := (Kd.R_reads' HO_11.out).1; omega)
                         obtain ⟨ad199, e199, hx199_0⟩ := Kd.at_int (Kd.R_reads' HO_11.out).2.2 ((rd_T25 x5_1 x16_5).f1) p199 q199
                         obtain rfl : (⟨ga176, 0, none⟩ : Addr) = ad199 := (by injection e199)
                         (first | simp only [add_plain] at hx199_0 | simp only [add_at] at hx199_0 | simp only [Addr.add, Nat.zero_add] at hx199_0 | skip)
                         (try simp only [Own.add_mk0] at hx199_0)
                         have qi199 : (((rd_T25 x5_1 x16_5).f1) < 3) = True := eq_true (of_decide_eq_true (by first | (with_reducible assumption) | assumption))
                         replace p199 := eq_true p199
                         replace q199 := eq_true q199
                         have p200 : 0 ≤ (x16_5 : Int) := of_decide_eq_true (by first | (with_reducible assumption) | assumption)
                         have q200 : x16_5 < (x5_1.length : Int) := of_decide_eq_true (by first | (with_reducible assumption) | assumption)
                         obtain ⟨ad200, e200, hx200_0, hx200_1⟩ := at_T25 (Kd.R_reads' HO_5.out).2.2 x16_5 p200 q200
                         obtain rfl : ad196 = ad200 := (by injection e200)
                         replace p200 := eq_true p200
                         replace q200 := eq_true q200
                         refine start_ (n := 19) (S := fun w' => w'.cell? (ad197.add (x16_5).toNat) = some (.int .i64 (rd t168 x16_5)) ∧ w'.cell? ⟨ga180, (((rd_T25 x5_1 x16_5).f1)).toNat, none⟩ = some (.int .i64 (rd x12_3 ((rd_T25 x5_1 x16_5).f1))) ∧ w'.cell? ⟨ga176, (((rd_T25 x5_1 x16_5).f1)).toNat, none⟩ = some (.int .i64 (rd x11_3 ((rd_T25 x5_1 x16_5).f1))) ∧ w'.cell? (ad196.add ((x16_5).toNat * 2)) = some (.int .i64 ((rd_T25 x5_1 x16_5).f0)) ∧ w'.cell? ⟨(ad196.add ((x16_5).toNat * 2)).block, (ad196.add ((x16_5).toNat * 2)).off + 1, none⟩ = some (.int .i64 ((rd_T25 x5_1 x16_5).f1))) (ds := []) #[false, false, false, false, false, false, false, false, false, false, false, false, false, false, false, false, false, false, false] (by kernel_rfl) rfl rfl ⟨hx197_0, hx198_0, hx199_0, hx200_0, hx200_1⟩ (fun hHeld => ?_); refine with_tabW gridmarketlaw43_ExecutiveFair.tab36 gridmarketlaw43_ExecutiveFair.bits36 (fun HT_ HW_ => ?_)
                         generalize wr.drew = w71 at HO_5 HO_8 HO_11 HO_12 HB hx197_0 hx198_0 hx199_0 hx200_0 hx200_1 hHeld ⊢
                         refine pure_ (i := 0) (N := some 162) (v := ?_) (a' := ?_) #[true, false, false, false, false, false, false, false, false, false, false, false, false, false, false, false, false, false, false] rfl rfl (any_of HT_.out (by kernel_rfl)) (fun _ _ _ h => h) (Or.inl ⟨by rfl, ?_⟩) ?_ ?_
                         rotate_left
                         ·
                          intro w'
                          go_simp
                          with_reducible rfl
                         rotate_left
                         ·
                          simp only [Act.put, List.setIfInBounds_toArray, List.set_cons_zero, List.set_cons_succ, i64_w, i32_w]
                          rfl
                         refine pure_ (i := 1) (N := some 163) (v := ?_) (a' := ?_) #[true, true, false, false, false, false, false, false, false, false, false, false, false, false, false, false, false, false, false] rfl rfl (any_of HT_.out (by kernel_rfl)) (fun _ _ _ h => h) (Or.inl ⟨by rfl, ?_⟩) ?_ ?_
                         rotate_left
                         ·
                          intro w'
                          go_simp
                          with_reducible rfl
                         rotate_left
                         ·
                          simp only [Act.put, List.setIfInBounds_toArray, List.set_cons_zero, List.set_cons_succ, i64_w, i32_w]
                          rfl
                         refine pure_ (i := 2) (N := some 164) (v := ?_) (a' := ?_) #[true, true, true, false, false, false, false, false, false, false, false, false, false, false, false, false, false, false, false] rfl rfl (any_of HT_.out (by kernel_rfl)) (fun _ _ _ h => h) (Or.inl ⟨by rfl, ?_⟩) ?_ ?_
                         rotate_left
                         ·
                          intro w'
                          go_simp
                          with_reducible rfl
                         rotate_left
                         ·
                          simp only [Act.put, List.setIfInBounds_toArray, List.set_cons_zero, List.set_cons_succ, i64_w, i32_w]
                          rfl
                         refine pure_ (i := 4) (N := some 166) (v := ?_) (a' := ?_) #[true, true, true, false, true, false, false, false, false, false, false, false, false, false, false, false, false, false, false] rfl rfl (any_of HT_.out (by kernel_rfl)) (fun _ _ _ h => h) (Or.inl ⟨by rfl, ?_⟩) ?_ ?_
                         rotate_left
                         ·
                          intro w'
                          go_simp
                          with_reducible rfl
                         rotate_left
                         ·
                          simp only [Act.put, List.setIfInBounds_toArray, List.set_cons_zero, List.set_cons_succ, i64_w, i32_w]
                          rfl
                         refine pure_ (i := 5) (N := some 167) (v := ?_) (a' := ?_) #[true, true, true, false, true, true, false, false, false, false, false, false, false, false, false, false, false, false, false] rfl rfl (any_of HT_.out (by kernel_rfl)) (fun _ _ _ h => h) (Or.inl ⟨by rfl, ?_⟩) ?_ ?_
                         rotate_left
                         ·
                          intro w'
                          go_simp
                          with_reducible rfl
                         rotate_left
                         ·
                          simp only [Act.put, List.setIfInBounds_toArray, List.set_cons_zero, List.set_cons_succ, i64_w, i32_w]
                          rfl
                         refine pure_ (i := 8) (N := some 170) (v := ?_) (a' := ?_) #[true, true, true, false, true, true, false, false, true, false, false, false, false, false, false, false, false, false, false] rfl rfl (any_of HT_.out (by kernel_rfl)) (fun _ _ _ h => h) (Or.inl ⟨by rfl, ?_⟩) ?_ ?_
                         rotate_left
                         ·
                          intro w'
                          go_simp
                          with_reducible rfl
                         rotate_left
                         ·
                          simp only [Act.put, List.setIfInBounds_toArray, List.set_cons_zero, List.set_cons_succ, i64_w, i32_w]
                          rfl
                         refine pure_ (i := 9) (N := some 171) (v := ?_) (a' := ?_) #[true, true, true, false, true, true, false, false, true, true, false, false, false, false, false, false, false, false, false] rfl rfl (any_of HT_.out (by kernel_rfl)) (fun _ _ _ h => h) (Or.inl ⟨by rfl, ?_⟩) ?_ ?_
                         rotate_left
                         ·
                          intro w'
                          go_simp
                          with_reducible rfl
                         rotate_left
                         ·
                          simp only [Act.put, List.setIfInBounds_toArray, List.set_cons_zero, List.set_cons_succ, i64_w, i32_w]
                          rfl
                         refine pure_ (i := 11) (N := some 173) (v := ?_) (a' := ?_) #[true, true, true, false, true, true, false, false, true, true, false, true, false, false, false, false, false, false, false] rfl rfl (any_of HT_.out (by kernel_rfl)) (fun _ _ _ h => h) (Or.inl ⟨by rfl, ?_⟩) ?_ ?_
                         rotate_left
                         ·
                          intro w'
                          go_simp
                          with_reducible rfl
                         rotate_left
                         ·
                          simp only [Act.put, List.setIfInBounds_toArray, List.set_cons_zero, List.set_cons_succ, i64_w, i32_w]
                          rfl
                         refine pure_ (i := 12) (N := some 174) (v := ?_) (a' := ?_) #[true, true, true, false, true, true, false, false, true, true, false, true, true, false, false, false, false, false, false] rfl rfl (any_of HT_.out (by kernel_rfl)) (fun _ _ _ h => h) (Or.inl ⟨by rfl, ?_⟩) ?_ ?_
                         rotate_left
                         ·
                          intro w'
                          go_simp
                          with_reducible rfl
                         rotate_left
                         ·
                          simp only [Act.put, List.setIfInBounds_toArray, List.set_cons_zero, List.set_cons_succ, i64_w, i32_w]
                          rfl
                         refine pure_ (i := 13) (N := some 175) (v := ?_) (a' := ?_) #[true, true, true, false, true, true, false, false, true, true, false, true, true, true, false, false, false, false, false] rfl rfl (any_of HT_.out (by kernel_rfl)) (fun _ _ _ h => h) (Or.inl ⟨by rfl, ?_⟩) ?_ ?_
                         rotate_left
                         ·
                          intro w'
                          go_simp
                          with_reducible rfl
                         rotate_left
                         ·
                          simp only [Act.put, List.setIfInBounds_toArray, List.set_cons_zero, List.set_cons_succ, i64_w, i32_w]
                          rfl
                         refine pure_ (i := 14) (N := some 176) (v := ?_) (a' := ?_) #[true, true, true, false, true, true, false, false, true, true, false, true, true, true, true, false, false, false, false] rfl rfl (any_of HT_.out (by kernel_rfl)) (fun _ _ _ h => h) (Or.inl ⟨by rfl, ?_⟩) ?_ ?_
                         rotate_left
                         ·
                          intro w'
                          go_simp
                          with_reducible rfl
                         rotate_left
                         ·
                          simp only [Act.put, List.setIfInBounds_toArray, List.set_cons_zero, List.set_cons_succ, i64_w, i32_w]
                          rfl
                         refine take_ (i := 3) (N := some 165) (v := ?_) (a' := ?_) #[true, true, true, true, true, true, false, false, true, true, false, true, true, true, true, false, false, false, false] rfl rfl (take_ofW HT_.out HW_.out (by kernel_rfl)) (fun _ _ _ h => h) (Or.inl ⟨by rfl, ?_⟩) hHeld ?_ ?_
                         rotate_left
                         ·
                          rintro w' ⟨s0, s1, s2, s3, s4⟩
                          go_simp
                          with_reducible rfl
                         rotate_left
                         ·
                          simp only [Act.put, List.setIfInBounds_toArray, List.set_cons_zero, List.set_cons_succ, i64_w, i32_w]
                          rfl
                         refine take_ (i := 6) (N := some 168) (v := ?_) (a' := ?_) #[true, true, true, true, true, true, true, false, true, true, false, true, true, true, true, false, false, false, false] rfl rfl (take_ofW HT_.out HW_.out (by kernel_rfl)) (fun _ _ _ h => h) (Or.inl ⟨by rfl, ?_⟩) hHeld ?_ ?_
                         rotate_left
                         ·
                          rintro w' ⟨s0, s1, s2, s3, s4⟩
                          go_simp
                          with_reducible rfl
                         rotate_left
                         ·
                          simp only [Act.put, List.setIfInBounds_toArray, List.set_cons_zero, List.set_cons_succ, i64_w, i32_w]
                          rfl
                         refine pure_ (i := 7) (N := some 169) (v := ?_) (a' := ?_) #[true, true, true, true, true, true, true, true, true, true, false, true, true, true, true, false, false, false, false] rfl rfl (any_of HT_.out (by kernel_rfl)) (fun _ _ _ h => h) (Or.inl ⟨by rfl, ?_⟩) ?_ ?_
                         rotate_left
                         ·
                          intro w'
                          go_simp
                          with_reducible rfl
                         rotate_left
                         ·
                          simp only [Act.put, List.setIfInBounds_toArray, List.set_cons_zero, List.set_cons_succ, i64_w, i32_w]
                          rfl
                         refine take_ (i := 10) (N := some 172) (v := ?_) (a' := ?_) #[true, true, true, true, true, true, true, true, true, true, true, true, true, true, true, false, false, false, false] rfl rfl (take_ofW HT_.out HW_.out (by kernel_rfl)) (fun _ _ _ h => h) (Or.inl ⟨by rfl, ?_⟩) hHeld ?_ ?_
                         rotate_left
                         ·
                          rintro w' ⟨s0, s1, s2, s3, s4⟩
                          go_simp
                          with_reducible rfl
                         rotate_left
                         ·
                          simp only [Act.put, List.setIfInBounds_toArray, List.set_cons_zero, List.set_cons_succ, i64_w, i32_w]
                          rfl
                         refine take_ (i := 15) (N := some 177) (v := ?_) (a' := ?_) #[true, true, true, true, true, true, true, true, true, true, true, true, true, true, true, true, false, false, false] rfl rfl (take_ofW HT_.out HW_.out (by kernel_rfl)) (fun _ _ _ h => h) (Or.inl ⟨by rfl, ?_⟩) hHeld ?_ ?_
                         rotate_left
                         ·
                          rintro w' ⟨s0, s1, s2, s3, s4⟩
                          go_simp
                          with_reducible rfl
                         rotate_left
                         ·
                          simp only [Act.put, List.setIfInBounds_toArray, List.set_cons_zero, List.set_cons_succ, i64_w, i32_w]
                          rfl
                         refine pure_ (i := 16) (N := some 178) (v := ?_) (a' := ?_) #[true, true, true, true, true, true, true, true, true, true, true, true, true, true, true, true, true, false, false] rfl rfl (any_of HT_.out (by kernel_rfl)) (fun _ _ _ h => h) (Or.inl ⟨by rfl, ?_⟩) ?_ ?_
                         rotate_left
                         ·
                          intro w'
                          go_simp
                          with_reducible rfl
                         rotate_left
                         ·
                          simp only [Act.put, List.setIfInBounds_toArray, List.set_cons_zero, List.set_cons_succ, i64_w, i32_w]
                          rfl
                         refine pure_ (i := 17) (N := some 179) (v := ?_) (a' := ?_) #[true, true, true, true, true, true, true, true, true, true, true, true, true, true, true, true, true, true, false] rfl rfl (any_of HT_.out (by kernel_rfl)) (fun _ _ _ h => h) (Or.inl ⟨by rfl, ?_⟩) ?_ ?_
                         rotate_left
                         ·
                          intro w'
                          go_simp
                          with_reducible rfl
                         rotate_left
                         ·
                          simp only [Act.put, List.setIfInBounds_toArray, List.set_cons_zero, List.set_cons_succ, i64_w, i32_w]
                          rfl
                         refine pure_ (i := 18) (N := some 18) (v := ?_) (a' := ?_) #[true, true, true, true, true, true, true, true, true, true, true, true, true, true, true, true, true, true, true] rfl rfl (any_of HT_.out (by kernel_rfl)) (fun _ _ _ h => h) (Or.inl ⟨by rfl, ?_⟩) ?_ ?_
                         rotate_left
                         ·
                          intro w'
                          go_simp
                          with_reducible rfl
                         rotate_left
                         ·
                          simp only [Act.put, List.setIfInBounds_toArray, List.set_cons_zero, List.set_cons_succ, i64_w, i32_w]
                          rfl
                         refine done_ (done_of HT_.out (by kernel_rfl)) ?_
                         have p201 : 0 ≤ (((rd_T25 x5_1 x16_5).f1) : Int) := of_decide_eq_true (by first | (with_reducible assumption) | assumption)
                         have q201 : ((rd_T25 x5_1 x16_5).f1) < (x12_3.length : Int) := (by have h_ : (((rd_T25 x5_1 x16_5).f1) : Int) < (3 : Int) := of_decide_eq_true (by first | (with_reducible assumption) | assumption); have e_ := (Kd.R_reads' HO_12.out).1; omega)
                         obtain ⟨ad201, e201, hx201_0⟩ := Kd.at_int (Kd.R_reads' HO_12.out).2.2 ((rd_T25 x5_1 x16_5).f1) p201 q201
                         obtain rfl : (⟨ga180, 0, none⟩ : Addr) = ad201 := (by injection e201)
                         (first | simp only [add_plain] at hx201_0 | simp only [add_at] at hx201_0 | simp only [Addr.add, Nat.zero_add] at hx201_0 | skip)
                         (try simp only [Own.add_mk0] at hx201_0)
                         have qi201 : (((rd_T25 x5_1 x16_5).f1) < 3) = True := eq_true (of_decide_eq_true (by first | (with_reducible assumption) | assumption))
                         replace p201 := eq_true p201
                         replace q201 := eq_true q201
                         have p202 : 0 ≤ (((rd_T25 x5_1 x16_5).f1) : Int) := of_decide_eq_true (by first | (with_reducible assumption) | assumption)
                         have q202 : ((rd_T25 x5_1 x16_5).f1) < (x12_3.length : Int) := (by have h_ : (((rd_T25 x5_1 x16_5).f1) : Int) < (3 : Int) := of_decide_eq_true (by first | (with_reducible assumption) | assumption); have e_ := (Kd.R_reads' HO_12.out).1; omega)
                         obtain ⟨ad202, e202, hx202_0⟩ := Kd.at_int (Kd.R_reads' HO_12.out).2.2 ((rd_T25 x5_1 x16_5).f1) p202 q202
                         obtain rfl : (⟨ga180, 0, none⟩ : Addr) = ad202 := (by injection e202)
                         (first | simp only [add_plain] at hx202_0 | simp only [add_at] at hx202_0 | simp only [Addr.add, Nat.zero_add] at hx202_0 | skip)
                         (try simp only [Own.add_mk0] at hx202_0)
                         have qi202 : (((rd_T25 x5_1 x16_5).f1) < 3) = True := eq_true (of_decide_eq_true (by first | (with_reducible assumption) | assumption))
                         replace p202 := eq_true p202
                         replace q202 := eq_true q202
                         have p203 : 0 ≤ (((rd_T25 x5_1 x16_5).f1) : Int) := of_decide_eq_true (by first | (with_reducible assumption) | assumption)
                         have q203 : ((rd_T25 x5_1 x16_5).f1) < (x12_3.length : Int) := (by have h_ : (((rd_T25 x5_1 x16_5).f1) : Int) < (3 : Int) := of_decide_eq_true (by first | (with_reducible assumption) | assumption); have e_ := (Kd.R_reads' HO_12.out).1; omega)
                         obtain ⟨ad203, e203, hx203_0⟩ := Kd.at_int (Kd.R_reads' HO_12.out).2.2 ((rd_T25 x5_1 x16_5).f1) p203 q203
                         obtain rfl : (⟨ga180, 0, none⟩ : Addr) = ad203 := (by injection e203)
                         (first | simp only [add_plain] at hx203_0 | simp only [add_at] at hx203_0 | simp only [Addr.add, Nat.zero_add] at hx203_0 | skip)
                         (try simp only [Own.add_mk0] at hx203_0)
                         have qi203 : (((rd_T25 x5_1 x16_5).f1) < 3) = True := eq_true (of_decide_eq_true (by first | (with_reducible assumption) | assumption))
                         replace p203 := eq_true p203
                         replace q203 := eq_true q203
                         try go_wp2
                         go_ret
                         exact ⟨by first | rfl | (simp [errW_none, errW_some] <;> rfl) | (simp [*, errW_none, errW_some] <;> rfl), by repeat (first | (with_reducible first | exact HB.out | apply below_alloc | apply pw_below_drewN | apply below_drew1) | exact HB.out)⟩
                        ·
                         rw [if_neg c70] at H
                         have c70b0 : decide ((wrap64 ((wrap64 ((rd t168 x16_5) * (rd x12_3 ((rd_T25 x5_1 x16_5).f1)))) - (wrap64 ((rd x11_3 ((rd_T25 x5_1 x16_5).f1)) * ((rd_T25 x5_1 x16_5).f0))))) ≤ (wrap64 (-(rd x12_3 ((rd_T25 x5_1 x16_5).f1))))) = false := decide_eq_false c70
                         clear c70
                         have H' := Aside0.mk H
                         clear H
                         have p196 : 0 ≤ (x16_5 : Int) := of_decide_eq_true (by first | (with_reducible assumption) | assumption)
                         have q196 : x16_5 < (x5_1.length : Int) := of_decide_eq_true (by first | (with_reducible assumption) | assumption)
                         obtain ⟨ad196, e196, hx196_0, hx196_1⟩ := at_T25 (Kd.R_reads' HO_5.out).2.2 x16_5 p196 q196
                         cases e196
                         replace p196 := eq_true p196
                         replace q196 := eq_true q196
                         try go_wp2
                         have n0_ := Aside0.mk (Kd.R_drew HO_5.out)
                         have n1_ := Aside0.mk (Kd.R_drew HO_8.out)
                         have n2_ := Aside0.mk (Kd.R_drew HO_11.out)
                         have n3_ := Aside0.mk (Kd.R_drew HO_12.out)
                         have n4_ := Aside0.mk (below_drew1 HB.out)
                         clear HO_5
                         clear HO_8
                         clear HO_11
                         clear HO_12
                         clear HB
                         have HO_5 := n0_
                         have HO_8 := n1_
                         have HO_11 := n2_
                         have HO_12 := n3_
                         have HB := n4_
                         clear n0_ n1_ n2_ n3_ n4_
                         have p197 : 0 ≤ (x16_5 : Int) := of_decide_eq_true (by first | (with_reducible assumption) | assumption)
                         have q197 : x16_5 < (t168.length : Int) := of_decide_eq_true (by first | (with_reducible assumption) | assumption)
                         obtain ⟨ad197, e197, hx197_0⟩ := Kd.at_int (Kd.R_reads' HO_8.out).2.2 x16_5 p197 q197
                         cases e197
                         replace p197 := eq_true p197
                         replace q197 := eq_true q197
                         have p198 : 0 ≤ (((rd_T25 x5_1 x16_5).f1) : Int) := of_decide_eq_true (by first | (with_reducible assumption) | assumption)
                         have q198 : ((rd_T25 x5_1 x16_5).f1) < (x12_3.length : Int) := (by have h_ : (((rd_T25 x5_1 x16_5).f1) : Int) < (3 : Int) := of_decide_eq_true (by first | (with_reducible assumption) | assumption); have e_ := (Kd.R_reads' HO_12.out).1; omega)
                         obtain ⟨ad198, e198, hx198_0⟩ := Kd.at_int (Kd.R_reads' HO_12.out).2.2 ((rd_T25 x5_1 x16_5).f1) p198 q198
                         obtain rfl : (⟨ga180, 0, none⟩ : Addr) = ad198 := (by injection e198)
                         (first | simp only [add_plain] at hx198_0 | simp only [add_at] at hx198_0 | simp only [Addr.add, Nat.zero_add] at hx198_0 | skip)
                         (try simp only [Own.add_mk0] at hx198_0)
                         have qi198 : (((rd_T25 x5_1 x16_5).f1) < 3) = True := eq_true (of_decide_eq_true (by first | (with_reducible assumption) | assumption))
                         replace p198 := eq_true p198
                         replace q198 := eq_true q198
                         have p199 : 0 ≤ (((rd_T25 x5_1 x16_5).f1) : Int) := of_decide_eq_true (by first | (with_reducible assumption) | assumption)
                         have q199 : ((rd_T25 x5_1 x16_5).f1) < (x11_3.length : Int) := (by have h_ : (((rd_T25 x5_1 x16_5).f1) : Int) < (3 : Int) := of_decide_eq_true (by first | (with_reducible assumption) | assumption); have e_ := (Kd.R_reads' HO_11.out).1; omega)
                         obtain ⟨ad199, e199, hx199_0⟩ := Kd.at_int (Kd.R_reads' HO_11.out).2.2 ((rd_T25 x5_1 x16_5).f1) p199 q199
                         obtain rfl : (⟨ga176, 0, none⟩ : Addr) = ad199 := (by injection e199)
                         (first | simp only [add_plain] at hx199_0 | simp only [add_at] at hx199_0 | simp only [Addr.add, Nat.zero_add] at hx199_0 | skip)
                         (try simp only [Own.add_mk0] at hx199_0)
                         have qi199 : (((rd_T25 x5_1 x16_5).f1) < 3) = True := eq_true (of_decide_eq_true (by first | (with_reducible assumption) | assumption))
                         replace p199 := eq_true p199
                         replace q199 := eq_true q199
                         have p200 : 0 ≤ (x16_5 : Int) := of_decide_eq_true (by first | (with_reducible assumption) | assumption)
                         have q200 : x16_5 < (x5_1.length : Int) := of_decide_eq_true (by first | (with_reducible assumption) | assumption)
                         obtain ⟨ad200, e200, hx200_0, hx200_1⟩ := at_T25 (Kd.R_reads' HO_5.out).2.2 x16_5 p200 q200
                         obtain rfl : ad196 = ad200 := (by injection e200)
                         replace p200 := eq_true p200
                         replace q200 := eq_true q200
                         refine start_ (n := 19) (S := fun w' => w'.cell? (ad197.add (x16_5).toNat) = some (.int .i64 (rd t168 x16_5)) ∧ w'.cell? ⟨ga180, (((rd_T25 x5_1 x16_5).f1)).toNat, none⟩ = some (.int .i64 (rd x12_3 ((rd_T25 x5_1 x16_5).f1))) ∧ w'.cell? ⟨ga176, (((rd_T25 x5_1 x16_5).f1)).toNat, none⟩ = some (.int .i64 (rd x11_3 ((rd_T25 x5_1 x16_5).f1))) ∧ w'.cell? (ad196.add ((x16_5).toNat * 2)) = some (.int .i64 ((rd_T25 x5_1 x16_5).f0)) ∧ w'.cell? ⟨(ad196.add ((x16_5).toNat * 2)).block, (ad196.add ((x16_5).toNat * 2)).off + 1, none⟩ = some (.int .i64 ((rd_T25 x5_1 x16_5).f1))) (ds := []) #[false, false, false, false, false, false, false, false, false, false, false, false, false, false, false, false, false, false, false] (by kernel_rfl) rfl rfl ⟨hx197_0, hx198_0, hx199_0, hx200_0, hx200_1⟩ (fun hHeld => ?_); refine with_tabW gridmarketlaw43_ExecutiveFair.tab36 gridmarketlaw43_ExecutiveFair.bits36 (fun HT_ HW_ => ?_)
                         generalize wr.drew = w72 at HO_5 HO_8 HO_11 HO_12 HB hx197_0 hx198_0 hx199_0 hx200_0 hx200_1 hHeld ⊢
                         refine pure_ (i := 0) (N := some 162) (v := ?_) (a' := ?_) #[true, false, false, false, false, false, false, false, false, false, false, false, false, false, false, false, false, false, false] rfl rfl (any_of HT_.out (by kernel_rfl)) (fun _ _ _ h => h) (Or.inl ⟨by rfl, ?_⟩) ?_ ?_
                         rotate_left
                         ·
                          intro w'
                          go_simp
                          with_reducible rfl
                         rotate_left
                         ·
                          simp only [Act.put, List.setIfInBounds_toArray, List.set_cons_zero, List.set_cons_succ, i64_w, i32_w]
                          rfl
                         refine pure_ (i := 1) (N := some 163) (v := ?_) (a' := ?_) #[true, true, false, false, false, false, false, false, false, false, false, false, false, false, false, false, false, false, false] rfl rfl (any_of HT_.out (by kernel_rfl)) (fun _ _ _ h => h) (Or.inl ⟨by rfl, ?_⟩) ?_ ?_
                         rotate_left
                         ·
                          intro w'
                          go_simp
                          with_reducible rfl
                         rotate_left
                         ·
                          simp only [Act.put, List.setIfInBounds_toArray, List.set_cons_zero, List.set_cons_succ, i64_w, i32_w]
                          rfl
                         refine pure_ (i := 2) (N := some 164) (v := ?_) (a' := ?_) #[true, true, true, false, false, false, false, false, false, false, false, false, false, false, false, false, false, false, false] rfl rfl (any_of HT_.out (by kernel_rfl)) (fun _ _ _ h => h) (Or.inl ⟨by rfl, ?_⟩) ?_ ?_
                         rotate_left
                         ·
                          intro w'
                          go_simp
                          with_reducible rfl
                         rotate_left
                         ·
                          simp only [Act.put, List.setIfInBounds_toArray, List.set_cons_zero, List.set_cons_succ, i64_w, i32_w]
                          rfl
                         refine pure_ (i := 4) (N := some 166) (v := ?_) (a' := ?_) #[true, true, true, false, true, false, false, false, false, false, false, false, false, false, false, false, false, false, false] rfl rfl (any_of HT_.out (by kernel_rfl)) (fun _ _ _ h => h) (Or.inl ⟨by rfl, ?_⟩) ?_ ?_
                         rotate_left
                         ·
                          intro w'
                          go_simp
                          with_reducible rfl
                         rotate_left
                         ·
                          simp only [Act.put, List.setIfInBounds_toArray, List.set_cons_zero, List.set_cons_succ, i64_w, i32_w]
                          rfl
                         refine pure_ (i := 5) (N := some 167) (v := ?_) (a' := ?_) #[true, true, true, false, true, true, false, false, false, false, false, false, false, false, false, false, false, false, false] rfl rfl (any_of HT_.out (by kernel_rfl)) (fun _ _ _ h => h) (Or.inl ⟨by rfl, ?_⟩) ?_ ?_
                         rotate_left
                         ·
                          intro w'
                          go_simp
                          with_reducible rfl
                         rotate_left
                         ·
                          simp only [Act.put, List.setIfInBounds_toArray, List.set_cons_zero, List.set_cons_succ, i64_w, i32_w]
                          rfl
                         refine pure_ (i := 8) (N := some 170) (v := ?_) (a' := ?_) #[true, true, true, false, true, true, false, false, true, false, false, false, false, false, false, false, false, false, false] rfl rfl (any_of HT_.out (by kernel_rfl)) (fun _ _ _ h => h) (Or.inl ⟨by rfl, ?_⟩) ?_ ?_
                         rotate_left
                         ·
                          intro w'
                          go_simp
                          with_reducible rfl
                         rotate_left
                         ·
                          simp only [Act.put, List.setIfInBounds_toArray, List.set_cons_zero, List.set_cons_succ, i64_w, i32_w]
                          rfl
                         refine pure_ (i := 9) (N := some 171) (v := ?_) (a' := ?_) #[true, true, true, false, true, true, false, false, true, true, false, false, false, false, false, false, false, false, false] rfl rfl (any_of HT_.out (by kernel_rfl)) (fun _ _ _ h => h) (Or.inl ⟨by rfl, ?_⟩) ?_ ?_
                         rotate_left
                         ·
                          intro w'
                          go_simp
                          with_reducible rfl
                         rotate_left
                         ·
                          simp only [Act.put, List.setIfInBounds_toArray, List.set_cons_zero, List.set_cons_succ, i64_w, i32_w]
                          rfl
                         refine pure_ (i := 11) (N := some 173) (v := ?_) (a' := ?_) #[true, true, true, false, true, true, false, false, true, true, false, true, false, false, false, false, false, false, false] rfl rfl (any_of HT_.out (by kernel_rfl)) (fun _ _ _ h => h) (Or.inl ⟨by rfl, ?_⟩) ?_ ?_
                         rotate_left
                         ·
                          intro w'
                          go_simp
                          with_reducible rfl
                         rotate_left
                         ·
                          simp only [Act.put, List.setIfInBounds_toArray, List.set_cons_zero, List.set_cons_succ, i64_w, i32_w]
                          rfl
                         refine pure_ (i := 12) (N := some 174) (v := ?_) (a' := ?_) #[true, true, true, false, true, true, false, false, true, true, false, true, true, false, false, false, false, false, false] rfl rfl (any_of HT_.out (by kernel_rfl)) (fun _ _ _ h => h) (Or.inl ⟨by rfl, ?_⟩) ?_ ?_
                         rotate_left
                         ·
                          intro w'
                          go_simp
                          with_reducible rfl
                         rotate_left
                         ·
                          simp only [Act.put, List.setIfInBounds_toArray, List.set_cons_zero, List.set_cons_succ, i64_w, i32_w]
                          rfl
                         refine pure_ (i := 13) (N := some 175) (v := ?_) (a' := ?_) #[true, true, true, false, true, true, false, false, true, true, false, true, true, true, false, false, false, false, false] rfl rfl (any_of HT_.out (by kernel_rfl)) (fun _ _ _ h => h) (Or.inl ⟨by rfl, ?_⟩) ?_ ?_
                         rotate_left
                         ·
                          intro w'
                          go_simp
                          with_reducible rfl
                         rotate_left
                         ·
                          simp only [Act.put, List.setIfInBounds_toArray, List.set_cons_zero, List.set_cons_succ, i64_w, i32_w]
                          rfl
                         refine pure_ (i := 14) (N := some 176) (v := ?_) (a' := ?_) #[true, true, true, false, true, true, false, false, true, true, false, true, true, true, true, false, false, false, false] rfl rfl (any_of HT_.out (by kernel_rfl)) (fun _ _ _ h => h) (Or.inl ⟨by rfl, ?_⟩) ?_ ?_
                         rotate_left
                         ·
                          intro w'
                          go_simp
                          with_reducible rfl
                         rotate_left
                         ·
                          simp only [Act.put, List.setIfInBounds_toArray, List.set_cons_zero, List.set_cons_succ, i64_w, i32_w]
                          rfl
                         refine take_ (i := 3) (N := some 165) (v := ?_) (a' := ?_) #[true, true, true, true, true, true, false, false, true, true, false, true, true, true, true, false, false, false, false] rfl rfl (take_ofW HT_.out HW_.out (by kernel_rfl)) (fun _ _ _ h => h) (Or.inl ⟨by rfl, ?_⟩) hHeld ?_ ?_
                         rotate_left
                         ·
                          rintro w' ⟨s0, s1, s2, s3, s4⟩
                          go_simp
                          with_reducible rfl
                         rotate_left
                         ·
                          simp only [Act.put, List.setIfInBounds_toArray, List.set_cons_zero, List.set_cons_succ, i64_w, i32_w]
                          rfl
                         refine take_ (i := 6) (N := some 168) (v := ?_) (a' := ?_) #[true, true, true, true, true, true, true, false, true, true, false, true, true, true, true, false, false, false, false] rfl rfl (take_ofW HT_.out HW_.out (by kernel_rfl)) (fun _ _ _ h => h) (Or.inl ⟨by rfl, ?_⟩) hHeld ?_ ?_
                         rotate_left
                         ·
                          rintro w' ⟨s0, s1, s2, s3, s4⟩
                          go_simp
                          with_reducible rfl
                         rotate_left
                         ·
                          simp only [Act.put, List.setIfInBounds_toArray, List.set_cons_zero, List.set_cons_succ, i64_w, i32_w]
                          rfl
                         refine pure_ (i := 7) (N := some 169) (v := ?_) (a' := ?_) #[true, true, true, true, true, true, true, true, true, true, false, true, true, true, true, false, false, false, false] rfl rfl (any_of HT_.out (by kernel_rfl)) (fun _ _ _ h => h) (Or.inl ⟨by rfl, ?_⟩) ?_ ?_
                         rotate_left
                         ·
                          intro w'
                          go_simp
                          with_reducible rfl
                         rotate_left
                         ·
                          simp only [Act.put, List.setIfInBounds_toArray, List.set_cons_zero, List.set_cons_succ, i64_w, i32_w]
                          rfl
                         refine take_ (i := 10) (N := some 172) (v := ?_) (a' := ?_) #[true, true, true, true, true, true, true, true, true, true, true, true, true, true, true, false, false, false, false] rfl rfl (take_ofW HT_.out HW_.out (by kernel_rfl)) (fun _ _ _ h => h) (Or.inl ⟨by rfl, ?_⟩) hHeld ?_ ?_
                         rotate_left
                         ·
                          rintro w' ⟨s0, s1, s2, s3, s4⟩
                          go_simp
                          with_reducible rfl
                         rotate_left
                         ·
                          simp only [Act.put, List.setIfInBounds_toArray, List.set_cons_zero, List.set_cons_succ, i64_w, i32_w]
                          rfl
                         refine take_ (i := 15) (N := some 177) (v := ?_) (a' := ?_) #[true, true, true, true, true, true, true, true, true, true, true, true, true, true, true, true, false, false, false] rfl rfl (take_ofW HT_.out HW_.out (by kernel_rfl)) (fun _ _ _ h => h) (Or.inl ⟨by rfl, ?_⟩) hHeld ?_ ?_
                         rotate_left
                         ·
                          rintro w' ⟨s0, s1, s2, s3, s4⟩
                          go_simp
                          with_reducible rfl
                         rotate_left
                         ·
                          simp only [Act.put, List.setIfInBounds_toArray, List.set_cons_zero, List.set_cons_succ, i64_w, i32_w]
                          rfl
                         refine pure_ (i := 16) (N := some 178) (v := ?_) (a' := ?_) #[true, true, true, true, true, true, true, true, true, true, true, true, true, true, true, true, true, false, false] rfl rfl (any_of HT_.out (by kernel_rfl)) (fun _ _ _ h => h) (Or.inl ⟨by rfl, ?_⟩) ?_ ?_
                         rotate_left
                         ·
                          intro w'
                          go_simp
                          with_reducible rfl
                         rotate_left
                         ·
                          simp only [Act.put, List.setIfInBounds_toArray, List.set_cons_zero, List.set_cons_succ, i64_w, i32_w]
                          rfl
                         refine pure_ (i := 17) (N := some 179) (v := ?_) (a' := ?_) #[true, true, true, true, true, true, true, true, true, true, true, true, true, true, true, true, true, true, false] rfl rfl (any_of HT_.out (by kernel_rfl)) (fun _ _ _ h => h) (Or.inl ⟨by rfl, ?_⟩) ?_ ?_
                         rotate_left
                         ·
                          intro w'
                          go_simp
                          with_reducible rfl
                         rotate_left
                         ·
                          simp only [Act.put, List.setIfInBounds_toArray, List.set_cons_zero, List.set_cons_succ, i64_w, i32_w]
                          rfl
                         refine pure_ (i := 18) (N := some 18) (v := ?_) (a' := ?_) #[true, true, true, true, true, true, true, true, true, true, true, true, true, true, true, true, true, true, true] rfl rfl (any_of HT_.out (by kernel_rfl)) (fun _ _ _ h => h) (Or.inl ⟨by rfl, ?_⟩) ?_ ?_
                         rotate_left
                         ·
                          intro w'
                          go_simp
                          with_reducible rfl
                         rotate_left
                         ·
                          simp only [Act.put, List.setIfInBounds_toArray, List.set_cons_zero, List.set_cons_succ, i64_w, i32_w]
                          rfl
                         refine done_ (done_of HT_.out (by kernel_rfl)) ?_
                         have p201 : 0 ≤ (((rd_T25 x5_1 x16_5).f1) : Int) := of_decide_eq_true (by first | (with_reducible assumption) | assumption)
                         have q201 : ((rd_T25 x5_1 x16_5).f1) < (x12_3.length : Int) := (by have h_ : (((rd_T25 x5_1 x16_5).f1) : Int) < (3 : Int) := of_decide_eq_true (by first | (with_reducible assumption) | assumption); have e_ := (Kd.R_reads' HO_12.out).1; omega)
                         obtain ⟨ad201, e201, hx201_0⟩ := Kd.at_int (Kd.R_reads' HO_12.out).2.2 ((rd_T25 x5_1 x16_5).f1) p201 q201
                         obtain rfl : (⟨ga180, 0, none⟩ : Addr) = ad201 := (by injection e201)
                         (first | simp only [add_plain] at hx201_0 | simp only [add_at] at hx201_0 | simp only [Addr.add, Nat.zero_add] at hx201_0 | skip)
                         (try simp only [Own.add_mk0] at hx201_0)
                         have qi201 : (((rd_T25 x5_1 x16_5).f1) < 3) = True := eq_true (of_decide_eq_true (by first | (with_reducible assumption) | assumption))
                         replace p201 := eq_true p201
                         replace q201 := eq_true q201
                         have p202 : 0 ≤ (((rd_T25 x5_1 x16_5).f1) : Int) := of_decide_eq_true (by first | (with_reducible assumption) | assumption)
                         have q202 : ((rd_T25 x5_1 x16_5).f1) < (x12_3.length : Int) := (by have h_ : (((rd_T25 x5_1 x16_5).f1) : Int) < (3 : Int) := of_decide_eq_true (by first | (with_reducible assumption) | assumption); have e_ := (Kd.R_reads' HO_12.out).1; omega)
                         obtain ⟨ad202, e202, hx202_0⟩ := Kd.at_int (Kd.R_reads' HO_12.out).2.2 ((rd_T25 x5_1 x16_5).f1) p202 q202
                         obtain rfl : (⟨ga180, 0, none⟩ : Addr) = ad202 := (by injection e202)
                         (first | simp only [add_plain] at hx202_0 | simp only [add_at] at hx202_0 | simp only [Addr.add, Nat.zero_add] at hx202_0 | skip)
                         (try simp only [Own.add_mk0] at hx202_0)
                         have qi202 : (((rd_T25 x5_1 x16_5).f1) < 3) = True := eq_true (of_decide_eq_true (by first | (with_reducible assumption) | assumption))
                         replace p202 := eq_true p202
                         replace q202 := eq_true q202
                         have p203 : 0 ≤ (((rd_T25 x5_1 x16_5).f1) : Int) := of_decide_eq_true (by first | (with_reducible assumption) | assumption)
                         have q203 : ((rd_T25 x5_1 x16_5).f1) < (x12_3.length : Int) := (by have h_ : (((rd_T25 x5_1 x16_5).f1) : Int) < (3 : Int) := of_decide_eq_true (by first | (with_reducible assumption) | assumption); have e_ := (Kd.R_reads' HO_12.out).1; omega)
                         obtain ⟨ad203, e203, hx203_0⟩ := Kd.at_int (Kd.R_reads' HO_12.out).2.2 ((rd_T25 x5_1 x16_5).f1) p203 q203
                         obtain rfl : (⟨ga180, 0, none⟩ : Addr) = ad203 := (by injection e203)
                         (first | simp only [add_plain] at hx203_0 | simp only [add_at] at hx203_0 | simp only [Addr.add, Nat.zero_add] at hx203_0 | skip)
                         (try simp only [Own.add_mk0] at hx203_0)
                         have qi203 : (((rd_T25 x5_1 x16_5).f1) < 3) = True := eq_true (of_decide_eq_true (by first | (with_reducible assumption) | assumption))
                         replace p203 := eq_true p203
                         replace q203 := eq_true q203
                         try go_wp2
                         go_roundg k5
                         case measure => have := HK1.out; have := HJ14.out; have := HK3.out; have := HK4.out; have := HK5.out; omega
                         case rel => exact ⟨(wrap64 (x16_5 + 1)), (by first | rfl | (simp; done) | (simp [*]; done)), H', ⟨by have := HK1.out; have := HJ14.out; have := HK3.out; have := HK4.out; have := HK5.out; omega⟩, ⟨by (with_reducible repeat (first | apply Kd.R_alloc | apply Kd.R_drewN | apply Kd.R_drew)); exact HO_5.out⟩, ⟨by (with_reducible repeat (first | apply Kd.R_alloc | apply Kd.R_drewN | apply Kd.R_drew)); exact HO_8.out⟩, ⟨by (with_reducible repeat (first | apply Kd.R_alloc | apply Kd.R_drewN | apply Kd.R_drew)); exact HO_11.out⟩, ⟨by (with_reducible repeat (first | apply Kd.R_alloc | apply Kd.R_drewN | apply Kd.R_drew)); exact HO_12.out⟩, ⟨by repeat (first | (with_reducible first | exact HB.out | apply below_alloc | apply pw_below_drewN | apply below_drew1) | exact HB.out)⟩⟩
                      ·
                       rw [if_neg c67] at H
                       have c67b0 : decide (0 < (rd x12_3 ((rd_T25 x5_1 x16_5).f1))) = false := decide_eq_false c67
                       clear c67
                       have H' := Aside0.mk H
                       clear H
                       have p196 : 0 ≤ (x16_5 : Int) := of_decide_eq_true (by first | (with_reducible assumption) | assumption)
                       have q196 : x16_5 < (x5_1.length : Int) := of_decide_eq_true (by first | (with_reducible assumption) | assumption)
                       obtain ⟨ad196, e196, hx196_0, hx196_1⟩ := at_T25 (Kd.R_reads' HO_5.out).2.2 x16_5 p196 q196
                       cases e196
                       replace p196 := eq_true p196
                       replace q196 := eq_true q196
                       try go_wp2
                       have n0_ := Aside0.mk (Kd.R_drew HO_5.out)
                       have n1_ := Aside0.mk (Kd.R_drew HO_8.out)
                       have n2_ := Aside0.mk (Kd.R_drew HO_11.out)
                       have n3_ := Aside0.mk (Kd.R_drew HO_12.out)
                       have n4_ := Aside0.mk (below_drew1 HB.out)
                       clear HO_5
                       clear HO_8
                       clear HO_11
                       clear HO_12
                       clear HB
                       have HO_5 := n0_
                       have HO_8 := n1_
                       have HO_11 := n2_
                       have HO_12 := n3_
                       have HB := n4_
                       clear n0_ n1_ n2_ n3_ n4_
                       have p197 : 0 ≤ (x16_5 : Int) := of_decide_eq_true (by first | (with_reducible assumption) | assumption)
                       have q197 : x16_5 < (t168.length : Int) := of_decide_eq_true (by first | (with_reducible assumption) | assumption)
                       obtain ⟨ad197, e197, hx197_0⟩ := Kd.at_int (Kd.R_reads' HO_8.out).2.2 x16_5 p197 q197
                       cases e197
                       replace p197 := eq_true p197
                       replace q197 := eq_true q197
                       have p198 : 0 ≤ (((rd_T25 x5_1 x16_5).f1) : Int) := of_decide_eq_true (by first | (with_reducible assumption) | assumption)
                       have q198 : ((rd_T25 x5_1 x16_5).f1) < (x12_3.length : Int) := (by have h_ : (((rd_T25 x5_1 x16_5).f1) : Int) < (3 : Int) := of_decide_eq_true (by first | (with_reducible assumption) | assumption); have e_ := (Kd.R_reads' HO_12.out).1; omega)
                       obtain ⟨ad198, e198, hx198_0⟩ := Kd.at_int (Kd.R_reads' HO_12.out).2.2 ((rd_T25 x5_1 x16_5).f1) p198 q198
                       obtain rfl : (⟨ga180, 0, none⟩ : Addr) = ad198 := (by injection e198)
                       (first | simp only [add_plain] at hx198_0 | simp only [add_at] at hx198_0 | simp only [Addr.add, Nat.zero_add] at hx198_0 | skip)
                       (try simp only [Own.add_mk0] at hx198_0)
                       have qi198 : (((rd_T25 x5_1 x16_5).f1) < 3) = True := eq_true (of_decide_eq_true (by first | (with_reducible assumption) | assumption))
                       replace p198 := eq_true p198
                       replace q198 := eq_true q198
                       have p199 : 0 ≤ (((rd_T25 x5_1 x16_5).f1) : Int) := of_decide_eq_true (by first | (with_reducible assumption) | assumption)
                       have q199 : ((rd_T25 x5_1 x16_5).f1) < (x11_3.length : Int) := (by have h_ : (((rd_T25 x5_1 x16_5).f1) : Int) < (3 : Int) := of_decide_eq_true (by first | (with_reducible assumption) | assumption); have e_ := (Kd.R_reads' HO_11.out).1; omega)
                       obtain ⟨ad199, e199, hx199_0⟩ := Kd.at_int (Kd.R_reads' HO_11.out).2.2 ((rd_T25 x5_1 x16_5).f1) p199 q199
                       obtain rfl : (⟨ga176, 0, none⟩ : Addr) = ad199 := (by injection e199)
                       (first | simp only [add_plain] at hx199_0 | simp only [add_at] at hx199_0 | simp only [Addr.add, Nat.zero_add] at hx199_0 | skip)
                       (try simp only [Own.add_mk0] at hx199_0)
                       have qi199 : (((rd_T25 x5_1 x16_5).f1) < 3) = True := eq_true (of_decide_eq_true (by first | (with_reducible assumption) | assumption))
                       replace p199 := eq_true p199
                       replace q199 := eq_true q199
                       have p200 : 0 ≤ (x16_5 : Int) := of_decide_eq_true (by first | (with_reducible assumption) | assumption)
                       have q200 : x16_5 < (x5_1.length : Int) := of_decide_eq_true (by first | (with_reducible assumption) | assumption)
                       obtain ⟨ad200, e200, hx200_0, hx200_1⟩ := at_T25 (Kd.R_reads' HO_5.out).2.2 x16_5 p200 q200
                       obtain rfl : ad196 = ad200 := (by injection e200)
                       replace p200 := eq_true p200
                       replace q200 := eq_true q200
                       refine start_ (n := 19) (S := fun w' => w'.cell? (ad197.add (x16_5).toNat) = some (.int .i64 (rd t168 x16_5)) ∧ w'.cell? ⟨ga180, (((rd_T25 x5_1 x16_5).f1)).toNat, none⟩ = some (.int .i64 (rd x12_3 ((rd_T25 x5_1 x16_5).f1))) ∧ w'.cell? ⟨ga176, (((rd_T25 x5_1 x16_5).f1)).toNat, none⟩ = some (.int .i64 (rd x11_3 ((rd_T25 x5_1 x16_5).f1))) ∧ w'.cell? (ad196.add ((x16_5).toNat * 2)) = some (.int .i64 ((rd_T25 x5_1 x16_5).f0)) ∧ w'.cell? ⟨(ad196.add ((x16_5).toNat * 2)).block, (ad196.add ((x16_5).toNat * 2)).off + 1, none⟩ = some (.int .i64 ((rd_T25 x5_1 x16_5).f1))) (ds := []) #[false, false, false, false, false, false, false, false, false, false, false, false, false, false, false, false, false, false, false] (by kernel_rfl) rfl rfl ⟨hx197_0, hx198_0, hx199_0, hx200_0, hx200_1⟩ (fun hHeld => ?_); refine with_tabW gridmarketlaw43_ExecutiveFair.tab36 gridmarketlaw43_ExecutiveFair.bits36 (fun HT_ HW_ => ?_)
                       generalize wr.drew = w73 at HO_5 HO_8 HO_11 HO_12 HB hx197_0 hx198_0 hx199_0 hx200_0 hx200_1 hHeld ⊢
                       refine pure_ (i := 0) (N := some 162) (v := ?_) (a' := ?_) #[true, false, false, false, false, false, false, false, false, false, false, false, false, false, false, false, false, false, false] rfl rfl (any_of HT_.out (by kernel_rfl)) (fun _ _ _ h => h) (Or.inl ⟨by rfl, ?_⟩) ?_ ?_
                       rotate_left
                       ·
                        intro w'
                        go_simp
                        with_reducible rfl
                       rotate_left
                       ·
                        simp only [Act.put, List.setIfInBounds_toArray, List.set_cons_zero, List.set_cons_succ, i64_w, i32_w]
                        rfl
                       refine pure_ (i := 1) (N := some 163) (v := ?_) (a' := ?_) #[true, true, false, false, false, false, false, false, false, false, false, false, false, false, false, false, false, false, false] rfl rfl (any_of HT_.out (by kernel_rfl)) (fun _ _ _ h => h) (Or.inl ⟨by rfl, ?_⟩) ?_ ?_
                       rotate_left
                       ·
                        intro w'
                        go_simp
                        with_reducible rfl
                       rotate_left
                       ·
                        simp only [Act.put, List.setIfInBounds_toArray, List.set_cons_zero, List.set_cons_succ, i64_w, i32_w]
                        rfl
                       refine pure_ (i := 2) (N := some 164) (v := ?_) (a' := ?_) #[true, true, true, false, false, false, false, false, false, false, false, false, false, false, false, false, false, false, false] rfl rfl (any_of HT_.out (by kernel_rfl)) (fun _ _ _ h => h) (Or.inl ⟨by rfl, ?_⟩) ?_ ?_
                       rotate_left
                       ·
                        intro w'
                        go_simp
                        with_reducible rfl
                       rotate_left
                       ·
                        simp only [Act.put, List.setIfInBounds_toArray, List.set_cons_zero, List.set_cons_succ, i64_w, i32_w]
                        rfl
                       refine pure_ (i := 4) (N := some 166) (v := ?_) (a' := ?_) #[true, true, true, false, true, false, false, false, false, false, false, false, false, false, false, false, false, false, false] rfl rfl (any_of HT_.out (by kernel_rfl)) (fun _ _ _ h => h) (Or.inl ⟨by rfl, ?_⟩) ?_ ?_
                       rotate_left
                       ·
                        intro w'
                        go_simp
                        with_reducible rfl
                       rotate_left
                       ·
                        simp only [Act.put, List.setIfInBounds_toArray, List.set_cons_zero, List.set_cons_succ, i64_w, i32_w]
                        rfl
                       refine pure_ (i := 5) (N := some 167) (v := ?_) (a' := ?_) #[true, true, true, false, true, true, false, false, false, false, false, false, false, false, false, false, false, false, false] rfl rfl (any_of HT_.out (by kernel_rfl)) (fun _ _ _ h => h) (Or.inl ⟨by rfl, ?_⟩) ?_ ?_
                       rotate_left
                       ·
                        intro w'
                        go_simp
                        with_reducible rfl
                       rotate_left
                       ·
                        simp only [Act.put, List.setIfInBounds_toArray, List.set_cons_zero, List.set_cons_succ, i64_w, i32_w]
                        rfl
                       refine pure_ (i := 8) (N := some 170) (v := ?_) (a' := ?_) #[true, true, true, false, true, true, false, false, true, false, false, false, false, false, false, false, false, false, false] rfl rfl (any_of HT_.out (by kernel_rfl)) (fun _ _ _ h => h) (Or.inl ⟨by rfl, ?_⟩) ?_ ?_
                       rotate_left
                       ·
                        intro w'
                        go_simp
                        with_reducible rfl
                       rotate_left
                       ·
                        simp only [Act.put, List.setIfInBounds_toArray, List.set_cons_zero, List.set_cons_succ, i64_w, i32_w]
                        rfl
                       refine pure_ (i := 9) (N := some 171) (v := ?_) (a' := ?_) #[true, true, true, false, true, true, false, false, true, true, false, false, false, false, false, false, false, false, false] rfl rfl (any_of HT_.out (by kernel_rfl)) (fun _ _ _ h => h) (Or.inl ⟨by rfl, ?_⟩) ?_ ?_
                       rotate_left
                       ·
                        intro w'
                        go_simp
                        with_reducible rfl
                       rotate_left
                       ·
                        simp only [Act.put, List.setIfInBounds_toArray, List.set_cons_zero, List.set_cons_succ, i64_w, i32_w]
                        rfl
                       refine pure_ (i := 11) (N := some 173) (v := ?_) (a' := ?_) #[true, true, true, false, true, true, false, false, true, true, false, true, false, false, false, false, false, false, false] rfl rfl (any_of HT_.out (by kernel_rfl)) (fun _ _ _ h => h) (Or.inl ⟨by rfl, ?_⟩) ?_ ?_
                       rotate_left
                       ·
                        intro w'
                        go_simp
                        with_reducible rfl
                       rotate_left
                       ·
                        simp only [Act.put, List.setIfInBounds_toArray, List.set_cons_zero, List.set_cons_succ, i64_w, i32_w]
                        rfl
                       refine pure_ (i := 12) (N := some 174) (v := ?_) (a' := ?_) #[true, true, true, false, true, true, false, false, true, true, false, true, true, false, false, false, false, false, false] rfl rfl (any_of HT_.out (by kernel_rfl)) (fun _ _ _ h => h) (Or.inl ⟨by rfl, ?_⟩) ?_ ?_
                       rotate_left
                       ·
                        intro w'
                        go_simp
                        with_reducible rfl
                       rotate_left
                       ·
                        simp only [Act.put, List.setIfInBounds_toArray, List.set_cons_zero, List.set_cons_succ, i64_w, i32_w]
                        rfl
                       refine pure_ (i := 13) (N := some 175) (v := ?_) (a' := ?_) #[true, true, true, false, true, true, false, false, true, true, false, true, true, true, false, false, false, false, false] rfl rfl (any_of HT_.out (by kernel_rfl)) (fun _ _ _ h => h) (Or.inl ⟨by rfl, ?_⟩) ?_ ?_
                       rotate_left
                       ·
                        intro w'
                        go_simp
                        with_reducible rfl
                       rotate_left
                       ·
                        simp only [Act.put, List.setIfInBounds_toArray, List.set_cons_zero, List.set_cons_succ, i64_w, i32_w]
                        rfl
                       refine pure_ (i := 14) (N := some 176) (v := ?_) (a' := ?_) #[true, true, true, false, true, true, false, false, true, true, false, true, true, true, true, false, false, false, false] rfl rfl (any_of HT_.out (by kernel_rfl)) (fun _ _ _ h => h) (Or.inl ⟨by rfl, ?_⟩) ?_ ?_
                       rotate_left
                       ·
                        intro w'
                        go_simp
                        with_reducible rfl
                       rotate_left
                       ·
                        simp only [Act.put, List.setIfInBounds_toArray, List.set_cons_zero, List.set_cons_succ, i64_w, i32_w]
                        rfl
                       refine take_ (i := 3) (N := some 165) (v := ?_) (a' := ?_) #[true, true, true, true, true, true, false, false, true, true, false, true, true, true, true, false, false, false, false] rfl rfl (take_ofW HT_.out HW_.out (by kernel_rfl)) (fun _ _ _ h => h) (Or.inl ⟨by rfl, ?_⟩) hHeld ?_ ?_
                       rotate_left
                       ·
                        rintro w' ⟨s0, s1, s2, s3, s4⟩
                        go_simp
                        with_reducible rfl
                       rotate_left
                       ·
                        simp only [Act.put, List.setIfInBounds_toArray, List.set_cons_zero, List.set_cons_succ, i64_w, i32_w]
                        rfl
                       refine take_ (i := 6) (N := some 168) (v := ?_) (a' := ?_) #[true, true, true, true, true, true, true, false, true, true, false, true, true, true, true, false, false, false, false] rfl rfl (take_ofW HT_.out HW_.out (by kernel_rfl)) (fun _ _ _ h => h) (Or.inl ⟨by rfl, ?_⟩) hHeld ?_ ?_
                       rotate_left
                       ·
                        rintro w' ⟨s0, s1, s2, s3, s4⟩
                        go_simp
                        with_reducible rfl
                       rotate_left
                       ·
                        simp only [Act.put, List.setIfInBounds_toArray, List.set_cons_zero, List.set_cons_succ, i64_w, i32_w]
                        rfl
                       refine pure_ (i := 7) (N := some 169) (v := ?_) (a' := ?_) #[true, true, true, true, true, true, true, true, true, true, false, true, true, true, true, false, false, false, false] rfl rfl (any_of HT_.out (by kernel_rfl)) (fun _ _ _ h => h) (Or.inl ⟨by rfl, ?_⟩) ?_ ?_
                       rotate_left
                       ·
                        intro w'
                        go_simp
                        with_reducible rfl
                       rotate_left
                       ·
                        simp only [Act.put, List.setIfInBounds_toArray, List.set_cons_zero, List.set_cons_succ, i64_w, i32_w]
                        rfl
                       refine take_ (i := 10) (N := some 172) (v := ?_) (a' := ?_) #[true, true, true, true, true, true, true, true, true, true, true, true, true, true, true, false, false, false, false] rfl rfl (take_ofW HT_.out HW_.out (by kernel_rfl)) (fun _ _ _ h => h) (Or.inl ⟨by rfl, ?_⟩) hHeld ?_ ?_
                       rotate_left
                       ·
                        rintro w' ⟨s0, s1, s2, s3, s4⟩
                        go_simp
                        with_reducible rfl
                       rotate_left
                       ·
                        simp only [Act.put, List.setIfInBounds_toArray, List.set_cons_zero, List.set_cons_succ, i64_w, i32_w]
                        rfl
                       refine take_ (i := 15) (N := some 177) (v := ?_) (a' := ?_) #[true, true, true, true, true, true, true, true, true, true, true, true, true, true, true, true, false, false, false] rfl rfl (take_ofW HT_.out HW_.out (by kernel_rfl)) (fun _ _ _ h => h) (Or.inl ⟨by rfl, ?_⟩) hHeld ?_ ?_
                       rotate_left
                       ·
                        rintro w' ⟨s0, s1, s2, s3, s4⟩
                        go_simp
                        with_reducible rfl
                       rotate_left
                       ·
                        simp only [Act.put, List.setIfInBounds_toArray, List.set_cons_zero, List.set_cons_succ, i64_w, i32_w]
                        rfl
                       refine pure_ (i := 16) (N := some 178) (v := ?_) (a' := ?_) #[true, true, true, true, true, true, true, true, true, true, true, true, true, true, true, true, true, false, false] rfl rfl (any_of HT_.out (by kernel_rfl)) (fun _ _ _ h => h) (Or.inl ⟨by rfl, ?_⟩) ?_ ?_
                       rotate_left
                       ·
                        intro w'
                        go_simp
                        with_reducible rfl
                       rotate_left
                       ·
                        simp only [Act.put, List.setIfInBounds_toArray, List.set_cons_zero, List.set_cons_succ, i64_w, i32_w]
                        rfl
                       refine pure_ (i := 17) (N := some 179) (v := ?_) (a' := ?_) #[true, true, true, true, true, true, true, true, true, true, true, true, true, true, true, true, true, true, false] rfl rfl (any_of HT_.out (by kernel_rfl)) (fun _ _ _ h => h) (Or.inl ⟨by rfl, ?_⟩) ?_ ?_
                       rotate_left
                       ·
                        intro w'
                        go_simp
                        with_reducible rfl
                       rotate_left
                       ·
                        simp only [Act.put, List.setIfInBounds_toArray, List.set_cons_zero, List.set_cons_succ, i64_w, i32_w]
                        rfl
                       refine pure_ (i := 18) (N := some 18) (v := ?_) (a' := ?_) #[true, true, true, true, true, true, true, true, true, true, true, true, true, true, true, true, true, true, true] rfl rfl (any_of HT_.out (by kernel_rfl)) (fun _ _ _ h => h) (Or.inl ⟨by rfl, ?_⟩) ?_ ?_
                       rotate_left
                       ·
                        intro w'
                        go_simp
                        with_reducible rfl
                       rotate_left
                       ·
                        simp only [Act.put, List.setIfInBounds_toArray, List.set_cons_zero, List.set_cons_succ, i64_w, i32_w]
                        rfl
                       refine done_ (done_of HT_.out (by kernel_rfl)) ?_
                       have p201 : 0 ≤ (((rd_T25 x5_1 x16_5).f1) : Int) := of_decide_eq_true (by first | (with_reducible assumption) | assumption)
                       have q201 : ((rd_T25 x5_1 x16_5).f1) < (x12_3.length : Int) := (by have h_ : (((rd_T25 x5_1 x16_5).f1) : Int) < (3 : Int) := of_decide_eq_true (by first | (with_reducible assumption) | assumption); have e_ := (Kd.R_reads' HO_12.out).1; omega)
                       obtain ⟨ad201, e201, hx201_0⟩ := Kd.at_int (Kd.R_reads' HO_12.out).2.2 ((rd_T25 x5_1 x16_5).f1) p201 q201
                       obtain rfl : (⟨ga180, 0, none⟩ : Addr) = ad201 := (by injection e201)
                       (first | simp only [add_plain] at hx201_0 | simp only [add_at] at hx201_0 | simp only [Addr.add, Nat.zero_add] at hx201_0 | skip)
                       (try simp only [Own.add_mk0] at hx201_0)
                       have qi201 : (((rd_T25 x5_1 x16_5).f1) < 3) = True := eq_true (of_decide_eq_true (by first | (with_reducible assumption) | assumption))
                       replace p201 := eq_true p201
                       replace q201 := eq_true q201
                       try go_wp2
                       go_roundg k5
                       case measure => have := HK1.out; have := HJ14.out; have := HK3.out; have := HK4.out; have := HK5.out; omega
                       case rel => exact ⟨(wrap64 (x16_5 + 1)), (by first | rfl | (simp; done) | (simp [*]; done)), H', ⟨by have := HK1.out; have := HJ14.out; have := HK3.out; have := HK4.out; have := HK5.out; omega⟩, ⟨by (with_reducible repeat (first | apply Kd.R_alloc | apply Kd.R_drewN | apply Kd.R_drew)); exact HO_5.out⟩, ⟨by (with_reducible repeat (first | apply Kd.R_alloc | apply Kd.R_drewN | apply Kd.R_drew)); exact HO_8.out⟩, ⟨by (with_reducible repeat (first | apply Kd.R_alloc | apply Kd.R_drewN | apply Kd.R_drew)); exact HO_11.out⟩, ⟨by (with_reducible repeat (first | apply Kd.R_alloc | apply Kd.R_drewN | apply Kd.R_drew)); exact HO_12.out⟩, ⟨by repeat (first | (with_reducible first | exact HB.out | apply below_alloc | apply pw_below_drewN | apply below_drew1) | exact HB.out)⟩⟩
                     ·
                      rw [if_neg c66] at H
                      exact absurd H (by simp)
                    ·
                     rw [if_neg c65] at H
                     exact absurd H (by simp)
                   ·
                    rw [if_neg c64] at H
                    exact absurd H (by simp)
                  ·
                   rw [if_neg c63] at H
                   exact absurd H (by simp)
                 ·
                  rw [if_neg c62] at H
                  have c62b0 : decide (x16_5 < (t168.length : Int)) = false := decide_eq_false c62
                  clear c62
                  obtain rfl := Option.some.inj H
                  go_wp2
                  go_ret
                  exact ⟨by first | rfl | (simp [errW_none, errW_some] <;> rfl) | (simp [*, errW_none, errW_some] <;> rfl), by repeat (first | (with_reducible first | exact HB.out | apply below_alloc | apply pw_below_drewN | apply below_drew1) | exact HB.out)⟩

/-- THE ONE PURE STATEMENT of gridmarketlaw43_ExecutiveFair: yours. -/
def gridmarketlaw43_ExecutiveFair.Pure : Prop := ∀ (l0 : List Int) (a1 : Int), l0.length ≤ maxLen → l0.length * 8 ≤ 140737488351232 → (∀ x ∈ l0, (Lit.int .i64 x).wf = true) → (Lit.int .i64 a1).wf = true → ∃ k, gridmarketlaw43_ExecutiveFair.f k l0 a1 = some true
theorem gridmarketlaw43_ExecutiveFair.walk (P : gridmarketlaw43_ExecutiveFair.Pure) (a0 : Option Addr) (len0 cap0 : Nat) (z0 : List Int) (a1 : Int) (w : World) (w0 : (a0 = none ∧ len0 = 0 ∧ cap0 = 0 ∧ z0 = []) ∨ ∃ x, a0 = some x ∧ len0 ≤ cap0 ∧ cap0 ≤ maxLen ∧ z0.length = cap0 ∧ (∀ i, i < z0.length → w.cell? (x.add i) = some (.int .i64 (z0.getD i 0))) ∧ ∀ n ∈ z0, (Lit.int .i64 n).wf = true) (y0 : len0 * 8 ≤ 140737488351232) (w1 : (Lit.int .i64 a1).wf = true) :
    Calls Try.prog 4 #[.slice a0 len0 cap0, .int .i64 a1] w fun e w' => e = .returned (.bool true) ∧ Below w.heap.size w w' := by
  obtain ⟨l0, rfl, hr0, hm0, hw0, hc0⟩ := ReadsInt.ofRowC w0
  obtain ⟨k, h⟩ := P l0 a1 hm0 y0 hw0 w1
  refine (gridmarketlaw43_ExecutiveFair.calls k _ _ l0 a1 true w (Kd.C_of_reads (d := (0 : Int)) (h1 := fun _ => rfl) hr0) hc0 h).mono ?_
  rintro e w' ⟨rfl, hd⟩
  exact ⟨rfl, hd⟩

end Go.Proofs.Ytngbibpmaofamaa.QTest
