/- written by a program of this session (wip/tools/printx.py, over the kit's printing program) out of the translation -/
import Derived.Test.YtbgjmeiphmfniaaQx0
import Derived.Test.YtbgjmeiphmfniaaQx1
import Derived.Test.YtbgjmeiphmfniaaQx2
import Derived.Test.YtbgjmeiphmfniaaQx3
import Derived.Test.YtbgjmeiphmfniaaQx4
import Derived.Test.YtbgjmeiphmfniaaQx5
namespace Go.Proofs.Ytbgjmeiphmfniaa.Q
open Go.RowKit Go.Proofs.YtbgjmeiphmfniaaW.PrintWords Go.Proofs.YtbgjmeiphmfniaaW.PrintLast Go.Proofs.YtbgjmeiphmfniaaW.PrintMore
attribute [local go_sem] max2_int min2_int max_two min_two max_three min_three max_four min_four   -- for this text's walks alone
set_option linter.unusedVariables false
set_option linter.unusedSimpArgs false

/-! ### ashlarlaw08_PropOnce: function 5 -/
mutual
def ashlarlaw08_PropOnce.j0 : Nat → List (List Int) → List Int → List Int → Bool → List Int → Bool → Option (Bool)
  | 0, _, _, _, _, _, _ => none
  | k + 1, x0, x1, x2, x7, x8, x52 => if x52 = true then (some false) else (ashlarlaw08_PropOnce.l0 k x0 x1 x2 x7 x8 0)
def ashlarlaw08_PropOnce.l0 : Nat → List (List Int) → List Int → List Int → Bool → List Int → Int → Option (Bool)
  | 0, _, _, _, _, _, _ => none
  | k + 1, x0, x1, x2, x7, x8, x12 => if x12 < (x0.length : Int) then (ashlarlaw08_PropOnce.l1 k x0 x1 x2 x7 x8 x12 0 0 0) else ((some (([] : List (List Int)) : List (List Int))).bind fun y348 => (if y348.length + x0.length < 5864062014805 then ((some (y348 ++ x0 : List (List Int))).bind fun y351 => ((some (([] : List Int) : List Int)).bind fun y354 => (if 0 ≤ (mn (x2.length : Int) 20) then (if (mn (x2.length : Int) 20) ≤ (x2.length : Int) then (if y354.length + (x2.take ((mn (x2.length : Int) 20) : Int).toNat).length < 17592186044416 then (if y351.length < 5864062014805 then ((prop_Unit.f k (y351 ++ [(y354 ++ (x2.take ((mn (x2.length : Int) 20) : Int).toNat))]) x1).bind fun bt364 => (if bt364.2 = true then (ashlarlaw08_PropOnce.j3 k x7 x8 bt364.1 bt364.2 false) else (ashlarlaw08_PropOnce.j3 k x7 x8 bt364.1 bt364.2 ((bt364.1.length : Int) != (x8.length : Int))))) else (none)) else (none)) else (none)) else (none)))) else (none)))
def ashlarlaw08_PropOnce.l1 : Nat → List (List Int) → List Int → List Int → Bool → List Int → Int → Int → Int → Int → Option (Bool)
  | 0, _, _, _, _, _, _, _, _, _ => none
  | k + 1, x0, x1, x2, x7, x8, x12, x13, x14, x15 => if 0 ≤ x12 then (if x12 < (x0.length : Int) then (if x15 < ((rd_L2 x0 x12).length : Int) then (if 0 ≤ x15 then ((ashlarref08_Open.f k x8 (rd (rd_L2 x0 x12) x15)).bind fun t339 => (if t339 = true then (if x13 = 0 then (ashlarlaw08_PropOnce.l1 k x0 x1 x2 x7 x8 x12 (wrap64 (x13 + 1)) (rd (rd_L2 x0 x12) x15) (wrap64 (x15 + 1))) else (if (rd (rd_L2 x0 x12) x15) = x14 then (ashlarlaw08_PropOnce.l1 k x0 x1 x2 x7 x8 x12 x13 x14 (wrap64 (x15 + 1))) else (ashlarlaw08_PropOnce.l1 k x0 x1 x2 x7 x8 x12 (wrap64 (x13 + 1)) (rd (rd_L2 x0 x12) x15) (wrap64 (x15 + 1))))) else (ashlarlaw08_PropOnce.l1 k x0 x1 x2 x7 x8 x12 x13 x14 (wrap64 (x15 + 1))))) else (none)) else (if x13 = 1 then ((ashlarref08_Holds.f k (rd_L2 x0 x12) x8).bind fun t347 => (if t347 = true then (ashlarlaw08_PropOnce.l0 k x0 x1 x2 x7 x8 (wrap64 (x12 + 1))) else (some false))) else (ashlarlaw08_PropOnce.l0 k x0 x1 x2 x7 x8 (wrap64 (x12 + 1))))) else (none)) else (none)
def ashlarlaw08_PropOnce.j3 : Nat → Bool → List Int → List Int → Bool → Bool → Option (Bool)
  | 0, _, _, _, _, _ => none
  | k + 1, x7, x8, x16, x17, x137 => if x137 = true then (some false) else (ashlarlaw08_PropOnce.l2 k x7 x8 x16 x17 0)
def ashlarlaw08_PropOnce.l2 : Nat → Bool → List Int → List Int → Bool → Int → Option (Bool)
  | 0, _, _, _, _, _ => none
  | k + 1, x7, x8, x16, x17, x18 => if x18 < (x8.length : Int) then (ashlarlaw08_PropOnce.j5 k x7 x8 x16 x17 x18 (!x17)) else (ashlarlaw08_PropOnce.j5 k x7 x8 x16 x17 x18 false)
def ashlarlaw08_PropOnce.j5 : Nat → Bool → List Int → List Int → Bool → Int → Bool → Option (Bool)
  | 0, _, _, _, _, _, _ => none
  | k + 1, x7, x8, x16, x17, x18, x145 => if x145 = true then (if 0 ≤ x18 then (if x18 < (x8.length : Int) then (if (rd x8 x18) = 0 then (ashlarlaw08_PropOnce.l2 k x7 x8 x16 x17 (wrap64 (x18 + 1))) else (if x18 < (x16.length : Int) then (if (rd x16 x18) = (rd x8 x18) then (ashlarlaw08_PropOnce.l2 k x7 x8 x16 x17 (wrap64 (x18 + 1))) else (some false)) else (none))) else (none)) else (none)) else (some x7)
end
def ashlarlaw08_PropOnce.f (k : Nat) (l0 : List (List Int)) (l1 : List Int) (l2 : List Int) : Option (Bool) := (ashlarlaw08_shown.f k).bind fun t319 => ((ashlarlaw08_few.f k l0 l1).bind fun bt320 => ((prop_Unit.f k bt320.1 bt320.2).bind fun bt326 => (if bt326.2 = true then (some t319) else ((prop_Unit.f k bt320.1 bt326.1).bind fun bt330 => (if bt330.2 = true then (ashlarlaw08_PropOnce.j0 k bt320.1 bt320.2 l2 t319 bt326.1 true) else ((ashlarlaw08_same.f k bt326.1 bt330.1).bind fun t334 => (if t334 = true then ((prop_Eval.f k bt320.1 bt326.1).bind fun t335 => (ashlarlaw08_PropOnce.j0 k bt320.1 bt320.2 l2 t319 bt326.1 (decide (t335 < 0)))) else (ashlarlaw08_PropOnce.j0 k bt320.1 bt320.2 l2 t319 bt326.1 true))))))))
theorem ashlarlaw08_PropOnce.mono_l : ∀ k, (∀ y0 y1 y2 y3 y4 y5, LeO (ashlarlaw08_PropOnce.j0 k y0 y1 y2 y3 y4 y5) (ashlarlaw08_PropOnce.j0 (k + 1) y0 y1 y2 y3 y4 y5)) ∧ (∀ y0 y1 y2 y3 y4 y5, LeO (ashlarlaw08_PropOnce.l0 k y0 y1 y2 y3 y4 y5) (ashlarlaw08_PropOnce.l0 (k + 1) y0 y1 y2 y3 y4 y5)) ∧ (∀ y0 y1 y2 y3 y4 y5 y6 y7 y8, LeO (ashlarlaw08_PropOnce.l1 k y0 y1 y2 y3 y4 y5 y6 y7 y8) (ashlarlaw08_PropOnce.l1 (k + 1) y0 y1 y2 y3 y4 y5 y6 y7 y8)) ∧ (∀ y0 y1 y2 y3 y4, LeO (ashlarlaw08_PropOnce.j3 k y0 y1 y2 y3 y4) (ashlarlaw08_PropOnce.j3 (k + 1) y0 y1 y2 y3 y4)) ∧ (∀ y0 y1 y2 y3 y4, LeO (ashlarlaw08_PropOnce.l2 k y0 y1 y2 y3 y4) (ashlarlaw08_PropOnce.l2 (k + 1) y0 y1 y2 y3 y4)) ∧ (∀ y0 y1 y2 y3 y4 y5, LeO (ashlarlaw08_PropOnce.j5 k y0 y1 y2 y3 y4 y5) (ashlarlaw08_PropOnce.j5 (k + 1) y0 y1 y2 y3 y4 y5))
  | 0 => ⟨fun _ _ _ _ _ _ r h => by simp [ashlarlaw08_PropOnce.j0] at h, fun _ _ _ _ _ _ r h => by simp [ashlarlaw08_PropOnce.l0] at h, fun _ _ _ _ _ _ _ _ _ r h => by simp [ashlarlaw08_PropOnce.l1] at h, fun _ _ _ _ _ r h => by simp [ashlarlaw08_PropOnce.j3] at h, fun _ _ _ _ _ r h => by simp [ashlarlaw08_PropOnce.l2] at h, fun _ _ _ _ _ _ r h => by simp [ashlarlaw08_PropOnce.j5] at h⟩
  | k + 1 => by
    obtain ⟨ih0, ih1, ih2, ih3, ih4, ih5⟩ := ashlarlaw08_PropOnce.mono_l k
    refine ⟨?_, ?_, ?_, ?_, ?_, ?_⟩
    · intro y0 y1 y2 y3 y4 y5
      unfold ashlarlaw08_PropOnce.j0
      repeat' first
      | (with_reducible exact ih0 _ _ _ _ _ _)
      | (with_reducible exact ih1 _ _ _ _ _ _)
      | (with_reducible exact ih2 _ _ _ _ _ _ _ _ _)
      | (with_reducible exact ih3 _ _ _ _ _)
      | (with_reducible exact ih4 _ _ _ _ _)
      | (with_reducible exact ih5 _ _ _ _ _ _)
      | (with_reducible exact ashlarlaw08_few.mono _ _ _)
      | (with_reducible exact ashlarlaw08_same.mono _ _ _)
      | (with_reducible exact ashlarlaw08_shown.mono _)
      | (with_reducible exact ashlarref08_Holds.mono _ _ _)
      | (with_reducible exact ashlarref08_Open.mono _ _ _)
      | (with_reducible exact prop_Eval.mono _ _ _)
      | (with_reducible exact prop_Unit.mono _ _ _)
      | (with_reducible exact LeO.refl _)
      | (with_reducible exact LeO.none _)
      | (with_reducible refine LeO.ite ?_ ?_)
      | (with_reducible refine LeO.bind ?_ (fun _ => ?_))
      | exact ih0 _ _ _ _ _ _
      | exact ih1 _ _ _ _ _ _
      | exact ih2 _ _ _ _ _ _ _ _ _
      | exact ih3 _ _ _ _ _
      | exact ih4 _ _ _ _ _
      | exact ih5 _ _ _ _ _ _
      | exact ashlarlaw08_few.mono _ _ _
      | exact ashlarlaw08_same.mono _ _ _
      | exact ashlarlaw08_shown.mono _
      | exact ashlarref08_Holds.mono _ _ _
      | exact ashlarref08_Open.mono _ _ _
      | exact prop_Eval.mono _ _ _
      | exact prop_Unit.mono _ _ _
      | exact LeO.none _
      | refine LeO.ite ?_ ?_
      | refine LeO.bind ?_ (fun _ => ?_)
    · intro y0 y1 y2 y3 y4 y5
      unfold ashlarlaw08_PropOnce.l0
      repeat' first
      | (with_reducible exact ih0 _ _ _ _ _ _)
      | (with_reducible exact ih1 _ _ _ _ _ _)
      | (with_reducible exact ih2 _ _ _ _ _ _ _ _ _)
      | (with_reducible exact ih3 _ _ _ _ _)
      | (with_reducible exact ih4 _ _ _ _ _)
      | (with_reducible exact ih5 _ _ _ _ _ _)
      | (with_reducible exact ashlarlaw08_few.mono _ _ _)
      | (with_reducible exact ashlarlaw08_same.mono _ _ _)
      | (with_reducible exact ashlarlaw08_shown.mono _)
      | (with_reducible exact ashlarref08_Holds.mono _ _ _)
      | (with_reducible exact ashlarref08_Open.mono _ _ _)
      | (with_reducible exact prop_Eval.mono _ _ _)
      | (with_reducible exact prop_Unit.mono _ _ _)
      | (with_reducible exact LeO.refl _)
      | (with_reducible exact LeO.none _)
      | (with_reducible refine LeO.ite ?_ ?_)
      | (with_reducible refine LeO.bind ?_ (fun _ => ?_))
      | exact ih0 _ _ _ _ _ _
      | exact ih1 _ _ _ _ _ _
      | exact ih2 _ _ _ _ _ _ _ _ _
      | exact ih3 _ _ _ _ _
      | exact ih4 _ _ _ _ _
      | exact ih5 _ _ _ _ _ _
      | exact ashlarlaw08_few.mono _ _ _
      | exact ashlarlaw08_same.mono _ _ _
      | exact ashlarlaw08_shown.mono _
      | exact ashlarref08_Holds.mono _ _ _
      | exact ashlarref08_Open.mono _ _ _
      | exact prop_Eval.mono _ _ _
      | exact prop_Unit.mono _ _ _
      | exact LeO.none _
      | refine LeO.ite ?_ ?_
      | refine LeO.bind ?_ (fun _ => ?_)
    · intro y0 y1 y2 y3 y4 y5 y6 y7 y8
      unfold ashlarlaw08_PropOnce.l1
      repeat' first
      | (with_reducible exact ih0 _ _ _ _ _ _)
      | (with_reducible exact ih1 _ _ _ _ _ _)
      | (with_reducible exact ih2 _ _ _ _ _ _ _ _ _)
      | (with_reducible exact ih3 _ _ _ _ _)
      | (with_reducible exact ih4 _ _ _ _ _)
      | (with_reducible exact ih5 _ _ _ _ _ _)
      | (with_reducible exact ashlarlaw08_few.mono _ _ _)
      | (with_reducible exact ashlarlaw08_same.mono _ _ _)
      | (with_reducible exact ashlarlaw08_shown.mono _)
      | (with_reducible exact ashlarref08_Holds.mono _ _ _)
      | (with_reducible exact ashlarref08_Open.mono _ _ _)
      | (with_reducible exact prop_Eval.mono _ _ _)
      | (with_reducible exact prop_Unit.mono _ _ _)
      | (with_reducible exact LeO.refl _)
      | (with_reducible exact LeO.none _)
      | (with_reducible refine LeO.ite ?_ ?_)
      | (with_reducible refine LeO.bind ?_ (fun _ => ?_))
      | exact ih0 _ _ _ _ _ _
      | exact ih1 _ _ _ _ _ _
      | exact ih2 _ _ _ _ _ _ _ _ _
      | exact ih3 _ _ _ _ _
      | exact ih4 _ _ _ _ _
      | exact ih5 _ _ _ _ _ _
      | exact ashlarlaw08_few.mono _ _ _
      | exact ashlarlaw08_same.mono _ _ _
      | exact ashlarlaw08_shown.mono _
      | exact ashlarref08_Holds.mono _ _ _
      | exact ashlarref08_Open.mono _ _ _
      | exact prop_Eval.mono _ _ _
      | exact prop_Unit.mono _ _ _
      | exact LeO.none _
      | refine LeO.ite ?_ ?_
      | refine LeO.bind ?_ (fun _ => ?_)
    · intro y0 y1 y2 y3 y4
      unfold ashlarlaw08_PropOnce.j3
      repeat' first
      | (with_reducible exact ih0 _ _ _ _ _ _)
      | (with_reducible exact ih1 _ _ _ _ _ _)
      | (with_reducible exact ih2 _ _ _ _ _ _ _ _ _)
      | (with_reducible exact ih3 _ _ _ _ _)
      | (with_reducible exact ih4 _ _ _ _ _)
      | (with_reducible exact ih5 _ _ _ _ _ _)
      | (with_reducible exact ashlarlaw08_few.mono _ _ _)
      | (with_reducible exact ashlarlaw08_same.mono _ _ _)
      | (with_reducible exact ashlarlaw08_shown.mono _)
      | (with_reducible exact ashlarref08_Holds.mono _ _ _)
      | (with_reducible exact ashlarref08_Open.mono _ _ _)
      | (with_reducible exact prop_Eval.mono _ _ _)
      | (with_reducible exact prop_Unit.mono _ _ _)
      | (with_reducible exact LeO.refl _)
      | (with_reducible exact LeO.none _)
      | (with_reducible refine LeO.ite ?_ ?_)
      | (with_reducible refine LeO.bind ?_ (fun _ => ?_))
      | exact ih0 _ _ _ _ _ _
      | exact ih1 _ _ _ _ _ _
      | exact ih2 _ _ _ _ _ _ _ _ _
      | exact ih3 _ _ _ _ _
      | exact ih4 _ _ _ _ _
      | exact ih5 _ _ _ _ _ _
      | exact ashlarlaw08_few.mono _ _ _
      | exact ashlarlaw08_same.mono _ _ _
      | exact ashlarlaw08_shown.mono _
      | exact ashlarref08_Holds.mono _ _ _
      | exact ashlarref08_Open.mono _ _ _
      | exact prop_Eval.mono _ _ _
      | exact prop_Unit.mono _ _ _
      | exact LeO.none _
      | refine LeO.ite ?_ ?_
      | refine LeO.bind ?_ (fun _ => ?_)
    · intro y0 y1 y2 y3 y4
      unfold ashlarlaw08_PropOnce.l2
      repeat' first
      | (with_reducible exact ih0 _ _ _ _ _ _)
      | (with_reducible exact ih1 _ _ _ _ _ _)
      | (with_reducible exact ih2 _ _ _ _ _ _ _ _ _)
      | (with_reducible exact ih3 _ _ _ _ _)
      | (with_reducible exact ih4 _ _ _ _ _)
      | (with_reducible exact ih5 _ _ _ _ _ _)
      | (with_reducible exact ashlarlaw08_few.mono _ _ _)
      | (with_reducible exact ashlarlaw08_same.mono _ _ _)
      | (with_reducible exact ashlarlaw08_shown.mono _)
      | (with_reducible exact ashlarref08_Holds.mono _ _ _)
      | (with_reducible exact ashlarref08_Open.mono _ _ _)
      | (with_reducible exact prop_Eval.mono _ _ _)
      | (with_reducible exact prop_Unit.mono _ _ _)
      | (with_reducible exact LeO.refl _)
      | (with_reducible exact LeO.none _)
      | (with_reducible refine LeO.ite ?_ ?_)
      | (with_reducible refine LeO.bind ?_ (fun _ => ?_))
      | exact ih0 _ _ _ _ _ _
      | exact ih1 _ _ _ _ _ _
      | exact ih2 _ _ _ _ _ _ _ _ _
      | exact ih3 _ _ _ _ _
      | exact ih4 _ _ _ _ _
      | exact ih5 _ _ _ _ _ _
      | exact ashlarlaw08_few.mono _ _ _
      | exact ashlarlaw08_same.mono _ _ _
      | exact ashlarlaw08_shown.mono _
      | exact ashlarref08_Holds.mono _ _ _
      | exact ashlarref08_Open.mono _ _ _
      | exact prop_Eval.mono _ _ _
      | exact prop_Unit.mono _ _ _
      | exact LeO.none _
      | refine LeO.ite ?_ ?_
      | refine LeO.bind ?_ (fun _ => ?_)
    · intro y0 y1 y2 y3 y4 y5
      unfold ashlarlaw08_PropOnce.j5
      repeat' first
      | (with_reducible exact ih0 _ _ _ _ _ _)
      | (with_reducible exact ih1 _ _ _ _ _ _)
      | (with_reducible exact ih2 _ _ _ _ _ _ _ _ _)
      | (with_reducible exact ih3 _ _ _ _ _)
      | (with_reducible exact ih4 _ _ _ _ _)
      | (with_reducible exact ih5 _ _ _ _ _ _)
      | (with_reducible exact ashlarlaw08_few.mono _ _ _)
      | (with_reducible exact ashlarlaw08_same.mono _ _ _)
      | (with_reducible exact ashlarlaw08_shown.mono _)
      | (with_reducible exact ashlarref08_Holds.mono _ _ _)
      | (with_reducible exact ashlarref08_Open.mono _ _ _)
      | (with_reducible exact prop_Eval.mono _ _ _)
      | (with_reducible exact prop_Unit.mono _ _ _)
      | (with_reducible exact LeO.refl _)
      | (with_reducible exact LeO.none _)
      | (with_reducible refine LeO.ite ?_ ?_)
      | (with_reducible refine LeO.bind ?_ (fun _ => ?_))
      | exact ih0 _ _ _ _ _ _
      | exact ih1 _ _ _ _ _ _
      | exact ih2 _ _ _ _ _ _ _ _ _
      | exact ih3 _ _ _ _ _
      | exact ih4 _ _ _ _ _
      | exact ih5 _ _ _ _ _ _
      | exact ashlarlaw08_few.mono _ _ _
      | exact ashlarlaw08_same.mono _ _ _
      | exact ashlarlaw08_shown.mono _
      | exact ashlarref08_Holds.mono _ _ _
      | exact ashlarref08_Open.mono _ _ _
      | exact prop_Eval.mono _ _ _
      | exact prop_Unit.mono _ _ _
      | exact LeO.none _
      | refine LeO.ite ?_ ?_
      | refine LeO.bind ?_ (fun _ => ?_)
theorem ashlarlaw08_PropOnce.mono : ∀ a0 a1 a2 k, LeO (ashlarlaw08_PropOnce.f k a0 a1 a2) (ashlarlaw08_PropOnce.f (k + 1) a0 a1 a2) := by
  intro a0 a1 a2 k
  obtain ⟨ih0, ih1, ih2, ih3, ih4, ih5⟩ := ashlarlaw08_PropOnce.mono_l k
  unfold ashlarlaw08_PropOnce.f
  repeat' first
      | (with_reducible exact ih0 _ _ _ _ _ _)
      | (with_reducible exact ih1 _ _ _ _ _ _)
      | (with_reducible exact ih2 _ _ _ _ _ _ _ _ _)
      | (with_reducible exact ih3 _ _ _ _ _)
      | (with_reducible exact ih4 _ _ _ _ _)
      | (with_reducible exact ih5 _ _ _ _ _ _)
      | (with_reducible exact ashlarlaw08_few.mono _ _ _)
      | (with_reducible exact ashlarlaw08_same.mono _ _ _)
      | (with_reducible exact ashlarlaw08_shown.mono _)
      | (with_reducible exact ashlarref08_Holds.mono _ _ _)
      | (with_reducible exact ashlarref08_Open.mono _ _ _)
      | (with_reducible exact prop_Eval.mono _ _ _)
      | (with_reducible exact prop_Unit.mono _ _ _)
      | (with_reducible exact LeO.refl _)
      | (with_reducible exact LeO.none _)
      | (with_reducible refine LeO.ite ?_ ?_)
      | (with_reducible refine LeO.bind ?_ (fun _ => ?_))
      | exact ih0 _ _ _ _ _ _
      | exact ih1 _ _ _ _ _ _
      | exact ih2 _ _ _ _ _ _ _ _ _
      | exact ih3 _ _ _ _ _
      | exact ih4 _ _ _ _ _
      | exact ih5 _ _ _ _ _ _
      | exact ashlarlaw08_few.mono _ _ _
      | exact ashlarlaw08_same.mono _ _ _
      | exact ashlarlaw08_shown.mono _
      | exact ashlarref08_Holds.mono _ _ _
      | exact ashlarref08_Open.mono _ _ _
      | exact prop_Eval.mono _ _ _
      | exact prop_Unit.mono _ _ _
      | exact LeO.none _
      | refine LeO.ite ?_ ?_
      | refine LeO.bind ?_ (fun _ => ?_)
def ashlarlaw08_PropOnce.T22 : Bool × List (List Nat × List Nat) := (true, [([], []), ([], []), ([0, 1], [0, 1]), ([], []), ([], []), ([], []), ([5], [5]), ([6], [6]), ([4, 7], [4, 7]), ([3, 8, 2], [3, 8]), ([9], [9]), ([2, 10, 9], [2, 10]), ([], []), ([11, 12, 11], [11, 12]), ([13], [13]), ([14], [14]), ([14], [14]), ([15, 13, 0, 1, 2, 3, 4, 5, 6, 7, 8, 9, 10, 11, 12, 13, 14, 15], [15]), ([16, 17, 0, 1, 2, 3, 4, 5, 6, 7, 8, 9, 10, 11, 12, 13, 14, 15, 16, 17], [16])])
def ashlarlaw08_PropOnce.B22 : List Nat := [0, 0, 3, 0, 0, 0, 32, 96, 240, 511, 1023, 2047, 0, 8191, 16383, 32767, 32767, 65535, 262143]
theorem ashlarlaw08_PropOnce.tab22 : rtab .any (opsOf Try.f5 22) = ashlarlaw08_PropOnce.T22 := by kernel_rfl
theorem ashlarlaw08_PropOnce.bits22 : waitsOk ashlarlaw08_PropOnce.T22.2 ashlarlaw08_PropOnce.B22 = true := by kernel_rfl
def ashlarlaw08_PropOnce.T28 : Bool × List (List Nat × List Nat) := (true, [([], []), ([], []), ([0, 1], [0, 1]), ([2], [2]), ([3], [3]), ([4], [4]), ([5], [5]), ([5], [5]), ([6, 7, 5], [5, 6, 7]), ([8, 5], [5, 8]), ([5], [5]), ([5], [5]), ([10, 11, 5], [5, 10, 11]), ([12, 5], [5, 12]), ([9, 13, 5], [5, 9, 13]), ([5, 14], [5, 14])])
def ashlarlaw08_PropOnce.B28 : List Nat := [0, 0, 3, 7, 15, 31, 63, 63, 255, 511, 63, 63, 3135, 7231, 16383, 32767]
theorem ashlarlaw08_PropOnce.tab28 : rtab .any (opsOf Try.f5 28) = ashlarlaw08_PropOnce.T28 := by kernel_rfl
theorem ashlarlaw08_PropOnce.bits28 : waitsOk ashlarlaw08_PropOnce.T28.2 ashlarlaw08_PropOnce.B28 = true := by kernel_rfl
set_option maxHeartbeats 8000000 in
set_option maxRecDepth 100000 in
theorem ashlarlaw08_PropOnce.calls (k : Nat) (A0 : Option Addr) (c0 : Nat) (l0 : List (List Int)) (A1 : Option Addr) (c1 : Nat) (l1 : List Int) (A2 : Option Addr) (c2 : Nat) (l2 : List Int) (r : Bool) (w : World) (hr0 : Kd.C (Kd.slice 3 (Kd.int .i64)) w A0 l0.length l0) (hc0 : l0.length ≤ c0) (hr1 : Kd.C (Kd.int .i8) w A1 l1.length l1) (hc1 : l1.length ≤ c1) (hr2 : Kd.C (Kd.int .i64) w A2 l2.length l2) (hc2 : l2.length ≤ c2) (h : ashlarlaw08_PropOnce.f k l0 l1 l2 = some r) :
    Calls Try.prog 5 #[.slice A0 l0.length c0, .slice A1 l1.length c1, .slice A2 l2.length c2] w fun e w' => e = .returned (.bool r) ∧ Below w.heap.size w w' := by
  have HR0 := Aside0.mk hr0
  have HC0 := Aside0.mk hc0
  clear hr0 hc0
  have HR1 := Aside0.mk hr1
  have HC1 := Aside0.mk hc1
  clear hr1 hc1
  have HR2 := Aside0.mk hr2
  have HC2 := Aside0.mk hc2
  clear hr2 hc2
  have HB := Aside0.mk (Below.refl w.heap.size w)
  have H : ((ashlarlaw08_shown.f k).bind fun t319 => ((ashlarlaw08_few.f k l0 l1).bind fun bt320 => ((prop_Unit.f k bt320.1 bt320.2).bind fun bt326 => (if bt326.2 = true then (some t319) else ((prop_Unit.f k bt320.1 bt326.1).bind fun bt330 => (if bt330.2 = true then (ashlarlaw08_PropOnce.j0 k bt320.1 bt320.2 l2 t319 bt326.1 true) else ((ashlarlaw08_same.f k bt326.1 bt330.1).bind fun t334 => (if t334 = true then ((prop_Eval.f k bt320.1 bt326.1).bind fun t335 => (ashlarlaw08_PropOnce.j0 k bt320.1 bt320.2 l2 t319 bt326.1 (decide (t335 < 0)))) else (ashlarlaw08_PropOnce.j0 k bt320.1 bt320.2 l2 t319 bt326.1 true))))))))) = some r := h
  clear h
  replace H := Option.bind_eq_some_iff.mp H
  obtain ⟨t319, A40, H⟩ := H
  replace H : ((ashlarlaw08_few.f k l0 l1).bind fun bt320 => ((prop_Unit.f k bt320.1 bt320.2).bind fun bt326 => (if bt326.2 = true then (some t319) else ((prop_Unit.f k bt320.1 bt326.1).bind fun bt330 => (if bt330.2 = true then (ashlarlaw08_PropOnce.j0 k bt320.1 bt320.2 l2 t319 bt326.1 true) else ((ashlarlaw08_same.f k bt326.1 bt330.1).bind fun t334 => (if t334 = true then ((prop_Eval.f k bt320.1 bt326.1).bind fun t335 => (ashlarlaw08_PropOnce.j0 k bt320.1 bt320.2 l2 t319 bt326.1 (decide (t335 < 0)))) else (ashlarlaw08_PropOnce.j0 k bt320.1 bt320.2 l2 t319 bt326.1 true)))))))) = some r := H
  have A4 := Aside0.mk A40
  clear A40
  replace H := Option.bind_eq_some_iff.mp H
  obtain ⟨⟨t320, t321⟩, A50, H⟩ := H
  replace H : ((prop_Unit.f k t320 t321).bind fun bt326 => (if bt326.2 = true then (some t319) else ((prop_Unit.f k t320 bt326.1).bind fun bt330 => (if bt330.2 = true then (ashlarlaw08_PropOnce.j0 k t320 t321 l2 t319 bt326.1 true) else ((ashlarlaw08_same.f k bt326.1 bt330.1).bind fun t334 => (if t334 = true then ((prop_Eval.f k t320 bt326.1).bind fun t335 => (ashlarlaw08_PropOnce.j0 k t320 t321 l2 t319 bt326.1 (decide (t335 < 0)))) else (ashlarlaw08_PropOnce.j0 k t320 t321 l2 t319 bt326.1 true))))))) = some r := H
  have A5 := Aside0.mk A50
  clear A50
  replace H := Option.bind_eq_some_iff.mp H
  obtain ⟨⟨t326, t327⟩, A60, H⟩ := H
  replace H : (if t327 = true then (some t319) else ((prop_Unit.f k t320 t326).bind fun bt330 => (if bt330.2 = true then (ashlarlaw08_PropOnce.j0 k t320 t321 l2 t319 t326 true) else ((ashlarlaw08_same.f k t326 bt330.1).bind fun t334 => (if t334 = true then ((prop_Eval.f k t320 t326).bind fun t335 => (ashlarlaw08_PropOnce.j0 k t320 t321 l2 t319 t326 (decide (t335 < 0)))) else (ashlarlaw08_PropOnce.j0 k t320 t321 l2 t319 t326 true)))))) = some r := H
  have A6 := Aside0.mk A60
  clear A60
  by_cases c7 : t327 = true
  · subst c7
    have H1 : (some t319) = some r := by rw [if_pos rfl] at H; exact H
    clear H
    have H := H1
    clear H1
    obtain rfl := Option.some.inj H
    go_enter Try.func5, Try.ntmps5
    go_wp2_with (first | ((with_reducible refine gate_callee (f := 12) rfl ?_); refine goesL_ (some 19) rfl rfl Try.func12 (by kernel_rfl) rfl #[] rfl (by (try simp only [List.map_toArray, List.map_cons, List.map_nil]); first | done | rfl | (simp only [List.length_drop, List.length_take]; rfl)) ?_; (with_reducible refine (ashlarlaw08_shown.calls k  t319 _ A4.out).mono ?_); rintro e w8 ⟨rfl, hb⟩; refine ⟨_, rfl, ?_⟩; have n0_ := Aside0.mk (below_step (by repeat (first | (with_reducible first | exact HB.out | apply below_alloc | apply pw_below_drewN | apply below_drew1) | exact HB.out)) hb); clear HB; have HB := n0_; clear n0_; (try clear hb); (try clear hb2); (try clear hk); (try clear hi)) | ((with_reducible refine gate_callee (f := 13) rfl ?_); refine goesL_ (some 23) rfl rfl Try.func13 (by kernel_rfl) rfl #[.slice A0 l0.length c0, .slice A1 l1.length c1] rfl (by (try simp only [List.map_toArray, List.map_cons, List.map_nil]); first | done | rfl | (simp only [List.length_drop, List.length_take]; rfl)) ?_; (with_reducible refine (ashlarlaw08_few.calls k _ _ l0 _ _ l1 t320 t321 _ ?side1 ?side2 ?side3 ?side4 A5.out).mono ?_); (case side1 => repeat (first | exact (Kd.C_below HR0.out HB.out) | (with_reducible refine Kd.C_alloc ?_ _) | (with_reducible refine Kd.C_drewN ?_ _) | (with_reducible refine Kd.C_drew ?_))); (case side2 => exact HC0.out); (case side3 => repeat (first | exact (Kd.C_below HR1.out HB.out) | (with_reducible refine Kd.C_alloc ?_ _) | (with_reducible refine Kd.C_drewN ?_ _) | (with_reducible refine Kd.C_drew ?_))); (case side4 => exact HC1.out); rintro e w9 ⟨v322, v324, rfl, ho0, ho1, hb⟩; refine ⟨_, rfl, ?_⟩; have n0_ := Aside0.mk (Kd.N_lower (Kd.N_mono (ok' := fun k_ => some k_ ≠ (v324 : Value).ownBlock) (Kd.S_N (Kd.S_bound (Kd.S_apart' ho0 (Kd.R_typed ho1) (by decide)))) (fun k_ hk_ => hk_.1.2)) (below_size (by repeat (first | (with_reducible first | exact HB.out | apply below_alloc | apply pw_below_drewN | apply below_drew1) | exact HB.out)))); have n1_ := Aside0.mk (Kd.R_lower ho1 (below_size (by repeat (first | (with_reducible first | exact HB.out | apply below_alloc | apply pw_below_drewN | apply below_drew1) | exact HB.out)))); have n2_ := Aside0.mk (below_step (by repeat (first | (with_reducible first | exact HB.out | apply below_alloc | apply pw_below_drewN | apply below_drew1) | exact HB.out)) hb); clear HB; have HO323 := n0_; have HO325 := n1_; have HB := n2_; clear n0_ n1_ n2_; (try clear hb); (try clear hb2); (try clear hk); (try clear hi); (try clear ho0); (try clear ho1); obtain ⟨Ao10, co10, eo10⟩ := Kd.N_slice HO323.out; subst eo10; obtain ⟨Ao11, co11, eo11⟩ := Kd.R_slice HO325.out; subst eo11) | ((with_reducible refine gate_callee (f := 14) rfl ?_); refine goesL_ (some 29) rfl rfl Try.func14 (by kernel_rfl) rfl #[.slice Ao10 t320.length co10, .slice Ao11 t321.length co11] rfl (by (try simp only [List.map_toArray, List.map_cons, List.map_nil]); first | done | rfl | (simp only [List.length_drop, List.length_take]; rfl)) ?_; (with_reducible refine (prop_Unit.calls k _ _ t320 _ _ t321 t326 true _ ?side1 ?side2 ?side3 ?side4 A6.out).mono ?_); (case side1 => repeat (first | exact (Kd.N_reads' HO323.out).2.2 | (with_reducible refine Kd.C_alloc ?_ _) | (with_reducible refine Kd.C_drewN ?_ _) | (with_reducible refine Kd.C_drew ?_))); (case side2 => exact (Kd.N_reads' HO323.out).2.1); (case side3 => repeat (first | exact (Kd.R_reads' HO325.out).2.2 | (with_reducible refine Kd.C_alloc ?_ _) | (with_reducible refine Kd.C_drewN ?_ _) | (with_reducible refine Kd.C_drew ?_))); (case side4 => exact (Kd.R_reads' HO325.out).2.1); rintro e w12 ⟨v328, rfl, ho0, hb⟩; refine ⟨_, rfl, ?_⟩; have n0_ := Aside0.mk (Kd.N_elder' (by (with_reducible repeat (first | apply Kd.N_alloc | apply Kd.N_drewN | apply Kd.N_drew)); exact HO323.out) (Kd.R_base ho0) hb); have n1_ := Aside0.mk (Kd.R_elder' (by (with_reducible repeat (first | apply Kd.R_alloc | apply Kd.R_drewN | apply Kd.R_drew)); exact HO325.out) (Kd.R_base ho0) hb); have n2_ := Aside0.mk (Kd.R_lower (Kd.R_new' ho0 (Kd.R_lt (by (with_reducible repeat (first | apply Kd.R_alloc | apply Kd.R_drewN | apply Kd.R_drew)); exact HO325.out))) (below_size (by repeat (first | (with_reducible first | exact HB.out | apply below_alloc | apply pw_below_drewN | apply below_drew1) | exact HB.out)))); have n3_ := Aside0.mk (below_step (by repeat (first | (with_reducible first | exact HB.out | apply below_alloc | apply pw_below_drewN | apply below_drew1) | exact HB.out)) hb); clear HO323; clear HO325; clear HB; have HO323 := n0_; have HO325 := n1_; have HO329 := n2_; have HB := n3_; clear n0_ n1_ n2_ n3_; (try clear hb); (try clear hb2); (try clear hk); (try clear hi); (try clear ho0)))
    go_ret
    exact ⟨by first | rfl | (simp [errW_none, errW_some] <;> rfl) | (simp [*, errW_none, errW_some] <;> rfl), by repeat (first | (with_reducible first | exact HB.out | apply below_alloc | apply pw_below_drewN | apply below_drew1) | exact HB.out)⟩
  · replace c7 := Bool.eq_false_iff.mpr c7
    subst c7
    have H1 : ((prop_Unit.f k t320 t326).bind fun bt330 => (if bt330.2 = true then (ashlarlaw08_PropOnce.j0 k t320 t321 l2 t319 t326 true) else ((ashlarlaw08_same.f k t326 bt330.1).bind fun t334 => (if t334 = true then ((prop_Eval.f k t320 t326).bind fun t335 => (ashlarlaw08_PropOnce.j0 k t320 t321 l2 t319 t326 (decide (t335 < 0)))) else (ashlarlaw08_PropOnce.j0 k t320 t321 l2 t319 t326 true))))) = some r := by rw [if_neg (show ¬ (false = true) by decide)] at H; exact H
    clear H
    have H := H1
    clear H1
    replace H := Option.bind_eq_some_iff.mp H
    obtain ⟨⟨t330, t331⟩, A130, H⟩ := H
    replace H : (if t331 = true then (ashlarlaw08_PropOnce.j0 k t320 t321 l2 t319 t326 true) else ((ashlarlaw08_same.f k t326 t330).bind fun t334 => (if t334 = true then ((prop_Eval.f k t320 t326).bind fun t335 => (ashlarlaw08_PropOnce.j0 k t320 t321 l2 t319 t326 (decide (t335 < 0)))) else (ashlarlaw08_PropOnce.j0 k t320 t321 l2 t319 t326 true)))) = some r := H
    have A13 := Aside0.mk A130
    clear A130
    have HC14 := Aside0.mk H
    clear H
    go_enter Try.func5, Try.ntmps5
    go_upto_region 7 with (first | ((with_reducible refine gate_callee (f := 12) rfl ?_); refine goesL_ (some 19) rfl rfl Try.func12 (by kernel_rfl) rfl #[] rfl (by (try simp only [List.map_toArray, List.map_cons, List.map_nil]); first | done | rfl | (simp only [List.length_drop, List.length_take]; rfl)) ?_; (with_reducible refine (ashlarlaw08_shown.calls k  t319 _ A4.out).mono ?_); rintro e w15 ⟨rfl, hb⟩; refine ⟨_, rfl, ?_⟩; have n0_ := Aside0.mk (below_step (by repeat (first | (with_reducible first | exact HB.out | apply below_alloc | apply pw_below_drewN | apply below_drew1) | exact HB.out)) hb); clear HB; have HB := n0_; clear n0_; (try clear hb); (try clear hb2); (try clear hk); (try clear hi)) | ((with_reducible refine gate_callee (f := 13) rfl ?_); refine goesL_ (some 23) rfl rfl Try.func13 (by kernel_rfl) rfl #[.slice A0 l0.length c0, .slice A1 l1.length c1] rfl (by (try simp only [List.map_toArray, List.map_cons, List.map_nil]); first | done | rfl | (simp only [List.length_drop, List.length_take]; rfl)) ?_; (with_reducible refine (ashlarlaw08_few.calls k _ _ l0 _ _ l1 t320 t321 _ ?side1 ?side2 ?side3 ?side4 A5.out).mono ?_); (case side1 => repeat (first | exact (Kd.C_below HR0.out HB.out) | (with_reducible refine Kd.C_alloc ?_ _) | (with_reducible refine Kd.C_drewN ?_ _) | (with_reducible refine Kd.C_drew ?_))); (case side2 => exact HC0.out); (case side3 => repeat (first | exact (Kd.C_below HR1.out HB.out) | (with_reducible refine Kd.C_alloc ?_ _) | (with_reducible refine Kd.C_drewN ?_ _) | (with_reducible refine Kd.C_drew ?_))); (case side4 => exact HC1.out); rintro e w16 ⟨v322, v324, rfl, ho0, ho1, hb⟩; refine ⟨_, rfl, ?_⟩; have n0_ := Aside0.mk (Kd.N_lower (Kd.N_mono (ok' := fun k_ => some k_ ≠ (v324 : Value).ownBlock) (Kd.S_N (Kd.S_bound (Kd.S_apart' ho0 (Kd.R_typed ho1) (by decide)))) (fun k_ hk_ => hk_.1.2)) (below_size (by repeat (first | (with_reducible first | exact HB.out | apply below_alloc | apply pw_below_drewN | apply below_drew1) | exact HB.out)))); have n1_ := Aside0.mk (Kd.R_lower ho1 (below_size (by repeat (first | (with_reducible first | exact HB.out | apply below_alloc | apply pw_below_drewN | apply below_drew1) | exact HB.out)))); have n2_ := Aside0.mk (below_step (by repeat (first | (with_reducible first | exact HB.out | apply below_alloc | apply pw_below_drewN | apply below_drew1) | exact HB.out)) hb); clear HB; have HO323 := n0_; have HO325 := n1_; have HB := n2_; clear n0_ n1_ n2_; (try clear hb); (try clear hb2); (try clear hk); (try clear hi); (try clear ho0); (try clear ho1); obtain ⟨Ao17, co17, eo17⟩ := Kd.N_slice HO323.out; subst eo17; obtain ⟨Ao18, co18, eo18⟩ := Kd.R_slice HO325.out; subst eo18) | ((with_reducible refine gate_callee (f := 14) rfl ?_); refine goesL_ (some 29) rfl rfl Try.func14 (by kernel_rfl) rfl #[.slice Ao17 t320.length co17, .slice Ao18 t321.length co18] rfl (by (try simp only [List.map_toArray, List.map_cons, List.map_nil]); first | done | rfl | (simp only [List.length_drop, List.length_take]; rfl)) ?_; (with_reducible refine (prop_Unit.calls k _ _ t320 _ _ t321 t326 false _ ?side1 ?side2 ?side3 ?side4 A6.out).mono ?_); (case side1 => repeat (first | exact (Kd.N_reads' HO323.out).2.2 | (with_reducible refine Kd.C_alloc ?_ _) | (with_reducible refine Kd.C_drewN ?_ _) | (with_reducible refine Kd.C_drew ?_))); (case side2 => exact (Kd.N_reads' HO323.out).2.1); (case side3 => repeat (first | exact (Kd.R_reads' HO325.out).2.2 | (with_reducible refine Kd.C_alloc ?_ _) | (with_reducible refine Kd.C_drewN ?_ _) | (with_reducible refine Kd.C_drew ?_))); (case side4 => exact (Kd.R_reads' HO325.out).2.1); rintro e w19 ⟨v328, rfl, ho0, hb⟩; refine ⟨_, rfl, ?_⟩; have n0_ := Aside0.mk (Kd.N_elder' (by (with_reducible repeat (first | apply Kd.N_alloc | apply Kd.N_drewN | apply Kd.N_drew)); exact HO323.out) (Kd.R_base ho0) hb); have n1_ := Aside0.mk (Kd.R_elder' (by (with_reducible repeat (first | apply Kd.R_alloc | apply Kd.R_drewN | apply Kd.R_drew)); exact HO325.out) (Kd.R_base ho0) hb); have n2_ := Aside0.mk (Kd.R_lower (Kd.R_new' ho0 (Kd.R_lt (by (with_reducible repeat (first | apply Kd.R_alloc | apply Kd.R_drewN | apply Kd.R_drew)); exact HO325.out))) (below_size (by repeat (first | (with_reducible first | exact HB.out | apply below_alloc | apply pw_below_drewN | apply below_drew1) | exact HB.out)))); have n3_ := Aside0.mk (below_step (by repeat (first | (with_reducible first | exact HB.out | apply below_alloc | apply pw_below_drewN | apply below_drew1) | exact HB.out)) hb); clear HO323; clear HO325; clear HB; have HO323 := n0_; have HO325 := n1_; have HO329 := n2_; have HB := n3_; clear n0_ n1_ n2_ n3_; (try clear hb); (try clear hb2); (try clear hk); (try clear hi); (try clear ho0); obtain ⟨Ao20, co20, eo20⟩ := Kd.R_slice HO329.out; subst eo20) | ((with_reducible refine gate_callee (f := 14) rfl ?_); refine goesL_ (some 37) rfl rfl Try.func14 (by kernel_rfl) rfl #[.slice Ao17 t320.length co17, .slice Ao20 t326.length co20] rfl (by (try simp only [List.map_toArray, List.map_cons, List.map_nil]); first | done | rfl | (simp only [List.length_drop, List.length_take]; rfl)) ?_; (with_reducible refine (prop_Unit.calls k _ _ t320 _ _ t326 t330 t331 _ ?side1 ?side2 ?side3 ?side4 A13.out).mono ?_); (case side1 => repeat (first | exact (Kd.N_reads' HO323.out).2.2 | (with_reducible refine Kd.C_alloc ?_ _) | (with_reducible refine Kd.C_drewN ?_ _) | (with_reducible refine Kd.C_drew ?_))); (case side2 => exact (Kd.N_reads' HO323.out).2.1); (case side3 => repeat (first | exact (Kd.R_reads' HO329.out).2.2 | (with_reducible refine Kd.C_alloc ?_ _) | (with_reducible refine Kd.C_drewN ?_ _) | (with_reducible refine Kd.C_drew ?_))); (case side4 => exact (Kd.R_reads' HO329.out).2.1); rintro e w21 ⟨v332, rfl, ho0, hb⟩; refine ⟨_, rfl, ?_⟩; have n0_ := Aside0.mk (Kd.N_elder' (by (with_reducible repeat (first | apply Kd.N_alloc | apply Kd.N_drewN | apply Kd.N_drew)); exact HO323.out) (Kd.R_base ho0) hb); have n1_ := Aside0.mk (Kd.R_elder' (by (with_reducible repeat (first | apply Kd.R_alloc | apply Kd.R_drewN | apply Kd.R_drew)); exact HO325.out) (Kd.R_base ho0) hb); have n2_ := Aside0.mk (Kd.R_elder' (by (with_reducible repeat (first | apply Kd.R_alloc | apply Kd.R_drewN | apply Kd.R_drew)); exact HO329.out) (Kd.R_base ho0) hb); have n3_ := Aside0.mk (Kd.R_lower (Kd.R_new' (Kd.R_new' ho0 (Kd.R_lt (by (with_reducible repeat (first | apply Kd.R_alloc | apply Kd.R_drewN | apply Kd.R_drew)); exact HO325.out))) (Kd.R_lt (by (with_reducible repeat (first | apply Kd.R_alloc | apply Kd.R_drewN | apply Kd.R_drew)); exact HO329.out))) (below_size (by repeat (first | (with_reducible first | exact HB.out | apply below_alloc | apply pw_below_drewN | apply below_drew1) | exact HB.out)))); have n4_ := Aside0.mk (below_step (by repeat (first | (with_reducible first | exact HB.out | apply below_alloc | apply pw_below_drewN | apply below_drew1) | exact HB.out)) hb); clear HO323; clear HO325; clear HO329; clear HB; have HO323 := n0_; have HO325 := n1_; have HO329 := n2_; have HO333 := n3_; have HB := n4_; clear n0_ n1_ n2_ n3_ n4_; (try clear hb); (try clear hb2); (try clear hk); (try clear hi); (try clear ho0)))
    (try simp only [Act.put, List.setIfInBounds_toArray, List.set_cons_zero, List.set_cons_succ])
    go_cut [52] (fun v52 wc => ∃ (kq : Nat) (x52_13 : Bool), v52 = .bool x52_13 ∧ Aside0 (ashlarlaw08_PropOnce.j0 kq t320 t321 l2 t319 t326 x52_13 = some r) ∧ Aside0 (kq ≤ k) ∧ Aside0 (Kd.N (Kd.slice 3 (Kd.int .i64)) 35 wc w.heap.size (fun k_ => some k_ ≠ ((.slice Ao18 t321.length co18) : Value).ownBlock ∧ some k_ ≠ ((.slice Ao20 t326.length co20) : Value).ownBlock) (.slice Ao17 t320.length co17) t320) ∧ Aside0 (Kd.R (Kd.int .i8) 30 wc w.heap.size (fun k_ => some k_ ≠ ((.slice Ao20 t326.length co20) : Value).ownBlock) (.slice Ao18 t321.length co18) t321) ∧ Aside0 (Kd.R (Kd.int .i8) 30 wc w.heap.size (fun k_ => some k_ ≠ ((.slice Ao18 t321.length co18) : Value).ownBlock) (.slice Ao20 t326.length co20) t326) ∧ Aside0 (Below w.heap.size w wc))
    case first =>
      have H := HC14.out
      clear HC14
      by_cases c22 : t331 = true
      · subst c22
        have H1 : (ashlarlaw08_PropOnce.j0 k t320 t321 l2 t319 t326 true) = some r := by rw [if_pos rfl] at H; exact H
        clear H
        have H := H1
        clear H1
        have H' := Aside0.mk H
        clear H
        go_wp2
        go_meet
        case rel => exact ⟨_, (true), (by first | rfl | (simp; done) | (simp [*]; done)), H', ⟨by first | omega | exact Nat.le_refl _⟩, ⟨by (with_reducible repeat (first | apply Kd.N_alloc | apply Kd.N_drewN | apply Kd.N_drew)); exact Kd.N_mono HO323.out (fun _ hk => ⟨hk.1.1, hk.1.2⟩)⟩, ⟨by (with_reducible repeat (first | apply Kd.R_alloc | apply Kd.R_drewN | apply Kd.R_drew)); exact Kd.R_mono HO325.out (fun _ hk => hk.1.2)⟩, ⟨by (with_reducible repeat (first | apply Kd.R_alloc | apply Kd.R_drewN | apply Kd.R_drew)); exact Kd.R_mono HO329.out (fun _ hk => hk.1.2)⟩, ⟨by repeat (first | (with_reducible first | exact HB.out | apply below_alloc | apply pw_below_drewN | apply below_drew1) | exact HB.out)⟩⟩
      · replace c22 := Bool.eq_false_iff.mpr c22
        subst c22
        have H1 : ((ashlarlaw08_same.f k t326 t330).bind fun t334 => (if t334 = true then ((prop_Eval.f k t320 t326).bind fun t335 => (ashlarlaw08_PropOnce.j0 k t320 t321 l2 t319 t326 (decide (t335 < 0)))) else (ashlarlaw08_PropOnce.j0 k t320 t321 l2 t319 t326 true))) = some r := by rw [if_neg (show ¬ (false = true) by decide)] at H; exact H
        clear H
        have H := H1
        clear H1
        replace H := Option.bind_eq_some_iff.mp H
        obtain ⟨t334, A230, H⟩ := H
        replace H : (if t334 = true then ((prop_Eval.f k t320 t326).bind fun t335 => (ashlarlaw08_PropOnce.j0 k t320 t321 l2 t319 t326 (decide (t335 < 0)))) else (ashlarlaw08_PropOnce.j0 k t320 t321 l2 t319 t326 true)) = some r := H
        have A23 := Aside0.mk A230
        clear A230
        by_cases c24 : t334 = true
        · subst c24
          have H1 : ((prop_Eval.f k t320 t326).bind fun t335 => (ashlarlaw08_PropOnce.j0 k t320 t321 l2 t319 t326 (decide (t335 < 0)))) = some r := by rw [if_pos rfl] at H; exact H
          clear H
          have H := H1
          clear H1
          replace H := Option.bind_eq_some_iff.mp H
          obtain ⟨t335, A250, H⟩ := H
          replace H : (ashlarlaw08_PropOnce.j0 k t320 t321 l2 t319 t326 (decide (t335 < 0))) = some r := H
          have A25 := Aside0.mk A250
          clear A250
          have H' := Aside0.mk H
          clear H
          obtain ⟨Ao26, co26, eo26⟩ := Kd.R_slice HO333.out
          subst eo26
          go_wp2_with (first | (go_at_call 16; (with_reducible refine (ashlarlaw08_same.calls k _ _ t326 _ _ t330 true _ ?side1 ?side2 ?side3 ?side4 A23.out).mono ?_); (case side1 => repeat (first | exact (Kd.R_reads' HO329.out).2.2 | (with_reducible refine Kd.C_alloc ?_ _) | (with_reducible refine Kd.C_drewN ?_ _) | (with_reducible refine Kd.C_drew ?_))); (case side2 => exact (Kd.R_reads' HO329.out).2.1); (case side3 => repeat (first | exact (Kd.R_reads' HO333.out).2.2 | (with_reducible refine Kd.C_alloc ?_ _) | (with_reducible refine Kd.C_drewN ?_ _) | (with_reducible refine Kd.C_drew ?_))); (case side4 => exact (Kd.R_reads' HO333.out).2.1); rintro e w' ⟨rfl, ⟨nd, rfl⟩⟩) | (go_at_call 17; (with_reducible refine (prop_Eval.calls k _ _ t320 _ _ t326 t335 _ ?side1 ?side2 ?side3 ?side4 A25.out).mono ?_); (case side1 => repeat (first | exact (Kd.N_reads' HO323.out).2.2 | (with_reducible refine Kd.C_alloc ?_ _) | (with_reducible refine Kd.C_drewN ?_ _) | (with_reducible refine Kd.C_drew ?_))); (case side2 => exact (Kd.N_reads' HO323.out).2.1); (case side3 => repeat (first | exact (Kd.R_reads' HO329.out).2.2 | (with_reducible refine Kd.C_alloc ?_ _) | (with_reducible refine Kd.C_drewN ?_ _) | (with_reducible refine Kd.C_drew ?_))); (case side4 => exact (Kd.R_reads' HO329.out).2.1); rintro e w27 ⟨rfl, hb⟩; have n0_ := Aside0.mk (Kd.N_below (by (with_reducible repeat (first | apply Kd.N_alloc | apply Kd.N_drewN | apply Kd.N_drew)); exact HO323.out) hb); have n1_ := Aside0.mk (Kd.R_below (by (with_reducible repeat (first | apply Kd.R_alloc | apply Kd.R_drewN | apply Kd.R_drew)); exact HO325.out) hb); have n2_ := Aside0.mk (Kd.R_below (by (with_reducible repeat (first | apply Kd.R_alloc | apply Kd.R_drewN | apply Kd.R_drew)); exact HO329.out) hb); have n3_ := Aside0.mk (Kd.R_below (by (with_reducible repeat (first | apply Kd.R_alloc | apply Kd.R_drewN | apply Kd.R_drew)); exact HO333.out) hb); have n4_ := Aside0.mk (below_step (by repeat (first | (with_reducible first | exact HB.out | apply below_alloc | apply pw_below_drewN | apply below_drew1) | exact HB.out)) hb); clear HO323; clear HO325; clear HO329; clear HO333; clear HB; have HO323 := n0_; have HO325 := n1_; have HO329 := n2_; have HO333 := n3_; have HB := n4_; clear n0_ n1_ n2_ n3_ n4_; (try clear hb); (try clear hb2); (try clear hk); (try clear hi)))
          go_meet
          case rel => exact ⟨_, (decide (t335 < 0)), (by first | rfl | (simp; done) | (simp [*]; done)), H', ⟨by first | omega | exact Nat.le_refl _⟩, ⟨by (with_reducible repeat (first | apply Kd.N_alloc | apply Kd.N_drewN | apply Kd.N_drew)); exact Kd.N_mono HO323.out (fun _ hk => ⟨hk.1.1, hk.1.2⟩)⟩, ⟨by (with_reducible repeat (first | apply Kd.R_alloc | apply Kd.R_drewN | apply Kd.R_drew)); exact Kd.R_mono HO325.out (fun _ hk => hk.1.2)⟩, ⟨by (with_reducible repeat (first | apply Kd.R_alloc | apply Kd.R_drewN | apply Kd.R_drew)); exact Kd.R_mono HO329.out (fun _ hk => hk.1.2)⟩, ⟨by repeat (first | (with_reducible first | exact HB.out | apply below_alloc | apply pw_below_drewN | apply below_drew1) | exact HB.out)⟩⟩
        · replace c24 := Bool.eq_false_iff.mpr c24
          subst c24
          have H1 : (ashlarlaw08_PropOnce.j0 k t320 t321 l2 t319 t326 true) = some r := by rw [if_neg (show ¬ (false = true) by decide)] at H; exact H
          clear H
          have H := H1
          clear H1
          have H' := Aside0.mk H
          clear H
          obtain ⟨Ao28, co28, eo28⟩ := Kd.R_slice HO333.out
          subst eo28
          go_wp2_with (first | (go_at_call 16; (with_reducible refine (ashlarlaw08_same.calls k _ _ t326 _ _ t330 false _ ?side1 ?side2 ?side3 ?side4 A23.out).mono ?_); (case side1 => repeat (first | exact (Kd.R_reads' HO329.out).2.2 | (with_reducible refine Kd.C_alloc ?_ _) | (with_reducible refine Kd.C_drewN ?_ _) | (with_reducible refine Kd.C_drew ?_))); (case side2 => exact (Kd.R_reads' HO329.out).2.1); (case side3 => repeat (first | exact (Kd.R_reads' HO333.out).2.2 | (with_reducible refine Kd.C_alloc ?_ _) | (with_reducible refine Kd.C_drewN ?_ _) | (with_reducible refine Kd.C_drew ?_))); (case side4 => exact (Kd.R_reads' HO333.out).2.1); rintro e w' ⟨rfl, ⟨nd, rfl⟩⟩))
          go_meet
          case rel => exact ⟨_, (true), (by first | rfl | (simp; done) | (simp [*]; done)), H', ⟨by first | omega | exact Nat.le_refl _⟩, ⟨by (with_reducible repeat (first | apply Kd.N_alloc | apply Kd.N_drewN | apply Kd.N_drew)); exact Kd.N_mono HO323.out (fun _ hk => ⟨hk.1.1, hk.1.2⟩)⟩, ⟨by (with_reducible repeat (first | apply Kd.R_alloc | apply Kd.R_drewN | apply Kd.R_drew)); exact Kd.R_mono HO325.out (fun _ hk => hk.1.2)⟩, ⟨by (with_reducible repeat (first | apply Kd.R_alloc | apply Kd.R_drewN | apply Kd.R_drew)); exact Kd.R_mono HO329.out (fun _ hk => hk.1.2)⟩, ⟨by repeat (first | (with_reducible first | exact HB.out | apply below_alloc | apply pw_below_drewN | apply below_drew1) | exact HB.out)⟩⟩
    case rest =>
      clear HC14
      try clear c1
      try clear c2
      try clear p2
      try clear c5
      try clear c7
      try clear c12
      try clear c13
      try clear c14
      try clear c22
      try clear c24
      obtain ⟨kq, x52_13, rfl, HA, HJ13, HO_0, HO_1, HO_8, HB⟩ := hcut
      cases kq with
      | zero => exact absurd HA.out (by simp [ashlarlaw08_PropOnce.j0])
      | succ kj13 =>
        have H := HA.out
        clear HA
        simp only [ashlarlaw08_PropOnce.j0] at H
        by_cases c29 : x52_13 = true
        · subst c29
          have H1 : (some false) = some r := by rw [if_pos rfl] at H; exact H
          clear H
          have H := H1
          clear H1
          obtain rfl := Option.some.inj H
          go_wp2
          go_ret
          exact ⟨by first | rfl | (simp [errW_none, errW_some] <;> rfl) | (simp [*, errW_none, errW_some] <;> rfl), by repeat (first | (with_reducible first | exact HB.out | apply below_alloc | apply pw_below_drewN | apply below_drew1) | exact HB.out)⟩
        · replace c29 := Bool.eq_false_iff.mpr c29
          subst c29
          have H1 : (ashlarlaw08_PropOnce.l0 kj13 t320 t321 l2 t319 t326 0) = some r := by rw [if_neg (show ¬ (false = true) by decide)] at H; exact H
          clear H
          have H := H1
          clear H1
          have H' := Aside0.mk H
          clear H
          go_wp2
          go_loopg [12] kj13 (fun kq v12 w' => ∃ (x12_2 : Int), v12 = .int .i64 x12_2 ∧ Aside0 (ashlarlaw08_PropOnce.l0 kq t320 t321 l2 t319 t326 x12_2 = some r) ∧ Aside0 (kq ≤ kj13) ∧ Aside0 (Kd.N (Kd.slice 3 (Kd.int .i64)) 35 w' w.heap.size (fun k_ => some k_ ≠ ((.slice Ao18 t321.length co18) : Value).ownBlock ∧ some k_ ≠ ((.slice Ao20 t326.length co20) : Value).ownBlock) (.slice Ao17 t320.length co17) t320) ∧ Aside0 (Kd.R (Kd.int .i8) 30 w' w.heap.size (fun k_ => some k_ ≠ ((.slice Ao20 t326.length co20) : Value).ownBlock) (.slice Ao18 t321.length co18) t321) ∧ Aside0 (Kd.R (Kd.int .i8) 30 w' w.heap.size (fun k_ => some k_ ≠ ((.slice Ao18 t321.length co18) : Value).ownBlock) (.slice Ao20 t326.length co20) t326) ∧ Aside0 (Below w.heap.size w w'))
          case atStart => exact ⟨(0), (by first | rfl | (simp; done) | (simp [*]; done)), H', ⟨Nat.le_refl _⟩, ⟨by (with_reducible repeat (first | apply Kd.N_alloc | apply Kd.N_drewN | apply Kd.N_drew)); exact HO_0.out⟩, ⟨by (with_reducible repeat (first | apply Kd.R_alloc | apply Kd.R_drewN | apply Kd.R_drew)); exact HO_1.out⟩, ⟨by (with_reducible repeat (first | apply Kd.R_alloc | apply Kd.R_drewN | apply Kd.R_drew)); exact HO_8.out⟩, ⟨by repeat (first | (with_reducible first | exact HB.out | apply below_alloc | apply pw_below_drewN | apply below_drew1) | exact HB.out)⟩⟩
          case round =>
            clear H'
            try clear c1
            try clear c2
            try clear p2
            try clear c5
            try clear c7
            try clear c12
            try clear c13
            try clear c14
            try clear c22
            try clear c24
            try clear c29
            try clear p2
            obtain ⟨x12_2, rfl, HA, HK2, HO_0, HO_1, HO_8, HB⟩ := hrel
            cases gk with
            | zero => exact absurd HA.out (by simp [ashlarlaw08_PropOnce.l0])
            | succ k2 =>
              have H := HA.out
              clear HA
              simp only [ashlarlaw08_PropOnce.l0] at H
              by_cases c30 : x12_2 < (t320.length : Int)
              · rw [if_pos c30] at H
                have c30b0 : decide (x12_2 < (t320.length : Int)) = true := decide_eq_true c30
                clear c30
                have H' := Aside0.mk H
                clear H
                go_wp2
                go_loopg [13, 14, 15] k2 (fun kq v13 v14 v15 w' => ∃ (x13_3 : Int) (x14_3 : Int) (x15_3 : Int), v13 = .int .i64 x13_3 ∧ v14 = .int .i64 x14_3 ∧ v15 = .int .i64 x15_3 ∧ Aside0 (ashlarlaw08_PropOnce.l1 kq t320 t321 l2 t319 t326 x12_2 x13_3 x14_3 x15_3 = some r) ∧ Aside0 (kq ≤ k2) ∧ Aside0 (Kd.N (Kd.slice 3 (Kd.int .i64)) 35 w' w.heap.size (fun k_ => some k_ ≠ ((.slice Ao18 t321.length co18) : Value).ownBlock ∧ some k_ ≠ ((.slice Ao20 t326.length co20) : Value).ownBlock) (.slice Ao17 t320.length co17) t320) ∧ Aside0 (Kd.R (Kd.int .i8) 30 w' w.heap.size (fun k_ => some k_ ≠ ((.slice Ao20 t326.length co20) : Value).ownBlock) (.slice Ao18 t321.length co18) t321) ∧ Aside0 (Kd.R (Kd.int .i8) 30 w' w.heap.size (fun k_ => some k_ ≠ ((.slice Ao18 t321.length co18) : Value).ownBlock) (.slice Ao20 t326.length co20) t326) ∧ Aside0 (Below w.heap.size w w'))
                case atStart => exact ⟨(0), (0), (0), (by first | rfl | (simp; done) | (simp [*]; done)), (by first | rfl | (simp; done) | (simp [*]; done)), (by first | rfl | (simp; done) | (simp [*]; done)), H', ⟨Nat.le_refl _⟩, ⟨by (with_reducible repeat (first | apply Kd.N_alloc | apply Kd.N_drewN | apply Kd.N_drew)); exact HO_0.out⟩, ⟨by (with_reducible repeat (first | apply Kd.R_alloc | apply Kd.R_drewN | apply Kd.R_drew)); exact HO_1.out⟩, ⟨by (with_reducible repeat (first | apply Kd.R_alloc | apply Kd.R_drewN | apply Kd.R_drew)); exact HO_8.out⟩, ⟨by repeat (first | (with_reducible first | exact HB.out | apply below_alloc | apply pw_below_drewN | apply below_drew1) | exact HB.out)⟩⟩
                case round =>
                  clear H'
                  try clear c1
                  try clear c2
                  try clear p2
                  try clear c3
                  try clear c5
                  try clear c7
                  try clear c12
                  try clear c13
                  try clear c14
                  try clear c22
                  try clear c24
                  try clear c29
                  try clear c30
                  try clear c30b0
                  try clear p2
                  obtain ⟨x13_3, x14_3, x15_3, rfl, rfl, rfl, HA, HK3, HO_0, HO_1, HO_8, HB⟩ := hrel
                  cases gk with
                  | zero => exact absurd HA.out (by simp [ashlarlaw08_PropOnce.l1])
                  | succ k3 =>
                    have H := HA.out
                    clear HA
                    simp only [ashlarlaw08_PropOnce.l1] at H
                    by_cases c31 : 0 ≤ x12_2
                    · rw [if_pos c31] at H
                      have c31b0 : decide (0 ≤ x12_2) = true := decide_eq_true c31
                      clear c31
                      by_cases c32 : x12_2 < (t320.length : Int)
                      · rw [if_pos c32] at H
                        have c32b0 : decide (x12_2 < (t320.length : Int)) = true := decide_eq_true c32
                        clear c32
                        by_cases c33 : x15_3 < ((rd_L2 t320 x12_2).length : Int)
                        · rw [if_pos c33] at H
                          have c33b0 : decide (x15_3 < ((rd_L2 t320 x12_2).length : Int)) = true := decide_eq_true c33
                          clear c33
                          by_cases c34 : 0 ≤ x15_3
                          · rw [if_pos c34] at H
                            have c34b0 : decide (0 ≤ x15_3) = true := decide_eq_true c34
                            clear c34
                            replace H := Option.bind_eq_some_iff.mp H
                            obtain ⟨t339, A350, H⟩ := H
                            replace H : (if t339 = true then (if x13_3 = 0 then (ashlarlaw08_PropOnce.l1 k3 t320 t321 l2 t319 t326 x12_2 (wrap64 (x13_3 + 1)) (rd (rd_L2 t320 x12_2) x15_3) (wrap64 (x15_3 + 1))) else (if (rd (rd_L2 t320 x12_2) x15_3) = x14_3 then (ashlarlaw08_PropOnce.l1 k3 t320 t321 l2 t319 t326 x12_2 x13_3 x14_3 (wrap64 (x15_3 + 1))) else (ashlarlaw08_PropOnce.l1 k3 t320 t321 l2 t319 t326 x12_2 (wrap64 (x13_3 + 1)) (rd (rd_L2 t320 x12_2) x15_3) (wrap64 (x15_3 + 1))))) else (ashlarlaw08_PropOnce.l1 k3 t320 t321 l2 t319 t326 x12_2 x13_3 x14_3 (wrap64 (x15_3 + 1)))) = some r := H
                            have A35 := Aside0.mk A350
                            clear A350
                            by_cases c36 : t339 = true
                            · subst c36
                              have H1 : (if x13_3 = 0 then (ashlarlaw08_PropOnce.l1 k3 t320 t321 l2 t319 t326 x12_2 (wrap64 (x13_3 + 1)) (rd (rd_L2 t320 x12_2) x15_3) (wrap64 (x15_3 + 1))) else (if (rd (rd_L2 t320 x12_2) x15_3) = x14_3 then (ashlarlaw08_PropOnce.l1 k3 t320 t321 l2 t319 t326 x12_2 x13_3 x14_3 (wrap64 (x15_3 + 1))) else (ashlarlaw08_PropOnce.l1 k3 t320 t321 l2 t319 t326 x12_2 (wrap64 (x13_3 + 1)) (rd (rd_L2 t320 x12_2) x15_3) (wrap64 (x15_3 + 1))))) = some r := by rw [if_pos rfl] at H; exact H
                              clear H
                              have H := H1
                              clear H1
                              by_cases c37 : x13_3 = 0
                              · rw [if_pos c37] at H
                                have c37b0 : (x13_3 == 0) = true := beq_iff_eq.mpr c37
                                have c37b1 : (x13_3 != 0) = false := bne_eq_false_iff_eq.mpr c37
                                clear c37
                                have H' := Aside0.mk H
                                clear H
                                have p336 : 0 ≤ (x12_2 : Int) := of_decide_eq_true (by first | (with_reducible assumption) | assumption)
                                have q336 : x12_2 < (t320.length : Int) := of_decide_eq_true (by first | (with_reducible assumption) | assumption)
                                obtain ⟨ad336, A336_0, c336_0, e336, hx336_0, hl336_0, hi336_0⟩ := at_L2 (Kd.N_reads' HO_0.out).2.2 x12_2 p336 q336
                                cases e336
                                obtain ⟨ce336, hce336, hMe336, hcc336⟩ := Kd.N_get HO_0.out [] x12_2 p336 (by first | exact q336 | exact of_decide_eq_true (by first | (with_reducible assumption) | assumption) | (have e_ := (Kd.N_reads' HO_0.out).1; omega))
                                obtain ⟨ua336_0, uc336_0, rfl, ul336_0, ge336_0⟩ := Kd.FK_slice_open hMe336
                                have hv336_0 := hcc336 0 _ rfl
                                rw [Nat.add_zero, show ((Kd.slice 3 (Kd.int .i64))).sz = 1 from rfl, Nat.mul_one] at hv336_0
                                replace hv336_0 := Option.some.inj (hv336_0.symm.trans hx336_0)
                                injection hv336_0 with hva_ hvn_ hvc_
                                rw [hva_] at ge336_0
                                rw [hvc_] at ul336_0
                                have HL336_0 := Aside0.mk (show Kd.V (Kd.int .i64) 3 _ w.heap.size _ _ (rd_L2 t320 x12_2) from Kd.V_mk ul336_0 ge336_0)
                                clear hva_ hvn_ hvc_ ge336_0 ul336_0
                                clear hcc336 hce336
                                have HR336_0 := Aside0.mk hi336_0
                                have HC336_0 := Aside0.mk hl336_0
                                clear hi336_0 hl336_0
                                replace p336 := eq_true p336
                                replace q336 := eq_true q336
                                have p337 : 0 ≤ (x12_2 : Int) := of_decide_eq_true (by first | (with_reducible assumption) | assumption)
                                have q337 : x12_2 < (t320.length : Int) := of_decide_eq_true (by first | (with_reducible assumption) | assumption)
                                obtain ⟨ad337, A337_0, c337_0, e337, hx337_0, hl337_0, hi337_0⟩ := at_L2 (Kd.N_reads' HO_0.out).2.2 x12_2 p337 q337
                                obtain rfl : ad336 = ad337 := (by injection e337)
                                obtain ⟨ce337, hce337, hMe337, hcc337⟩ := Kd.N_get HO_0.out [] x12_2 p337 (by first | exact q337 | exact of_decide_eq_true (by first | (with_reducible assumption) | assumption) | (have e_ := (Kd.N_reads' HO_0.out).1; omega))
                                obtain ⟨ua337_0, uc337_0, rfl, ul337_0, ge337_0⟩ := Kd.FK_slice_open hMe337
                                have hv337_0 := hcc337 0 _ rfl
                                rw [Nat.add_zero, show ((Kd.slice 3 (Kd.int .i64))).sz = 1 from rfl, Nat.mul_one] at hv337_0
                                replace hv337_0 := Option.some.inj (hv337_0.symm.trans hx337_0)
                                injection hv337_0 with hva_ hvn_ hvc_
                                rw [hva_] at ge337_0
                                rw [hvc_] at ul337_0
                                have HL337_0 := Aside0.mk (show Kd.V (Kd.int .i64) 3 _ w.heap.size _ _ (rd_L2 t320 x12_2) from Kd.V_mk ul337_0 ge337_0)
                                clear hva_ hvn_ hvc_ ge337_0 ul337_0
                                clear hcc337 hce337
                                have HR337_0 := Aside0.mk hi337_0
                                have HC337_0 := Aside0.mk hl337_0
                                clear hi337_0 hl337_0
                                replace p337 := eq_true p337
                                replace q337 := eq_true q337
                                have ea_ := Option.some.inj (hx336_0.symm.trans hx337_0)
                                injection ea_ with ea_ en_ ec_
                                subst ea_
                                subst ec_
                                clear en_
                                have p338 : 0 ≤ (x15_3 : Int) := of_decide_eq_true (by first | (with_reducible assumption) | assumption)
                                have q338 : x15_3 < ((rd_L2 t320 x12_2).length : Int) := of_decide_eq_true (by first | (with_reducible assumption) | assumption)
                                obtain ⟨ad338, e338, hx338_0⟩ := Kd.at_int (by repeat (first | (with_reducible exact HR337_0.out) | (with_reducible refine Kd.C_alloc ?_ _) | (with_reducible refine Kd.C_drewN ?_ _) | (with_reducible refine Kd.C_drew ?_) | exact HR337_0.out)) x15_3 p338 q338
                                cases e338
                                replace p338 := eq_true p338
                                replace q338 := eq_true q338
                                go_wp2_with (first | ((with_reducible refine gate_callee (f := 19) rfl ?_); refine goesL_ (some 76) rfl rfl Try.func19 (by kernel_rfl) rfl #[.slice Ao20 t326.length co20, .int .i64 (rd (rd_L2 t320 x12_2) x15_3)] rfl (by (try simp only [List.map_toArray, List.map_cons, List.map_nil]); first | done | rfl | (simp only [List.length_drop, List.length_take]; rfl)) ?_; (with_reducible refine (ashlarref08_Open.calls k3 _ _ t326 (rd (rd_L2 t320 x12_2) x15_3) true _ ?side1 ?side2 A35.out).mono ?_); (case side1 => repeat (first | exact (Kd.R_reads' HO_8.out).2.2 | (with_reducible refine Kd.C_alloc ?_ _) | (with_reducible refine Kd.C_drewN ?_ _) | (with_reducible refine Kd.C_drew ?_))); (case side2 => exact (Kd.R_reads' HO_8.out).2.1); rintro e w' ⟨rfl, ⟨nd, rfl⟩⟩; refine ⟨_, rfl, ?_⟩; have p340 : 0 ≤ (x12_2 : Int) := of_decide_eq_true (by first | (with_reducible assumption) | assumption); have q340 : x12_2 < (t320.length : Int) := of_decide_eq_true (by first | (with_reducible assumption) | assumption); obtain ⟨ad340, A340_0, c340_0, e340, hx340_0, hl340_0, hi340_0⟩ := at_L2 (Kd.N_reads' HO_0.out).2.2 x12_2 p340 q340; obtain rfl : ad336 = ad340 := (by injection e340); obtain ⟨ce340, hce340, hMe340, hcc340⟩ := Kd.N_get HO_0.out [] x12_2 p340 (by first | exact q340 | exact of_decide_eq_true (by first | (with_reducible assumption) | assumption) | (have e_ := (Kd.N_reads' HO_0.out).1; omega)); obtain ⟨ua340_0, uc340_0, rfl, ul340_0, ge340_0⟩ := Kd.FK_slice_open hMe340; have hv340_0 := hcc340 0 _ rfl; rw [Nat.add_zero, show ((Kd.slice 3 (Kd.int .i64))).sz = 1 from rfl, Nat.mul_one] at hv340_0; replace hv340_0 := Option.some.inj (hv340_0.symm.trans hx340_0); injection hv340_0 with hva_ hvn_ hvc_; rw [hva_] at ge340_0; rw [hvc_] at ul340_0; have HL340_0 := Aside0.mk (show Kd.V (Kd.int .i64) 3 _ w.heap.size _ _ (rd_L2 t320 x12_2) from Kd.V_mk ul340_0 ge340_0); clear hva_ hvn_ hvc_ ge340_0 ul340_0; clear hcc340 hce340; have HR340_0 := Aside0.mk hi340_0; have HC340_0 := Aside0.mk hl340_0; clear hi340_0 hl340_0; replace p340 := eq_true p340; replace q340 := eq_true q340; have ea_ := Option.some.inj (hx336_0.symm.trans hx340_0); injection ea_ with ea_ en_ ec_; subst ea_; subst ec_; clear en_; have p341 : 0 ≤ (x15_3 : Int) := of_decide_eq_true (by first | (with_reducible assumption) | assumption); have q341 : x15_3 < ((rd_L2 t320 x12_2).length : Int) := of_decide_eq_true (by first | (with_reducible assumption) | assumption); obtain ⟨ad341, e341, hx341_0⟩ := Kd.at_int (by repeat (first | (with_reducible exact HR340_0.out) | (with_reducible refine Kd.C_alloc ?_ _) | (with_reducible refine Kd.C_drewN ?_ _) | (with_reducible refine Kd.C_drew ?_) | exact HR340_0.out)) x15_3 p341 q341; cases e341; replace p341 := eq_true p341; replace q341 := eq_true q341))
                                go_roundg k3
                                case measure => have := HJ13.out; have := HK2.out; have := HK3.out; omega
                                case rel => exact ⟨(wrap64 (x13_3 + 1)), (rd (rd_L2 t320 x12_2) x15_3), (wrap64 (x15_3 + 1)), (by first | rfl | (simp; done) | (simp [*]; done)), (by first | rfl | (simp; done) | (simp [*]; done)), (by first | rfl | (simp; done) | (simp [*]; done)), H', ⟨by have := HJ13.out; have := HK2.out; have := HK3.out; omega⟩, ⟨by (with_reducible repeat (first | apply Kd.N_alloc | apply Kd.N_drewN | apply Kd.N_drew)); exact HO_0.out⟩, ⟨by (with_reducible repeat (first | apply Kd.R_alloc | apply Kd.R_drewN | apply Kd.R_drew)); exact HO_1.out⟩, ⟨by (with_reducible repeat (first | apply Kd.R_alloc | apply Kd.R_drewN | apply Kd.R_drew)); exact HO_8.out⟩, ⟨by repeat (first | (with_reducible first | exact HB.out | apply below_alloc | apply pw_below_drewN | apply below_drew1) | exact HB.out)⟩⟩
                              · rw [if_neg c37] at H
                                have c37b0 : (x13_3 == 0) = false := beq_eq_false_iff_ne.mpr c37
                                have c37b1 : (x13_3 != 0) = true := bne_iff_ne.mpr c37
                                by_cases c38 : (rd (rd_L2 t320 x12_2) x15_3) = x14_3
                                · rw [if_pos c38] at H
                                  have c38b0 : ((rd (rd_L2 t320 x12_2) x15_3) == x14_3) = true := beq_iff_eq.mpr c38
                                  have c38b1 : ((rd (rd_L2 t320 x12_2) x15_3) != x14_3) = false := bne_eq_false_iff_eq.mpr c38
                                  clear c38
                                  have H' := Aside0.mk H
                                  clear H
                                  have p336 : 0 ≤ (x12_2 : Int) := of_decide_eq_true (by first | (with_reducible assumption) | assumption)
                                  have q336 : x12_2 < (t320.length : Int) := of_decide_eq_true (by first | (with_reducible assumption) | assumption)
                                  obtain ⟨ad336, A336_0, c336_0, e336, hx336_0, hl336_0, hi336_0⟩ := at_L2 (Kd.N_reads' HO_0.out).2.2 x12_2 p336 q336
                                  cases e336
                                  obtain ⟨ce336, hce336, hMe336, hcc336⟩ := Kd.N_get HO_0.out [] x12_2 p336 (by first | exact q336 | exact of_decide_eq_true (by first | (with_reducible assumption) | assumption) | (have e_ := (Kd.N_reads' HO_0.out).1; omega))
                                  obtain ⟨ua336_0, uc336_0, rfl, ul336_0, ge336_0⟩ := Kd.FK_slice_open hMe336
                                  have hv336_0 := hcc336 0 _ rfl
                                  rw [Nat.add_zero, show ((Kd.slice 3 (Kd.int .i64))).sz = 1 from rfl, Nat.mul_one] at hv336_0
                                  replace hv336_0 := Option.some.inj (hv336_0.symm.trans hx336_0)
                                  injection hv336_0 with hva_ hvn_ hvc_
                                  rw [hva_] at ge336_0
                                  rw [hvc_] at ul336_0
                                  have HL336_0 := Aside0.mk (show Kd.V (Kd.int .i64) 3 _ w.heap.size _ _ (rd_L2 t320 x12_2) from Kd.V_mk ul336_0 ge336_0)
                                  clear hva_ hvn_ hvc_ ge336_0 ul336_0
                                  clear hcc336 hce336
                                  have HR336_0 := Aside0.mk hi336_0
                                  have HC336_0 := Aside0.mk hl336_0
                                  clear hi336_0 hl336_0
                                  replace p336 := eq_true p336
                                  replace q336 := eq_true q336
                                  have p337 : 0 ≤ (x12_2 : Int) := of_decide_eq_true (by first | (with_reducible assumption) | assumption)
                                  have q337 : x12_2 < (t320.length : Int) := of_decide_eq_true (by first | (with_reducible assumption) | assumption)
                                  obtain ⟨ad337, A337_0, c337_0, e337, hx337_0, hl337_0, hi337_0⟩ := at_L2 (Kd.N_reads' HO_0.out).2.2 x12_2 p337 q337
                                  obtain rfl : ad336 = ad337 := (by injection e337)
                                  obtain ⟨ce337, hce337, hMe337, hcc337⟩ := Kd.N_get HO_0.out [] x12_2 p337 (by first | exact q337 | exact of_decide_eq_true (by first | (with_reducible assumption) | assumption) | (have e_ := (Kd.N_reads' HO_0.out).1; omega))
                                  obtain ⟨ua337_0, uc337_0, rfl, ul337_0, ge337_0⟩ := Kd.FK_slice_open hMe337
                                  have hv337_0 := hcc337 0 _ rfl
                                  rw [Nat.add_zero, show ((Kd.slice 3 (Kd.int .i64))).sz = 1 from rfl, Nat.mul_one] at hv337_0
                                  replace hv337_0 := Option.some.inj (hv337_0.symm.trans hx337_0)
                                  injection hv337_0 with hva_ hvn_ hvc_
                                  rw [hva_] at ge337_0
                                  rw [hvc_] at ul337_0
                                  have HL337_0 := Aside0.mk (show Kd.V (Kd.int .i64) 3 _ w.heap.size _ _ (rd_L2 t320 x12_2) from Kd.V_mk ul337_0 ge337_0)
                                  clear hva_ hvn_ hvc_ ge337_0 ul337_0
                                  clear hcc337 hce337
                                  have HR337_0 := Aside0.mk hi337_0
                                  have HC337_0 := Aside0.mk hl337_0
                                  clear hi337_0 hl337_0
                                  replace p337 := eq_true p337
                                  replace q337 := eq_true q337
                                  have ea_ := Option.some.inj (hx336_0.symm.trans hx337_0)
                                  injection ea_ with ea_ en_ ec_
                                  subst ea_
                                  subst ec_
                                  clear en_
                                  have p338 : 0 ≤ (x15_3 : Int) := of_decide_eq_true (by first | (with_reducible assumption) | assumption)
                                  have q338 : x15_3 < ((rd_L2 t320 x12_2).length : Int) := of_decide_eq_true (by first | (with_reducible assumption) | assumption)
                                  obtain ⟨ad338, e338, hx338_0⟩ := Kd.at_int (by repeat (first | (with_reducible exact HR337_0.out) | (with_reducible refine Kd.C_alloc ?_ _) | (with_reducible refine Kd.C_drewN ?_ _) | (with_reducible refine Kd.C_drew ?_) | exact HR337_0.out)) x15_3 p338 q338
                                  cases e338
                                  replace p338 := eq_true p338
                                  replace q338 := eq_true q338
                                  go_wp2_with (first | ((with_reducible refine gate_callee (f := 19) rfl ?_); refine goesL_ (some 76) rfl rfl Try.func19 (by kernel_rfl) rfl #[.slice Ao20 t326.length co20, .int .i64 (rd (rd_L2 t320 x12_2) x15_3)] rfl (by (try simp only [List.map_toArray, List.map_cons, List.map_nil]); first | done | rfl | (simp only [List.length_drop, List.length_take]; rfl)) ?_; (with_reducible refine (ashlarref08_Open.calls k3 _ _ t326 (rd (rd_L2 t320 x12_2) x15_3) true _ ?side1 ?side2 A35.out).mono ?_); (case side1 => repeat (first | exact (Kd.R_reads' HO_8.out).2.2 | (with_reducible refine Kd.C_alloc ?_ _) | (with_reducible refine Kd.C_drewN ?_ _) | (with_reducible refine Kd.C_drew ?_))); (case side2 => exact (Kd.R_reads' HO_8.out).2.1); rintro e w' ⟨rfl, ⟨nd, rfl⟩⟩; refine ⟨_, rfl, ?_⟩; have p342 : 0 ≤ (x12_2 : Int) := of_decide_eq_true (by first | (with_reducible assumption) | assumption); have q342 : x12_2 < (t320.length : Int) := of_decide_eq_true (by first | (with_reducible assumption) | assumption); obtain ⟨ad342, A342_0, c342_0, e342, hx342_0, hl342_0, hi342_0⟩ := at_L2 (Kd.N_reads' HO_0.out).2.2 x12_2 p342 q342; obtain rfl : ad336 = ad342 := (by injection e342); obtain ⟨ce342, hce342, hMe342, hcc342⟩ := Kd.N_get HO_0.out [] x12_2 p342 (by first | exact q342 | exact of_decide_eq_true (by first | (with_reducible assumption) | assumption) | (have e_ := (Kd.N_reads' HO_0.out).1; omega)); obtain ⟨ua342_0, uc342_0, rfl, ul342_0, ge342_0⟩ := Kd.FK_slice_open hMe342; have hv342_0 := hcc342 0 _ rfl; rw [Nat.add_zero, show ((Kd.slice 3 (Kd.int .i64))).sz = 1 from rfl, Nat.mul_one] at hv342_0; replace hv342_0 := Option.some.inj (hv342_0.symm.trans hx342_0); injection hv342_0 with hva_ hvn_ hvc_; rw [hva_] at ge342_0; rw [hvc_] at ul342_0; have HL342_0 := Aside0.mk (show Kd.V (Kd.int .i64) 3 _ w.heap.size _ _ (rd_L2 t320 x12_2) from Kd.V_mk ul342_0 ge342_0); clear hva_ hvn_ hvc_ ge342_0 ul342_0; clear hcc342 hce342; have HR342_0 := Aside0.mk hi342_0; have HC342_0 := Aside0.mk hl342_0; clear hi342_0 hl342_0; replace p342 := eq_true p342; replace q342 := eq_true q342; have ea_ := Option.some.inj (hx336_0.symm.trans hx342_0); injection ea_ with ea_ en_ ec_; subst ea_; subst ec_; clear en_; have p343 : 0 ≤ (x15_3 : Int) := of_decide_eq_true (by first | (with_reducible assumption) | assumption); have q343 : x15_3 < ((rd_L2 t320 x12_2).length : Int) := of_decide_eq_true (by first | (with_reducible assumption) | assumption); obtain ⟨ad343, e343, hx343_0⟩ := Kd.at_int (by repeat (first | (with_reducible exact HR342_0.out) | (with_reducible refine Kd.C_alloc ?_ _) | (with_reducible refine Kd.C_drewN ?_ _) | (with_reducible refine Kd.C_drew ?_) | exact HR342_0.out)) x15_3 p343 q343; cases e343; replace p343 := eq_true p343; replace q343 := eq_true q343))
                                  go_roundg k3
                                  case measure => have := HJ13.out; have := HK2.out; have := HK3.out; omega
                                  case rel => exact ⟨(x13_3), (x14_3), (wrap64 (x15_3 + 1)), (by first | rfl | (simp; done) | (simp [*]; done)), (by first | rfl | (simp; done) | (simp [*]; done)), (by first | rfl | (simp; done) | (simp [*]; done)), H', ⟨by have := HJ13.out; have := HK2.out; have := HK3.out; omega⟩, ⟨by (with_reducible repeat (first | apply Kd.N_alloc | apply Kd.N_drewN | apply Kd.N_drew)); exact HO_0.out⟩, ⟨by (with_reducible repeat (first | apply Kd.R_alloc | apply Kd.R_drewN | apply Kd.R_drew)); exact HO_1.out⟩, ⟨by (with_reducible repeat (first | apply Kd.R_alloc | apply Kd.R_drewN | apply Kd.R_drew)); exact HO_8.out⟩, ⟨by repeat (first | (with_reducible first | exact HB.out | apply below_alloc | apply pw_below_drewN | apply below_drew1) | exact HB.out)⟩⟩
                                · rw [if_neg c38] at H
                                  have c38b0 : ((rd (rd_L2 t320 x12_2) x15_3) == x14_3) = false := beq_eq_false_iff_ne.mpr c38
                                  have c38b1 : ((rd (rd_L2 t320 x12_2) x15_3) != x14_3) = true := bne_iff_ne.mpr c38
                                  have H' := Aside0.mk H
                                  clear H
                                  have p336 : 0 ≤ (x12_2 : Int) := of_decide_eq_true (by first | (with_reducible assumption) | assumption)
                                  have q336 : x12_2 < (t320.length : Int) := of_decide_eq_true (by first | (with_reducible assumption) | assumption)
                                  obtain ⟨ad336, A336_0, c336_0, e336, hx336_0, hl336_0, hi336_0⟩ := at_L2 (Kd.N_reads' HO_0.out).2.2 x12_2 p336 q336
                                  cases e336
                                  obtain ⟨ce336, hce336, hMe336, hcc336⟩ := Kd.N_get HO_0.out [] x12_2 p336 (by first | exact q336 | exact of_decide_eq_true (by first | (with_reducible assumption) | assumption) | (have e_ := (Kd.N_reads' HO_0.out).1; omega))
                                  obtain ⟨ua336_0, uc336_0, rfl, ul336_0, ge336_0⟩ := Kd.FK_slice_open hMe336
                                  have hv336_0 := hcc336 0 _ rfl
                                  rw [Nat.add_zero, show ((Kd.slice 3 (Kd.int .i64))).sz = 1 from rfl, Nat.mul_one] at hv336_0
                                  replace hv336_0 := Option.some.inj (hv336_0.symm.trans hx336_0)
                                  injection hv336_0 with hva_ hvn_ hvc_
                                  rw [hva_] at ge336_0
                                  rw [hvc_] at ul336_0
                                  have HL336_0 := Aside0.mk (show Kd.V (Kd.int .i64) 3 _ w.heap.size _ _ (rd_L2 t320 x12_2) from Kd.V_mk ul336_0 ge336_0)
                                  clear hva_ hvn_ hvc_ ge336_0 ul336_0
                                  clear hcc336 hce336
                                  have HR336_0 := Aside0.mk hi336_0
                                  have HC336_0 := Aside0.mk hl336_0
                                  clear hi336_0 hl336_0
                                  replace p336 := eq_true p336
                                  replace q336 := eq_true q336
                                  have p337 : 0 ≤ (x12_2 : Int) := of_decide_eq_true (by first | (with_reducible assumption) | assumption)
                                  have q337 : x12_2 < (t320.length : Int) := of_decide_eq_true (by first | (with_reducible assumption) | assumption)
                                  obtain ⟨ad337, A337_0, c337_0, e337, hx337_0, hl337_0, hi337_0⟩ := at_L2 (Kd.N_reads' HO_0.out).2.2 x12_2 p337 q337
                                  obtain rfl : ad336 = ad337 := (by injection e337)
                                  obtain ⟨ce337, hce337, hMe337, hcc337⟩ := Kd.N_get HO_0.out [] x12_2 p337 (by first | exact q337 | exact of_decide_eq_true (by first | (with_reducible assumption) | assumption) | (have e_ := (Kd.N_reads' HO_0.out).1; omega))
                                  obtain ⟨ua337_0, uc337_0, rfl, ul337_0, ge337_0⟩ := Kd.FK_slice_open hMe337
                                  have hv337_0 := hcc337 0 _ rfl
                                  rw [Nat.add_zero, show ((Kd.slice 3 (Kd.int .i64))).sz = 1 from rfl, Nat.mul_one] at hv337_0
                                  replace hv337_0 := Option.some.inj (hv337_0.symm.trans hx337_0)
                                  injection hv337_0 with hva_ hvn_ hvc_
                                  rw [hva_] at ge337_0
                                  rw [hvc_] at ul337_0
                                  have HL337_0 := Aside0.mk (show Kd.V (Kd.int .i64) 3 _ w.heap.size _ _ (rd_L2 t320 x12_2) from Kd.V_mk ul337_0 ge337_0)
                                  clear hva_ hvn_ hvc_ ge337_0 ul337_0
                                  clear hcc337 hce337
                                  have HR337_0 := Aside0.mk hi337_0
                                  have HC337_0 := Aside0.mk hl337_0
                                  clear hi337_0 hl337_0
                                  replace p337 := eq_true p337
                                  replace q337 := eq_true q337
                                  have ea_ := Option.some.inj (hx336_0.symm.trans hx337_0)
                                  injection ea_ with ea_ en_ ec_
                                  subst ea_
                                  subst ec_
                                  clear en_
                                  have p338 : 0 ≤ (x15_3 : Int) := of_decide_eq_true (by first | (with_reducible assumption) | assumption)
                                  have q338 : x15_3 < ((rd_L2 t320 x12_2).length : Int) := of_decide_eq_true (by first | (with_reducible assumption) | assumption)
                                  obtain ⟨ad338, e338, hx338_0⟩ := Kd.at_int (by repeat (first | (with_reducible exact HR337_0.out) | (with_reducible refine Kd.C_alloc ?_ _) | (with_reducible refine Kd.C_drewN ?_ _) | (with_reducible refine Kd.C_drew ?_) | exact HR337_0.out)) x15_3 p338 q338
                                  cases e338
                                  replace p338 := eq_true p338
                                  replace q338 := eq_true q338
                                  go_wp2_with (first | ((with_reducible refine gate_callee (f := 19) rfl ?_); refine goesL_ (some 76) rfl rfl Try.func19 (by kernel_rfl) rfl #[.slice Ao20 t326.length co20, .int .i64 (rd (rd_L2 t320 x12_2) x15_3)] rfl (by (try simp only [List.map_toArray, List.map_cons, List.map_nil]); first | done | rfl | (simp only [List.length_drop, List.length_take]; rfl)) ?_; (with_reducible refine (ashlarref08_Open.calls k3 _ _ t326 (rd (rd_L2 t320 x12_2) x15_3) true _ ?side1 ?side2 A35.out).mono ?_); (case side1 => repeat (first | exact (Kd.R_reads' HO_8.out).2.2 | (with_reducible refine Kd.C_alloc ?_ _) | (with_reducible refine Kd.C_drewN ?_ _) | (with_reducible refine Kd.C_drew ?_))); (case side2 => exact (Kd.R_reads' HO_8.out).2.1); rintro e w' ⟨rfl, ⟨nd, rfl⟩⟩; refine ⟨_, rfl, ?_⟩; have p342 : 0 ≤ (x12_2 : Int) := of_decide_eq_true (by first | (with_reducible assumption) | assumption); have q342 : x12_2 < (t320.length : Int) := of_decide_eq_true (by first | (with_reducible assumption) | assumption); obtain ⟨ad342, A342_0, c342_0, e342, hx342_0, hl342_0, hi342_0⟩ := at_L2 (Kd.N_reads' HO_0.out).2.2 x12_2 p342 q342; obtain rfl : ad336 = ad342 := (by injection e342); obtain ⟨ce342, hce342, hMe342, hcc342⟩ := Kd.N_get HO_0.out [] x12_2 p342 (by first | exact q342 | exact of_decide_eq_true (by first | (with_reducible assumption) | assumption) | (have e_ := (Kd.N_reads' HO_0.out).1; omega)); obtain ⟨ua342_0, uc342_0, rfl, ul342_0, ge342_0⟩ := Kd.FK_slice_open hMe342; have hv342_0 := hcc342 0 _ rfl; rw [Nat.add_zero, show ((Kd.slice 3 (Kd.int .i64))).sz = 1 from rfl, Nat.mul_one] at hv342_0; replace hv342_0 := Option.some.inj (hv342_0.symm.trans hx342_0); injection hv342_0 with hva_ hvn_ hvc_; rw [hva_] at ge342_0; rw [hvc_] at ul342_0; have HL342_0 := Aside0.mk (show Kd.V (Kd.int .i64) 3 _ w.heap.size _ _ (rd_L2 t320 x12_2) from Kd.V_mk ul342_0 ge342_0); clear hva_ hvn_ hvc_ ge342_0 ul342_0; clear hcc342 hce342; have HR342_0 := Aside0.mk hi342_0; have HC342_0 := Aside0.mk hl342_0; clear hi342_0 hl342_0; replace p342 := eq_true p342; replace q342 := eq_true q342; have ea_ := Option.some.inj (hx336_0.symm.trans hx342_0); injection ea_ with ea_ en_ ec_; subst ea_; subst ec_; clear en_; have p343 : 0 ≤ (x15_3 : Int) := of_decide_eq_true (by first | (with_reducible assumption) | assumption); have q343 : x15_3 < ((rd_L2 t320 x12_2).length : Int) := of_decide_eq_true (by first | (with_reducible assumption) | assumption); obtain ⟨ad343, e343, hx343_0⟩ := Kd.at_int (by repeat (first | (with_reducible exact HR342_0.out) | (with_reducible refine Kd.C_alloc ?_ _) | (with_reducible refine Kd.C_drewN ?_ _) | (with_reducible refine Kd.C_drew ?_) | exact HR342_0.out)) x15_3 p343 q343; cases e343; replace p343 := eq_true p343; replace q343 := eq_true q343; have p344 : 0 ≤ (x12_2 : Int) := of_decide_eq_true (by first | (with_reducible assumption) | assumption); have q344 : x12_2 < (t320.length : Int) := of_decide_eq_true (by first | (with_reducible assumption) | assumption); obtain ⟨ad344, A344_0, c344_0, e344, hx344_0, hl344_0, hi344_0⟩ := at_L2 (Kd.N_reads' HO_0.out).2.2 x12_2 p344 q344; obtain rfl : ad336 = ad344 := (by injection e344); obtain ⟨ce344, hce344, hMe344, hcc344⟩ := Kd.N_get HO_0.out [] x12_2 p344 (by first | exact q344 | exact of_decide_eq_true (by first | (with_reducible assumption) | assumption) | (have e_ := (Kd.N_reads' HO_0.out).1; omega)); obtain ⟨ua344_0, uc344_0, rfl, ul344_0, ge344_0⟩ := Kd.FK_slice_open hMe344; have hv344_0 := hcc344 0 _ rfl; rw [Nat.add_zero, show ((Kd.slice 3 (Kd.int .i64))).sz = 1 from rfl, Nat.mul_one] at hv344_0; replace hv344_0 := Option.some.inj (hv344_0.symm.trans hx344_0); injection hv344_0 with hva_ hvn_ hvc_; rw [hva_] at ge344_0; rw [hvc_] at ul344_0; have HL344_0 := Aside0.mk (show Kd.V (Kd.int .i64) 3 _ w.heap.size _ _ (rd_L2 t320 x12_2) from Kd.V_mk ul344_0 ge344_0); clear hva_ hvn_ hvc_ ge344_0 ul344_0; clear hcc344 hce344; have HR344_0 := Aside0.mk hi344_0; have HC344_0 := Aside0.mk hl344_0; clear hi344_0 hl344_0; replace p344 := eq_true p344; replace q344 := eq_true q344; have ea_ := Option.some.inj (hx336_0.symm.trans hx344_0); injection ea_ with ea_ en_ ec_; subst ea_; subst ec_; clear en_; have p345 : 0 ≤ (x15_3 : Int) := of_decide_eq_true (by first | (with_reducible assumption) | assumption); have q345 : x15_3 < ((rd_L2 t320 x12_2).length : Int) := of_decide_eq_true (by first | (with_reducible assumption) | assumption); obtain ⟨ad345, e345, hx345_0⟩ := Kd.at_int (by repeat (first | (with_reducible exact HR344_0.out) | (with_reducible refine Kd.C_alloc ?_ _) | (with_reducible refine Kd.C_drewN ?_ _) | (with_reducible refine Kd.C_drew ?_) | exact HR344_0.out)) x15_3 p345 q345; cases e345; replace p345 := eq_true p345; replace q345 := eq_true q345))
                                  go_roundg k3
                                  case measure => have := HJ13.out; have := HK2.out; have := HK3.out; omega
                                  case rel => exact ⟨(wrap64 (x13_3 + 1)), (rd (rd_L2 t320 x12_2) x15_3), (wrap64 (x15_3 + 1)), (by first | rfl | (simp; done) | (simp [*]; done)), (by first | rfl | (simp; done) | (simp [*]; done)), (by first | rfl | (simp; done) | (simp [*]; done)), H', ⟨by have := HJ13.out; have := HK2.out; have := HK3.out; omega⟩, ⟨by (with_reducible repeat (first | apply Kd.N_alloc | apply Kd.N_drewN | apply Kd.N_drew)); exact HO_0.out⟩, ⟨by (with_reducible repeat (first | apply Kd.R_alloc | apply Kd.R_drewN | apply Kd.R_drew)); exact HO_1.out⟩, ⟨by (with_reducible repeat (first | apply Kd.R_alloc | apply Kd.R_drewN | apply Kd.R_drew)); exact HO_8.out⟩, ⟨by repeat (first | (with_reducible first | exact HB.out | apply below_alloc | apply pw_below_drewN | apply below_drew1) | exact HB.out)⟩⟩
                            · replace c36 := Bool.eq_false_iff.mpr c36
                              subst c36
                              have H1 : (ashlarlaw08_PropOnce.l1 k3 t320 t321 l2 t319 t326 x12_2 x13_3 x14_3 (wrap64 (x15_3 + 1))) = some r := by rw [if_neg (show ¬ (false = true) by decide)] at H; exact H
                              clear H
                              have H := H1
                              clear H1
                              have H' := Aside0.mk H
                              clear H
                              have p336 : 0 ≤ (x12_2 : Int) := of_decide_eq_true (by first | (with_reducible assumption) | assumption)
                              have q336 : x12_2 < (t320.length : Int) := of_decide_eq_true (by first | (with_reducible assumption) | assumption)
                              obtain ⟨ad336, A336_0, c336_0, e336, hx336_0, hl336_0, hi336_0⟩ := at_L2 (Kd.N_reads' HO_0.out).2.2 x12_2 p336 q336
                              cases e336
                              obtain ⟨ce336, hce336, hMe336, hcc336⟩ := Kd.N_get HO_0.out [] x12_2 p336 (by first | exact q336 | exact of_decide_eq_true (by first | (with_reducible assumption) | assumption) | (have e_ := (Kd.N_reads' HO_0.out).1; omega))
                              obtain ⟨ua336_0, uc336_0, rfl, ul336_0, ge336_0⟩ := Kd.FK_slice_open hMe336
                              have hv336_0 := hcc336 0 _ rfl
                              rw [Nat.add_zero, show ((Kd.slice 3 (Kd.int .i64))).sz = 1 from rfl, Nat.mul_one] at hv336_0
                              replace hv336_0 := Option.some.inj (hv336_0.symm.trans hx336_0)
                              injection hv336_0 with hva_ hvn_ hvc_
                              rw [hva_] at ge336_0
                              rw [hvc_] at ul336_0
                              have HL336_0 := Aside0.mk (show Kd.V (Kd.int .i64) 3 _ w.heap.size _ _ (rd_L2 t320 x12_2) from Kd.V_mk ul336_0 ge336_0)
                              clear hva_ hvn_ hvc_ ge336_0 ul336_0
                              clear hcc336 hce336
                              have HR336_0 := Aside0.mk hi336_0
                              have HC336_0 := Aside0.mk hl336_0
                              clear hi336_0 hl336_0
                              replace p336 := eq_true p336
                              replace q336 := eq_true q336
                              have p337 : 0 ≤ (x12_2 : Int) := of_decide_eq_true (by first | (with_reducible assumption) | assumption)
                              have q337 : x12_2 < (t320.length : Int) := of_decide_eq_true (by first | (with_reducible assumption) | assumption)
                              obtain ⟨ad337, A337_0, c337_0, e337, hx337_0, hl337_0, hi337_0⟩ := at_L2 (Kd.N_reads' HO_0.out).2.2 x12_2 p337 q337
                              obtain rfl : ad336 = ad337 := (by injection e337)
                              obtain ⟨ce337, hce337, hMe337, hcc337⟩ := Kd.N_get HO_0.out [] x12_2 p337 (by first | exact q337 | exact of_decide_eq_true (by first | (with_reducible assumption) | assumption) | (have e_ := (Kd.N_reads' HO_0.out).1; omega))
                              obtain ⟨ua337_0, uc337_0, rfl, ul337_0, ge337_0⟩ := Kd.FK_slice_open hMe337
                              have hv337_0 := hcc337 0 _ rfl
                              rw [Nat.add_zero, show ((Kd.slice 3 (Kd.int .i64))).sz = 1 from rfl, Nat.mul_one] at hv337_0
                              replace hv337_0 := Option.some.inj (hv337_0.symm.trans hx337_0)
                              injection hv337_0 with hva_ hvn_ hvc_
                              rw [hva_] at ge337_0
                              rw [hvc_] at ul337_0
                              have HL337_0 := Aside0.mk (show Kd.V (Kd.int .i64) 3 _ w.heap.size _ _ (rd_L2 t320 x12_2) from Kd.V_mk ul337_0 ge337_0)
                              clear hva_ hvn_ hvc_ ge337_0 ul337_0
                              clear hcc337 hce337
                              have HR337_0 := Aside0.mk hi337_0
                              have HC337_0 := Aside0.mk hl337_0
                              clear hi337_0 hl337_0
                              replace p337 := eq_true p337
                              replace q337 := eq_true q337
                              have ea_ := Option.some.inj (hx336_0.symm.trans hx337_0)
                              injection ea_ with ea_ en_ ec_
                              subst ea_
                              subst ec_
                              clear en_
                              have p338 : 0 ≤ (x15_3 : Int) := of_decide_eq_true (by first | (with_reducible assumption) | assumption)
                              have q338 : x15_3 < ((rd_L2 t320 x12_2).length : Int) := of_decide_eq_true (by first | (with_reducible assumption) | assumption)
                              obtain ⟨ad338, e338, hx338_0⟩ := Kd.at_int (by repeat (first | (with_reducible exact HR337_0.out) | (with_reducible refine Kd.C_alloc ?_ _) | (with_reducible refine Kd.C_drewN ?_ _) | (with_reducible refine Kd.C_drew ?_) | exact HR337_0.out)) x15_3 p338 q338
                              cases e338
                              replace p338 := eq_true p338
                              replace q338 := eq_true q338
                              go_wp2_with (first | ((with_reducible refine gate_callee (f := 19) rfl ?_); refine goesL_ (some 76) rfl rfl Try.func19 (by kernel_rfl) rfl #[.slice Ao20 t326.length co20, .int .i64 (rd (rd_L2 t320 x12_2) x15_3)] rfl (by (try simp only [List.map_toArray, List.map_cons, List.map_nil]); first | done | rfl | (simp only [List.length_drop, List.length_take]; rfl)) ?_; (with_reducible refine (ashlarref08_Open.calls k3 _ _ t326 (rd (rd_L2 t320 x12_2) x15_3) false _ ?side1 ?side2 A35.out).mono ?_); (case side1 => repeat (first | exact (Kd.R_reads' HO_8.out).2.2 | (with_reducible refine Kd.C_alloc ?_ _) | (with_reducible refine Kd.C_drewN ?_ _) | (with_reducible refine Kd.C_drew ?_))); (case side2 => exact (Kd.R_reads' HO_8.out).2.1); rintro e w' ⟨rfl, ⟨nd, rfl⟩⟩; refine ⟨_, rfl, ?_⟩))
                              go_roundg k3
                              case measure => have := HJ13.out; have := HK2.out; have := HK3.out; omega
                              case rel => exact ⟨(x13_3), (x14_3), (wrap64 (x15_3 + 1)), (by first | rfl | (simp; done) | (simp [*]; done)), (by first | rfl | (simp; done) | (simp [*]; done)), (by first | rfl | (simp; done) | (simp [*]; done)), H', ⟨by have := HJ13.out; have := HK2.out; have := HK3.out; omega⟩, ⟨by (with_reducible repeat (first | apply Kd.N_alloc | apply Kd.N_drewN | apply Kd.N_drew)); exact HO_0.out⟩, ⟨by (with_reducible repeat (first | apply Kd.R_alloc | apply Kd.R_drewN | apply Kd.R_drew)); exact HO_1.out⟩, ⟨by (with_reducible repeat (first | apply Kd.R_alloc | apply Kd.R_drewN | apply Kd.R_drew)); exact HO_8.out⟩, ⟨by repeat (first | (with_reducible first | exact HB.out | apply below_alloc | apply pw_below_drewN | apply below_drew1) | exact HB.out)⟩⟩
                          · rw [if_neg c34] at H
                            exact absurd H (by simp)
                        · rw [if_neg c33] at H
                          have c33b0 : decide (x15_3 < ((rd_L2 t320 x12_2).length : Int)) = false := decide_eq_false c33
                          clear c33
                          by_cases c39 : x13_3 = 1
                          · rw [if_pos c39] at H
                            have c39b0 : (x13_3 == 1) = true := beq_iff_eq.mpr c39
                            have c39b1 : (x13_3 != 1) = false := bne_eq_false_iff_eq.mpr c39
                            clear c39
                            replace H := Option.bind_eq_some_iff.mp H
                            obtain ⟨t347, A400, H⟩ := H
                            replace H : (if t347 = true then (ashlarlaw08_PropOnce.l0 k3 t320 t321 l2 t319 t326 (wrap64 (x12_2 + 1))) else (some false)) = some r := H
                            have A40 := Aside0.mk A400
                            clear A400
                            by_cases c41 : t347 = true
                            · subst c41
                              have H1 : (ashlarlaw08_PropOnce.l0 k3 t320 t321 l2 t319 t326 (wrap64 (x12_2 + 1))) = some r := by rw [if_pos rfl] at H; exact H
                              clear H
                              have H := H1
                              clear H1
                              have H' := Aside0.mk H
                              clear H
                              have p336 : 0 ≤ (x12_2 : Int) := of_decide_eq_true (by first | (with_reducible assumption) | assumption)
                              have q336 : x12_2 < (t320.length : Int) := of_decide_eq_true (by first | (with_reducible assumption) | assumption)
                              obtain ⟨ad336, A336_0, c336_0, e336, hx336_0, hl336_0, hi336_0⟩ := at_L2 (Kd.N_reads' HO_0.out).2.2 x12_2 p336 q336
                              cases e336
                              obtain ⟨ce336, hce336, hMe336, hcc336⟩ := Kd.N_get HO_0.out [] x12_2 p336 (by first | exact q336 | exact of_decide_eq_true (by first | (with_reducible assumption) | assumption) | (have e_ := (Kd.N_reads' HO_0.out).1; omega))
                              obtain ⟨ua336_0, uc336_0, rfl, ul336_0, ge336_0⟩ := Kd.FK_slice_open hMe336
                              have hv336_0 := hcc336 0 _ rfl
                              rw [Nat.add_zero, show ((Kd.slice 3 (Kd.int .i64))).sz = 1 from rfl, Nat.mul_one] at hv336_0
                              replace hv336_0 := Option.some.inj (hv336_0.symm.trans hx336_0)
                              injection hv336_0 with hva_ hvn_ hvc_
                              rw [hva_] at ge336_0
                              rw [hvc_] at ul336_0
                              have HL336_0 := Aside0.mk (show Kd.V (Kd.int .i64) 3 _ w.heap.size _ _ (rd_L2 t320 x12_2) from Kd.V_mk ul336_0 ge336_0)
                              clear hva_ hvn_ hvc_ ge336_0 ul336_0
                              clear hcc336 hce336
                              have HR336_0 := Aside0.mk hi336_0
                              have HC336_0 := Aside0.mk hl336_0
                              clear hi336_0 hl336_0
                              replace p336 := eq_true p336
                              replace q336 := eq_true q336
                              have p346 : 0 ≤ (x12_2 : Int) := of_decide_eq_true (by first | (with_reducible assumption) | assumption)
                              have q346 : x12_2 < (t320.length : Int) := of_decide_eq_true (by first | (with_reducible assumption) | assumption)
                              obtain ⟨ad346, A346_0, c346_0, e346, hx346_0, hl346_0, hi346_0⟩ := at_L2 (Kd.N_reads' HO_0.out).2.2 x12_2 p346 q346
                              obtain rfl : ad336 = ad346 := (by injection e346)
                              obtain ⟨ce346, hce346, hMe346, hcc346⟩ := Kd.N_get HO_0.out [] x12_2 p346 (by first | exact q346 | exact of_decide_eq_true (by first | (with_reducible assumption) | assumption) | (have e_ := (Kd.N_reads' HO_0.out).1; omega))
                              obtain ⟨ua346_0, uc346_0, rfl, ul346_0, ge346_0⟩ := Kd.FK_slice_open hMe346
                              have hv346_0 := hcc346 0 _ rfl
                              rw [Nat.add_zero, show ((Kd.slice 3 (Kd.int .i64))).sz = 1 from rfl, Nat.mul_one] at hv346_0
                              replace hv346_0 := Option.some.inj (hv346_0.symm.trans hx346_0)
                              injection hv346_0 with hva_ hvn_ hvc_
                              rw [hva_] at ge346_0
                              rw [hvc_] at ul346_0
                              have HL346_0 := Aside0.mk (show Kd.V (Kd.int .i64) 3 _ w.heap.size _ _ (rd_L2 t320 x12_2) from Kd.V_mk ul346_0 ge346_0)
                              clear hva_ hvn_ hvc_ ge346_0 ul346_0
                              clear hcc346 hce346
                              have HR346_0 := Aside0.mk hi346_0
                              have HC346_0 := Aside0.mk hl346_0
                              clear hi346_0 hl346_0
                              replace p346 := eq_true p346
                              replace q346 := eq_true q346
                              have ea_ := Option.some.inj (hx336_0.symm.trans hx346_0)
                              injection ea_ with ea_ en_ ec_
                              subst ea_
                              subst ec_
                              clear en_
                              go_wp2_with (first | (go_at_call 20; (with_reducible refine (ashlarref08_Holds.calls k3 _ _ (rd_L2 t320 x12_2) _ _ t326 true _ ?side1 ?side2 ?side3 ?side4 A40.out).mono ?_); (case side1 => repeat (first | exact (by repeat (first | (with_reducible exact HR346_0.out) | (with_reducible refine Kd.C_alloc ?_ _) | (with_reducible refine Kd.C_drewN ?_ _) | (with_reducible refine Kd.C_drew ?_) | exact HR346_0.out)) | (with_reducible refine Kd.C_alloc ?_ _) | (with_reducible refine Kd.C_drewN ?_ _) | (with_reducible refine Kd.C_drew ?_))); (case side2 => exact HC346_0.out); (case side3 => repeat (first | exact (Kd.R_reads' HO_8.out).2.2 | (with_reducible refine Kd.C_alloc ?_ _) | (with_reducible refine Kd.C_drewN ?_ _) | (with_reducible refine Kd.C_drew ?_))); (case side4 => exact (Kd.R_reads' HO_8.out).2.1); rintro e w' ⟨rfl, ⟨nd, rfl⟩⟩))
                              go_roundg k3
                              case measure => have := HJ13.out; have := HK2.out; have := HK3.out; omega
                              case rel => exact ⟨(wrap64 (x12_2 + 1)), (by first | rfl | (simp; done) | (simp [*]; done)), H', ⟨by have := HJ13.out; have := HK2.out; have := HK3.out; omega⟩, ⟨by (with_reducible repeat (first | apply Kd.N_alloc | apply Kd.N_drewN | apply Kd.N_drew)); exact HO_0.out⟩, ⟨by (with_reducible repeat (first | apply Kd.R_alloc | apply Kd.R_drewN | apply Kd.R_drew)); exact HO_1.out⟩, ⟨by (with_reducible repeat (first | apply Kd.R_alloc | apply Kd.R_drewN | apply Kd.R_drew)); exact HO_8.out⟩, ⟨by repeat (first | (with_reducible first | exact HB.out | apply below_alloc | apply pw_below_drewN | apply below_drew1) | exact HB.out)⟩⟩
                            · replace c41 := Bool.eq_false_iff.mpr c41
                              subst c41
                              have H1 : (some false) = some r := by rw [if_neg (show ¬ (false = true) by decide)] at H; exact H
                              clear H
                              have H := H1
                              clear H1
                              obtain rfl := Option.some.inj H
                              have p336 : 0 ≤ (x12_2 : Int) := of_decide_eq_true (by first | (with_reducible assumption) | assumption)
                              have q336 : x12_2 < (t320.length : Int) := of_decide_eq_true (by first | (with_reducible assumption) | assumption)
                              obtain ⟨ad336, A336_0, c336_0, e336, hx336_0, hl336_0, hi336_0⟩ := at_L2 (Kd.N_reads' HO_0.out).2.2 x12_2 p336 q336
                              cases e336
                              obtain ⟨ce336, hce336, hMe336, hcc336⟩ := Kd.N_get HO_0.out [] x12_2 p336 (by first | exact q336 | exact of_decide_eq_true (by first | (with_reducible assumption) | assumption) | (have e_ := (Kd.N_reads' HO_0.out).1; omega))
                              obtain ⟨ua336_0, uc336_0, rfl, ul336_0, ge336_0⟩ := Kd.FK_slice_open hMe336
                              have hv336_0 := hcc336 0 _ rfl
                              rw [Nat.add_zero, show ((Kd.slice 3 (Kd.int .i64))).sz = 1 from rfl, Nat.mul_one] at hv336_0
                              replace hv336_0 := Option.some.inj (hv336_0.symm.trans hx336_0)
                              injection hv336_0 with hva_ hvn_ hvc_
                              rw [hva_] at ge336_0
                              rw [hvc_] at ul336_0
                              have HL336_0 := Aside0.mk (show Kd.V (Kd.int .i64) 3 _ w.heap.size _ _ (rd_L2 t320 x12_2) from Kd.V_mk ul336_0 ge336_0)
                              clear hva_ hvn_ hvc_ ge336_0 ul336_0
                              clear hcc336 hce336
                              have HR336_0 := Aside0.mk hi336_0
                              have HC336_0 := Aside0.mk hl336_0
                              clear hi336_0 hl336_0
                              replace p336 := eq_true p336
                              replace q336 := eq_true q336
                              have p346 : 0 ≤ (x12_2 : Int) := of_decide_eq_true (by first | (with_reducible assumption) | assumption)
                              have q346 : x12_2 < (t320.length : Int) := of_decide_eq_true (by first | (with_reducible assumption) | assumption)
                              obtain ⟨ad346, A346_0, c346_0, e346, hx346_0, hl346_0, hi346_0⟩ := at_L2 (Kd.N_reads' HO_0.out).2.2 x12_2 p346 q346
                              obtain rfl : ad336 = ad346 := (by injection e346)
                              obtain ⟨ce346, hce346, hMe346, hcc346⟩ := Kd.N_get HO_0.out [] x12_2 p346 (by first | exact q346 | exact of_decide_eq_true (by first | (with_reducible assumption) | assumption) | (have e_ := (Kd.N_reads' HO_0.out).1; omega))
                              obtain ⟨ua346_0, uc346_0, rfl, ul346_0, ge346_0⟩ := Kd.FK_slice_open hMe346
                              have hv346_0 := hcc346 0 _ rfl
                              rw [Nat.add_zero, show ((Kd.slice 3 (Kd.int .i64))).sz = 1 from rfl, Nat.mul_one] at hv346_0
                              replace hv346_0 := Option.some.inj (hv346_0.symm.trans hx346_0)
                              injection hv346_0 with hva_ hvn_ hvc_
                              rw [hva_] at ge346_0
                              rw [hvc_] at ul346_0
                              have HL346_0 := Aside0.mk (show Kd.V (Kd.int .i64) 3 _ w.heap.size _ _ (rd_L2 t320 x12_2) from Kd.V_mk ul346_0 ge346_0)
                              clear hva_ hvn_ hvc_ ge346_0 ul346_0
                              clear hcc346 hce346
                              have HR346_0 := Aside0.mk hi346_0
                              have HC346_0 := Aside0.mk hl346_0
                              clear hi346_0 hl346_0
                              replace p346 := eq_true p346
                              replace q346 := eq_true q346
                              have ea_ := Option.some.inj (hx336_0.symm.trans hx346_0)
                              injection ea_ with ea_ en_ ec_
                              subst ea_
                              subst ec_
                              clear en_
                              go_wp2_with (first | (go_at_call 20; (with_reducible refine (ashlarref08_Holds.calls k3 _ _ (rd_L2 t320 x12_2) _ _ t326 false _ ?side1 ?side2 ?side3 ?side4 A40.out).mono ?_); (case side1 => repeat (first | exact (by repeat (first | (with_reducible exact HR346_0.out) | (with_reducible refine Kd.C_alloc ?_ _) | (with_reducible refine Kd.C_drewN ?_ _) | (with_reducible refine Kd.C_drew ?_) | exact HR346_0.out)) | (with_reducible refine Kd.C_alloc ?_ _) | (with_reducible refine Kd.C_drewN ?_ _) | (with_reducible refine Kd.C_drew ?_))); (case side2 => exact HC346_0.out); (case side3 => repeat (first | exact (Kd.R_reads' HO_8.out).2.2 | (with_reducible refine Kd.C_alloc ?_ _) | (with_reducible refine Kd.C_drewN ?_ _) | (with_reducible refine Kd.C_drew ?_))); (case side4 => exact (Kd.R_reads' HO_8.out).2.1); rintro e w' ⟨rfl, ⟨nd, rfl⟩⟩))
                              go_ret
                              exact ⟨by first | rfl | (simp [errW_none, errW_some] <;> rfl) | (simp [*, errW_none, errW_some] <;> rfl), by repeat (first | (with_reducible first | exact HB.out | apply below_alloc | apply pw_below_drewN | apply below_drew1) | exact HB.out)⟩
                          · rw [if_neg c39] at H
                            have c39b0 : (x13_3 == 1) = false := beq_eq_false_iff_ne.mpr c39
                            have c39b1 : (x13_3 != 1) = true := bne_iff_ne.mpr c39
                            have H' := Aside0.mk H
                            clear H
                            have p336 : 0 ≤ (x12_2 : Int) := of_decide_eq_true (by first | (with_reducible assumption) | assumption)
                            have q336 : x12_2 < (t320.length : Int) := of_decide_eq_true (by first | (with_reducible assumption) | assumption)
                            obtain ⟨ad336, A336_0, c336_0, e336, hx336_0, hl336_0, hi336_0⟩ := at_L2 (Kd.N_reads' HO_0.out).2.2 x12_2 p336 q336
                            cases e336
                            obtain ⟨ce336, hce336, hMe336, hcc336⟩ := Kd.N_get HO_0.out [] x12_2 p336 (by first | exact q336 | exact of_decide_eq_true (by first | (with_reducible assumption) | assumption) | (have e_ := (Kd.N_reads' HO_0.out).1; omega))
                            obtain ⟨ua336_0, uc336_0, rfl, ul336_0, ge336_0⟩ := Kd.FK_slice_open hMe336
                            have hv336_0 := hcc336 0 _ rfl
                            rw [Nat.add_zero, show ((Kd.slice 3 (Kd.int .i64))).sz = 1 from rfl, Nat.mul_one] at hv336_0
                            replace hv336_0 := Option.some.inj (hv336_0.symm.trans hx336_0)
                            injection hv336_0 with hva_ hvn_ hvc_
                            rw [hva_] at ge336_0
                            rw [hvc_] at ul336_0
                            have HL336_0 := Aside0.mk (show Kd.V (Kd.int .i64) 3 _ w.heap.size _ _ (rd_L2 t320 x12_2) from Kd.V_mk ul336_0 ge336_0)
                            clear hva_ hvn_ hvc_ ge336_0 ul336_0
                            clear hcc336 hce336
                            have HR336_0 := Aside0.mk hi336_0
                            have HC336_0 := Aside0.mk hl336_0
                            clear hi336_0 hl336_0
                            replace p336 := eq_true p336
                            replace q336 := eq_true q336
                            go_wp2
                            go_roundg k3
                            case measure => have := HJ13.out; have := HK2.out; have := HK3.out; omega
                            case rel => exact ⟨(wrap64 (x12_2 + 1)), (by first | rfl | (simp; done) | (simp [*]; done)), H', ⟨by have := HJ13.out; have := HK2.out; have := HK3.out; omega⟩, ⟨by (with_reducible repeat (first | apply Kd.N_alloc | apply Kd.N_drewN | apply Kd.N_drew)); exact HO_0.out⟩, ⟨by (with_reducible repeat (first | apply Kd.R_alloc | apply Kd.R_drewN | apply Kd.R_drew)); exact HO_1.out⟩, ⟨by (with_reducible repeat (first | apply Kd.R_alloc | apply Kd.R_drewN | apply Kd.R_drew)); exact HO_8.out⟩, ⟨by repeat (first | (with_reducible first | exact HB.out | apply below_alloc | apply pw_below_drewN | apply below_drew1) | exact HB.out)⟩⟩
                      · rw [if_neg c32] at H
                        exact absurd H (by simp)
                    · rw [if_neg c31] at H
                      exact absurd H (by simp)
              · rw [if_neg c30] at H
                have c30b0 : decide (x12_2 < (t320.length : Int)) = false := decide_eq_false c30
                clear c30
                obtain ⟨y348, hy348⟩ : ∃ y_ : List (List Int), y_ = (([] : List (List Int))) := ⟨_, rfl⟩
                replace H : (if y348.length + t320.length < 5864062014805 then ((some (y348 ++ t320 : List (List Int))).bind fun y351 => ((some (([] : List Int) : List Int)).bind fun y354 => (if 0 ≤ (mn (l2.length : Int) 20) then (if (mn (l2.length : Int) 20) ≤ (l2.length : Int) then (if y354.length + (l2.take ((mn (l2.length : Int) 20) : Int).toNat).length < 17592186044416 then (if y351.length < 5864062014805 then ((prop_Unit.f k2 (y351 ++ [(y354 ++ (l2.take ((mn (l2.length : Int) 20) : Int).toNat))]) t321).bind fun bt364 => (if bt364.2 = true then (ashlarlaw08_PropOnce.j3 k2 t319 t326 bt364.1 bt364.2 false) else (ashlarlaw08_PropOnce.j3 k2 t319 t326 bt364.1 bt364.2 ((bt364.1.length : Int) != (t326.length : Int))))) else (none)) else (none)) else (none)) else (none)))) else (none)) = some r := by first | (rw [hy348]; with_reducible exact H) | (have H2_ := (Option.bind_some _ _).symm.trans H; rw [hy348]; with_reducible exact H2_) | (have H2_ := (Option.bind_some _ _).symm.trans H; with_reducible exact H2_) | with_reducible exact H | (rw [hy348]; exact H) | exact H
                have Ny348 := Aside0.mk hy348
                clear hy348
                by_cases c42 : y348.length + t320.length < 5864062014805
                · rw [if_pos c42] at H
                  have LMc42 := Aside0.mk c42
                  clear c42
                  obtain ⟨y351, hy351⟩ : ∃ y_ : List (List Int), y_ = (y348 ++ t320) := ⟨_, rfl⟩
                  replace H : ((some (([] : List Int) : List Int)).bind fun y354 => (if 0 ≤ (mn (l2.length : Int) 20) then (if (mn (l2.length : Int) 20) ≤ (l2.length : Int) then (if y354.length + (l2.take ((mn (l2.length : Int) 20) : Int).toNat).length < 17592186044416 then (if y351.length < 5864062014805 then ((prop_Unit.f k2 (y351 ++ [(y354 ++ (l2.take ((mn (l2.length : Int) 20) : Int).toNat))]) t321).bind fun bt364 => (if bt364.2 = true then (ashlarlaw08_PropOnce.j3 k2 t319 t326 bt364.1 bt364.2 false) else (ashlarlaw08_PropOnce.j3 k2 t319 t326 bt364.1 bt364.2 ((bt364.1.length : Int) != (t326.length : Int))))) else (none)) else (none)) else (none)) else (none))) = some r := by first | (rw [hy351]; with_reducible exact H) | (have H2_ := (Option.bind_some _ _).symm.trans H; rw [hy351]; with_reducible exact H2_) | (have H2_ := (Option.bind_some _ _).symm.trans H; with_reducible exact H2_) | with_reducible exact H | (rw [hy351]; exact H) | exact H
                  have Ny351 := Aside0.mk hy351
                  clear hy351
                  obtain ⟨y354, hy354⟩ : ∃ y_ : List Int, y_ = (([] : List Int)) := ⟨_, rfl⟩
                  replace H : (if 0 ≤ (mn (l2.length : Int) 20) then (if (mn (l2.length : Int) 20) ≤ (l2.length : Int) then (if y354.length + (l2.take ((mn (l2.length : Int) 20) : Int).toNat).length < 17592186044416 then (if y351.length < 5864062014805 then ((prop_Unit.f k2 (y351 ++ [(y354 ++ (l2.take ((mn (l2.length : Int) 20) : Int).toNat))]) t321).bind fun bt364 => (if bt364.2 = true then (ashlarlaw08_PropOnce.j3 k2 t319 t326 bt364.1 bt364.2 false) else (ashlarlaw08_PropOnce.j3 k2 t319 t326 bt364.1 bt364.2 ((bt364.1.length : Int) != (t326.length : Int))))) else (none)) else (none)) else (none)) else (none)) = some r := by first | (rw [hy354]; with_reducible exact H) | (have H2_ := (Option.bind_some _ _).symm.trans H; rw [hy354]; with_reducible exact H2_) | (have H2_ := (Option.bind_some _ _).symm.trans H; with_reducible exact H2_) | with_reducible exact H | (rw [hy354]; exact H) | exact H
                  have Ny354 := Aside0.mk hy354
                  clear hy354
                  obtain ⟨ji43, hji43⟩ : ∃ j_ : Int, (mn (l2.length : Int) 20) = j_ := ⟨_, rfl⟩
                  replace H : (if 0 ≤ (ji43) then (if (ji43) ≤ (l2.length : Int) then (if y354.length + (l2.take ((ji43) : Int).toNat).length < 17592186044416 then (if y351.length < 5864062014805 then ((prop_Unit.f k2 (y351 ++ [(y354 ++ (l2.take ((ji43) : Int).toNat))]) t321).bind fun bt364 => (if bt364.2 = true then (ashlarlaw08_PropOnce.j3 k2 t319 t326 bt364.1 bt364.2 false) else (ashlarlaw08_PropOnce.j3 k2 t319 t326 bt364.1 bt364.2 ((bt364.1.length : Int) != (t326.length : Int))))) else (none)) else (none)) else (none)) else (none)) = some r := by first | (rw [hji43] at H; exact H) | (simp only [hji43] at H ⊢; exact H)
                  have hji43_ : (if 20 < (l2.length : Int) then 20 else (l2.length : Int)) = ji43 := hji43
                  by_cases c44 : 0 ≤ (ji43)
                  · rw [if_pos c44] at H
                    have c44b0 := eq_true c44
                    have c44b1 : decide (0 ≤ (ji43)) = true := decide_eq_true c44
                    clear c44
                    by_cases c45 : (ji43) ≤ (l2.length : Int)
                    · rw [if_pos c45] at H
                      have c45b0 := eq_true c45
                      have c45b1 : decide ((ji43) ≤ (l2.length : Int)) = true := decide_eq_true c45
                      clear c45
                      by_cases c46 : y354.length + (l2.take ((ji43) : Int).toNat).length < 17592186044416
                      · rw [if_pos c46] at H
                        have LMc46 := Aside0.mk c46
                        clear c46
                        obtain ⟨y358, hy358⟩ : ∃ y_ : List Int, y_ = (y354 ++ (l2.take ((ji43) : Int).toNat)) := ⟨_, rfl⟩
                        replace H : (if y351.length < 5864062014805 then ((prop_Unit.f k2 (y351 ++ [y358]) t321).bind fun bt364 => (if bt364.2 = true then (ashlarlaw08_PropOnce.j3 k2 t319 t326 bt364.1 bt364.2 false) else (ashlarlaw08_PropOnce.j3 k2 t319 t326 bt364.1 bt364.2 ((bt364.1.length : Int) != (t326.length : Int))))) else (none)) = some r := by first | (rw [hy358]; with_reducible exact H) | (have H2_ := (Option.bind_some _ _).symm.trans H; rw [hy358]; with_reducible exact H2_) | (have H2_ := (Option.bind_some _ _).symm.trans H; with_reducible exact H2_) | with_reducible exact H | (rw [hy358]; exact H) | exact H
                        have Ny358 := Aside0.mk hy358
                        clear hy358
                        by_cases c47 : y351.length < 5864062014805
                        · rw [if_pos c47] at H
                          have LMc47 := Aside0.mk c47
                          clear c47
                          obtain ⟨y361, hy361⟩ : ∃ y_ : List (List Int), y_ = (y351 ++ [y358]) := ⟨_, rfl⟩
                          replace H : ((prop_Unit.f k2 y361 t321).bind fun bt364 => (if bt364.2 = true then (ashlarlaw08_PropOnce.j3 k2 t319 t326 bt364.1 bt364.2 false) else (ashlarlaw08_PropOnce.j3 k2 t319 t326 bt364.1 bt364.2 ((bt364.1.length : Int) != (t326.length : Int))))) = some r := by first | (rw [hy361]; with_reducible exact H) | (have H2_ := (Option.bind_some _ _).symm.trans H; rw [hy361]; with_reducible exact H2_) | (have H2_ := (Option.bind_some _ _).symm.trans H; with_reducible exact H2_) | with_reducible exact H | (rw [hy361]; exact H) | exact H
                          have Ny361 := Aside0.mk hy361
                          clear hy361
                          replace H := Option.bind_eq_some_iff.mp H
                          obtain ⟨⟨t364, t365⟩, A480, H⟩ := H
                          replace H : (if t365 = true then (ashlarlaw08_PropOnce.j3 k2 t319 t326 t364 t365 false) else (ashlarlaw08_PropOnce.j3 k2 t319 t326 t364 t365 ((t364.length : Int) != (t326.length : Int)))) = some r := H
                          have A48 := Aside0.mk A480
                          clear A480
                          have HC49 := Aside0.mk H
                          clear H
                          try go_wp2
                          have n0_ := Aside0.mk (Kd.N_drew HO_0.out)
                          have n1_ := Aside0.mk (Kd.R_drew HO_1.out)
                          have n2_ := Aside0.mk (Kd.R_drew HO_8.out)
                          have n3_ := Aside0.mk (below_drew1 HB.out)
                          clear HO_0
                          clear HO_1
                          clear HO_8
                          clear HB
                          have HO_0 := n0_
                          have HO_1 := n1_
                          have HO_8 := n2_
                          have HB := n3_
                          clear n0_ n1_ n2_ n3_
                          obtain ⟨i051, hi051, _, hsz51, _⟩ := info_parts info3
                          obtain ⟨hcut51, hA51, hC51⟩ := print_take_of (P := Try.prog) (Value.int .i64) 0 35 3 .i64 Try.underlying35 hi051 hsz51 A2 c2 l2 (ji43) (of_decide_eq_true (by first | (with_reducible assumption) | assumption)) (of_decide_eq_true (by first | (with_reducible assumption) | assumption)) HC2.out
                          have HR357 := Aside0.mk (Kd.C_of_reads (h1 := fun _ => rfl) (hA51 _ (Kd.reads_of_C HR2.out)))
                          have HC357 := Aside0.mk hC51
                          clear hA51 hC51 hi051 hsz51
                          refine start_ (n := 19) (S := fun w' => True) (ds := []) #[false, false, false, false, false, false, false, false, false, false, false, false, false, false, false, false, false, false, false] (by kernel_rfl) rfl rfl trivial (fun hHeld => ?_); refine with_tabW ashlarlaw08_PropOnce.tab22 ashlarlaw08_PropOnce.bits22 (fun HT_ HW_ => ?_)
                          generalize wr.drew = w50 at HO_0 HO_1 HO_8 HB HR357 hHeld ⊢
                          refine pure_ (i := 1) (N := some 114) (v := ?_) (a' := ?_) #[false, true, false, false, false, false, false, false, false, false, false, false, false, false, false, false, false, false, false] rfl rfl (any_of HT_.out (by kernel_rfl)) (fun _ _ _ h => h) (Or.inl ⟨by rfl, ?_⟩) ?_ ?_
                          rotate_left
                          · intro w'
                            go_simp
                            with_reducible rfl
                          rotate_left
                          · simp only [Act.put, List.setIfInBounds_toArray, List.set_cons_zero, List.set_cons_succ, i64_w, i32_w]
                            rfl
                          refine pure_ (i := 4) (N := some 117) (v := ?_) (a' := ?_) #[false, true, false, false, true, false, false, false, false, false, false, false, false, false, false, false, false, false, false] rfl rfl (any_of HT_.out (by kernel_rfl)) (fun _ _ _ h => h) (Or.inl ⟨by rfl, ?_⟩) ?_ ?_
                          rotate_left
                          · intro w'
                            go_simp
                            with_reducible rfl
                          rotate_left
                          · simp only [Act.put, List.setIfInBounds_toArray, List.set_cons_zero, List.set_cons_succ, i64_w, i32_w]
                            rfl
                          refine pure_ (i := 5) (N := some 118) (v := ?_) (a' := ?_) #[false, true, false, false, true, true, false, false, false, false, false, false, false, false, false, false, false, false, false] rfl rfl (any_of HT_.out (by kernel_rfl)) (fun _ _ _ h => h) (Or.inl ⟨by rfl, ?_⟩) ?_ ?_
                          rotate_left
                          · intro w'
                            go_simp
                            with_reducible rfl
                          rotate_left
                          · simp only [Act.put, List.setIfInBounds_toArray, List.set_cons_zero, List.set_cons_succ, i64_w, i32_w]
                            rfl
                          refine pure_ (i := 6) (N := some 119) (v := ?_) (a' := ?_) #[false, true, false, false, true, true, true, false, false, false, false, false, false, false, false, false, false, false, false] rfl rfl (any_of HT_.out (by kernel_rfl)) (fun _ _ _ h => h) (Or.inl ⟨by rfl, ?_⟩) ?_ ?_
                          rotate_left
                          · intro w'
                            go_simp
                            with_reducible rfl
                          rotate_left
                          · simp only [Act.put, List.setIfInBounds_toArray, List.set_cons_zero, List.set_cons_succ, i64_w, i32_w]
                            rfl
                          refine pure_ (i := 7) (N := some 120) (v := ?_) (a' := ?_) #[false, true, false, false, true, true, true, true, false, false, false, false, false, false, false, false, false, false, false] rfl rfl (any_of HT_.out (by kernel_rfl)) (fun _ _ _ h => h) (Or.inl ⟨by rfl, ?_⟩) ?_ ?_
                          rotate_left
                          · intro w'
                            go_simp
                            with_reducible rfl
                          rotate_left
                          · simp only [Act.put, List.setIfInBounds_toArray, List.set_cons_zero, List.set_cons_succ, i64_w, i32_w]
                            rfl
                          refine pure_ (i := 8) (N := some 121) (v := ?_) (a' := ?_) #[false, true, false, false, true, true, true, true, true, false, false, false, false, false, false, false, false, false, false] rfl rfl (any_of HT_.out (by kernel_rfl)) (fun _ _ _ h => h) (Or.inl ⟨by rfl, ?_⟩) ?_ ?_
                          rotate_left
                          · intro w'
                            go_simp
                            with_reducible rfl
                          rotate_left
                          · simp only [Act.put, List.setIfInBounds_toArray, List.set_cons_zero, List.set_cons_succ, i64_w, i32_w]
                            rfl
                          refine pure_ (i := 12) (N := some 125) (v := ?_) (a' := ?_) #[false, true, false, false, true, true, true, true, true, false, false, false, true, false, false, false, false, false, false] rfl rfl (any_of HT_.out (by kernel_rfl)) (fun _ _ _ h => h) (Or.inl ⟨by rfl, ?_⟩) ?_ ?_
                          rotate_left
                          · intro w'
                            go_simp
                            with_reducible rfl
                          rotate_left
                          · simp only [Act.put, List.setIfInBounds_toArray, List.set_cons_zero, List.set_cons_succ, i64_w, i32_w]
                            rfl
                          refine join_ (σ := Value × Value × Value) 9 #[true, true, true, true, true, true, true, true, true, false, false, false, true, false, false, false, false, false, false] (fun s_ => [(113, s_.1), (115, s_.2.1), (116, s_.2.2)]) (fun s_ w' => (Kd.N (Kd.slice 3 (Kd.int .i64)) 35 w' w.heap.size (fun k_ => some k_ ≠ (s_.2.2 : Value).ownBlock ∧ some k_ ≠ (.slice Ao18 t321.length co18 : Value).ownBlock ∧ some k_ ≠ (.slice Ao20 t326.length co20 : Value).ownBlock) s_.2.1 y351) ∧ (Kd.R (Kd.int .i64) 3 w' w.heap.size (fun _ => True) s_.2.2 y354) ∧ (Kd.N (Kd.slice 3 (Kd.int .i64)) 35 w' w.heap.size (fun k_ => some k_ ≠ (s_.2.1 : Value).ownBlock ∧ some k_ ≠ (s_.2.2 : Value).ownBlock ∧ some k_ ≠ (.slice Ao18 t321.length co18 : Value).ownBlock ∧ some k_ ≠ (.slice Ao20 t326.length co20 : Value).ownBlock) (.slice Ao17 t320.length co17) t320) ∧ (Kd.R (Kd.int .i8) 30 w' w.heap.size (fun k_ => some k_ ≠ (.slice Ao20 t326.length co20 : Value).ownBlock) (.slice Ao18 t321.length co18) t321) ∧ (Kd.R (Kd.int .i8) 30 w' w.heap.size (fun k_ => some k_ ≠ (.slice Ao18 t321.length co18 : Value).ownBlock) (.slice Ao20 t326.length co20) t326) ∧ (Below w.heap.size w w')) ?_ ?_
                          rotate_left
                          · intro hCont
                            refine two_ (i := 0) (j := 3) (Ni := some 113) (Nj := some 116) #[true, true, false, false, true, true, true, true, true, false, false, false, true, false, false, false, false, false, false] #[false, true, false, true, true, true, true, true, true, false, false, false, true, false, false, false, false, false, false] rfl rfl rfl rfl (two_of HT_.out (by kernel_rfl)) (by decide) (by decide) (fun K hK => ?_) (fun K hK => ?_)
                            · skip
                              refine Kd.N_lit_step (Kd.slice 3 (Kd.int .i64)) _ 35 ?hg (N' := 113) ?hd (xs := ([] : List (List Int))) (inner := []) (ok := (fun k_ => some k_ ≠ (.slice Ao17 t320.length co17 : Value).ownBlock ∧ some k_ ≠ (.slice Ao18 t321.length co18 : Value).ownBlock ∧ some k_ ≠ (.slice Ao20 t326.length co20 : Value).ownBlock)) (okp := (fun k_ => some k_ ≠ (.slice Ao17 t320.length co17 : Value).ownBlock ∧ some k_ ≠ (.slice Ao18 t321.length co18 : Value).ownBlock ∧ some k_ ≠ (.slice Ao20 t326.length co20 : Value).ownBlock)) ?hr ?hp (fun _ hk => hk) ((show ∀ k_, w50.heap.size ≤ k_ → (fun k_ => some k_ ≠ (.slice Ao17 t320.length co17 : Value).ownBlock ∧ some k_ ≠ (.slice Ao18 t321.length co18 : Value).ownBlock ∧ some k_ ≠ (.slice Ao20 t326.length co20 : Value).ownBlock) k_ from fun k_ hk => ⟨Kd.fresh' (Kd.N_lt (by (with_reducible repeat (first | apply Kd.N_alloc | apply Kd.N_drewN | apply Kd.N_drew)); exact HO_0.out)) k_ hk, Kd.fresh' (Kd.R_lt (by (with_reducible repeat (first | apply Kd.R_alloc | apply Kd.R_drewN | apply Kd.R_drew)); exact HO_1.out)) k_ hk, Kd.fresh' (Kd.R_lt (by (with_reducible repeat (first | apply Kd.R_alloc | apply Kd.R_drewN | apply Kd.R_drew)); exact HO_8.out)) k_ hk⟩) _ (Nat.le_refl _)) (Below.refl _ _) (Nat.le_refl _) (by simp) ?_; (case hd => rfl); (case hg => rfl); (case hr => first | (go_simp; done) | (go_simp; rfl)); (case hp => exact (Reps.none _ _))
                              intro v349 w52 ho53 hb hg_ hnew_
                              clear hg_ hnew_
                              (first | rw [← Ny348.out] at ho53 | (simp only [Int.reduceToNat] at ho53; rw [← Ny348.out] at ho53))
                              have n0_ := Aside0.mk (Kd.N_elder' (by (with_reducible repeat (first | apply Kd.N_alloc | apply Kd.N_drewN | apply Kd.N_drew)); exact HO_0.out) (Kd.N_base ho53) hb)
                              have n1_ := Aside0.mk (Kd.R_below (by (with_reducible repeat (first | apply Kd.R_alloc | apply Kd.R_drewN | apply Kd.R_drew)); exact HO_1.out) hb)
                              have n2_ := Aside0.mk (Kd.R_below (by (with_reducible repeat (first | apply Kd.R_alloc | apply Kd.R_drewN | apply Kd.R_drew)); exact HO_8.out) hb)
                              have n3_ := Aside0.mk (Kd.N_lower ho53 (below_size (by repeat (first | (with_reducible first | exact HB.out | apply below_alloc | apply pw_below_drewN | apply below_drew1) | exact HB.out))))
                              have n4_ := Aside0.mk (below_step (by repeat (first | (with_reducible first | exact HB.out | apply below_alloc | apply pw_below_drewN | apply below_drew1) | exact HB.out)) hb)
                              clear HO_0
                              clear HO_1
                              clear HO_8
                              clear HB
                              have HO_0 := n0_
                              have HO_1 := n1_
                              have HO_8 := n2_
                              have HO350 := n3_
                              have HB := n4_
                              clear n0_ n1_ n2_ n3_ n4_
                              clear hb ho53
                              refine hK.out _ _ trivial (fun hHeld => ?_)
                              clear hK K
                              refine norm_ (a' := ?_) ?_ ?_
                              rotate_left
                              · show Act.put _ (some 113) _ = _
                                simp only [Act.put, List.setIfInBounds_toArray, List.set_cons_zero, List.set_cons_succ, i64_w, i32_w]
                                rfl
                              refine two_ (i := 2) (j := 3) (Ni := some 115) (Nj := some 116) #[true, true, true, false, true, true, true, true, true, false, false, false, true, false, false, false, false, false, false] #[true, true, false, true, true, true, true, true, true, false, false, false, true, false, false, false, false, false, false] rfl rfl rfl rfl (two_of HT_.out (by kernel_rfl)) (by decide) (by decide) (fun K hK => ?_) (fun K hK => ?_)
                              · skip
                                refine Kd.N_append_rows_step (Kd.slice 3 (Kd.int .i64)) (w0 := w) w.heap.size (by rfl) (.tmp 113) (.tmp 114) 22 35 (.slice none 0 0) 24 rfl Try.underlying22 info35 rfl (by decide) (by omega) v349 y348 t320 _ _ _ (fun k_ => some k_ ≠ (.slice Ao18 t321.length co18 : Value).ownBlock ∧ some k_ ≠ (.slice Ao20 t326.length co20 : Value).ownBlock) (fun k_ => ((fun k_ => some k_ ≠ (.slice Ao18 t321.length co18 : Value).ownBlock ∧ some k_ ≠ (.slice Ao20 t326.length co20 : Value).ownBlock)) k_ ∧ some k_ ≠ (v349 : Value).ownBlock) rfl rfl ?aO ?aR (fun _ hk => hk) ?aF ?aB ?aS ?aL ?_
                                (case aR => exact (by skip; exact Kd.N_F (Kd.N_mono (ok' := (fun k_ => ((fun k_ => some k_ ≠ (.slice Ao18 t321.length co18 : Value).ownBlock ∧ some k_ ≠ (.slice Ao20 t326.length co20 : Value).ownBlock)) k_ ∧ some k_ ≠ (v349 : Value).ownBlock)) (HO_0.out) (fun k_ hk => ⟨⟨hk.1.1, hk.1.2⟩, hk.2⟩))))
                                (case aB => exact (by repeat (first | (with_reducible first | exact HB.out | apply below_alloc | apply pw_below_drewN | apply below_drew1) | exact HB.out)))
                                (case aF => exact (fun k_ hk => ⟨Kd.fresh' (Kd.R_lt (by (with_reducible repeat (first | apply Kd.R_alloc | apply Kd.R_drewN | apply Kd.R_drew)); exact HO_1.out)) k_ hk, Kd.fresh' (Kd.R_lt (by (with_reducible repeat (first | apply Kd.R_alloc | apply Kd.R_drewN | apply Kd.R_drew)); exact HO_8.out)) k_ hk⟩))
                                (case aO => exact (by (with_reducible repeat (first | apply Kd.N_alloc | apply Kd.N_drewN | apply Kd.N_drew)); exact Kd.N_mono HO350.out (fun _ hk => ⟨hk.2.1, hk.2.2⟩)))
                                (case aS => exact (below_size (by repeat (first | (with_reducible first | exact HB.out | apply below_alloc | apply pw_below_drewN | apply below_drew1) | exact HB.out))))
                                (case aL => have := LMc42.out; omega)
                                intro v352 w54 ho hb hg hat
                                rw [← Ny351.out] at ho
                                have n0_ := Aside0.mk (Kd.N_afterv (ok := (fun k_ => some k_ ≠ (.slice Ao18 t321.length co18 : Value).ownBlock ∧ some k_ ≠ (.slice Ao20 t326.length co20 : Value).ownBlock)) (by (with_reducible repeat (first | apply Kd.N_alloc | apply Kd.N_drewN | apply Kd.N_drew)); exact HO_0.out) hg hat)
                                have n1_ := Aside0.mk (Kd.R_over' (by (with_reducible repeat (first | apply Kd.R_alloc | apply Kd.R_drewN | apply Kd.R_drew)); exact HO_1.out) (Kd.N_typed (by (with_reducible repeat (first | apply Kd.N_alloc | apply Kd.N_drewN | apply Kd.N_drew)); exact HO350.out)) (by decide) hg)
                                have n2_ := Aside0.mk (Kd.R_over' (by (with_reducible repeat (first | apply Kd.R_alloc | apply Kd.R_drewN | apply Kd.R_drew)); exact HO_8.out) (Kd.N_typed (by (with_reducible repeat (first | apply Kd.N_alloc | apply Kd.N_drewN | apply Kd.N_drew)); exact HO350.out)) (by decide) hg)
                                have n3_ := Aside0.mk (hb)
                                have n4_ := Aside0.mk (ho)
                                clear HO_0
                                clear HO_1
                                clear HO_8
                                clear HB
                                clear HO350
                                have HO_0 := n0_
                                have HO_1 := n1_
                                have HO_8 := n2_
                                have HB := n3_
                                have HO353 := n4_
                                clear n0_ n1_ n2_ n3_ n4_
                                clear ho hb hg hat
                                refine hK.out _ _ trivial (fun hHeld => ?_)
                                clear hK K
                                refine norm_ (a' := ?_) ?_ ?_
                                rotate_left
                                · show Act.put _ (some 115) _ = _
                                  simp only [Act.put, List.setIfInBounds_toArray, List.set_cons_zero, List.set_cons_succ, i64_w, i32_w]
                                  rfl
                                refine one_ (i := 3) (N := some 116) #[true, true, true, true, true, true, true, true, true, false, false, false, true, false, false, false, false, false, false] rfl rfl (one_of HT_.out (by kernel_rfl)) (by decide) (fun K hK => ?_)
                                refine Kd.R_lit_step (Kd.int .i64) _ 3 ?hg (N := 116) ?hd (xs := ([] : List Int)) (inner := []) (ok := fun _ => True) (okp := fun _ => True) ?hr ?hp (fun _ hk => hk) trivial (Below.refl _ _) (Nat.le_refl _) (by simp) ?_; (case hd => rfl); (case hg => rfl); (case hr => first | (go_simp; done) | (go_simp; rfl)); (case hp => exact (Reps.none _ _))
                                intro v355 w55 ho56 hb hg_ hnew_
                                clear hg_ hnew_
                                (first | rw [← Ny354.out] at ho56 | (simp only [Int.reduceToNat] at ho56; rw [← Ny354.out] at ho56))
                                have n0_ := Aside0.mk (Kd.N_elder' (by (with_reducible repeat (first | apply Kd.N_alloc | apply Kd.N_drewN | apply Kd.N_drew)); exact HO_0.out) (Kd.R_base ho56) hb)
                                have n1_ := Aside0.mk (Kd.R_below (by (with_reducible repeat (first | apply Kd.R_alloc | apply Kd.R_drewN | apply Kd.R_drew)); exact HO_1.out) hb)
                                have n2_ := Aside0.mk (Kd.R_below (by (with_reducible repeat (first | apply Kd.R_alloc | apply Kd.R_drewN | apply Kd.R_drew)); exact HO_8.out) hb)
                                have n3_ := Aside0.mk (Kd.N_elder' (by (with_reducible repeat (first | apply Kd.N_alloc | apply Kd.N_drewN | apply Kd.N_drew)); exact HO353.out) (Kd.R_base ho56) hb)
                                have n4_ := Aside0.mk (Kd.R_lower ho56 (below_size (by repeat (first | (with_reducible first | exact HB.out | apply below_alloc | apply pw_below_drewN | apply below_drew1) | exact HB.out))))
                                have n5_ := Aside0.mk (below_step (by repeat (first | (with_reducible first | exact HB.out | apply below_alloc | apply pw_below_drewN | apply below_drew1) | exact HB.out)) hb)
                                clear HO_0
                                clear HO_1
                                clear HO_8
                                clear HO353
                                clear HB
                                have HO_0 := n0_
                                have HO_1 := n1_
                                have HO_8 := n2_
                                have HO353 := n3_
                                have HO356 := n4_
                                have HB := n5_
                                clear n0_ n1_ n2_ n3_ n4_ n5_
                                clear hb ho56
                                refine hK.out _ _ trivial (fun hHeld => ?_)
                                clear hK K
                                refine norm_ (a' := ?_) ?_ ?_
                                rotate_left
                                · show Act.put _ (some 116) _ = _
                                  simp only [Act.put, List.setIfInBounds_toArray, List.set_cons_zero, List.set_cons_succ, i64_w, i32_w]
                                  rfl
                                exact norm_ (by simp only [putAll, Act.put, List.setIfInBounds_toArray, List.set_cons_zero, List.set_cons_succ]) (hCont (v349, v352, v355) _ ⟨(by (with_reducible repeat (first | apply Kd.N_alloc | apply Kd.N_drewN | apply Kd.N_drew)); exact Kd.N_mono HO353.out (fun _ hk => ⟨hk.2, ⟨hk.1.1, hk.1.2⟩⟩)), (by (with_reducible repeat (first | apply Kd.R_alloc | apply Kd.R_drewN | apply Kd.R_drew)); exact HO356.out), (by (with_reducible repeat (first | apply Kd.N_alloc | apply Kd.N_drewN | apply Kd.N_drew)); exact Kd.N_mono HO_0.out (fun _ hk => ⟨hk.1.2, ⟨hk.2, ⟨hk.1.1.1, hk.1.1.2⟩⟩⟩)), (by (with_reducible repeat (first | apply Kd.R_alloc | apply Kd.R_drewN | apply Kd.R_drew)); exact HO_1.out), (by (with_reducible repeat (first | apply Kd.R_alloc | apply Kd.R_drewN | apply Kd.R_drew)); exact HO_8.out), (by repeat (first | (with_reducible first | exact HB.out | apply below_alloc | apply pw_below_drewN | apply below_drew1) | exact HB.out))⟩)
                              · skip
                                refine Kd.R_lit_step (Kd.int .i64) _ 3 ?hg (N := 116) ?hd (xs := ([] : List Int)) (inner := []) (ok := fun _ => True) (okp := fun _ => True) ?hr ?hp (fun _ hk => hk) trivial (Below.refl _ _) (Nat.le_refl _) (by simp) ?_; (case hd => rfl); (case hg => rfl); (case hr => first | (go_simp; done) | (go_simp; rfl)); (case hp => exact (Reps.none _ _))
                                intro v355 w54 ho55 hb hg_ hnew_
                                clear hg_ hnew_
                                (first | rw [← Ny354.out] at ho55 | (simp only [Int.reduceToNat] at ho55; rw [← Ny354.out] at ho55))
                                have n0_ := Aside0.mk (Kd.N_elder' (by (with_reducible repeat (first | apply Kd.N_alloc | apply Kd.N_drewN | apply Kd.N_drew)); exact HO_0.out) (Kd.R_base ho55) hb)
                                have n1_ := Aside0.mk (Kd.R_below (by (with_reducible repeat (first | apply Kd.R_alloc | apply Kd.R_drewN | apply Kd.R_drew)); exact HO_1.out) hb)
                                have n2_ := Aside0.mk (Kd.R_below (by (with_reducible repeat (first | apply Kd.R_alloc | apply Kd.R_drewN | apply Kd.R_drew)); exact HO_8.out) hb)
                                have n3_ := Aside0.mk (Kd.N_elder' (by (with_reducible repeat (first | apply Kd.N_alloc | apply Kd.N_drewN | apply Kd.N_drew)); exact HO350.out) (Kd.R_base ho55) hb)
                                have n4_ := Aside0.mk (Kd.R_lower ho55 (below_size (by repeat (first | (with_reducible first | exact HB.out | apply below_alloc | apply pw_below_drewN | apply below_drew1) | exact HB.out))))
                                have n5_ := Aside0.mk (below_step (by repeat (first | (with_reducible first | exact HB.out | apply below_alloc | apply pw_below_drewN | apply below_drew1) | exact HB.out)) hb)
                                clear HO_0
                                clear HO_1
                                clear HO_8
                                clear HO350
                                clear HB
                                have HO_0 := n0_
                                have HO_1 := n1_
                                have HO_8 := n2_
                                have HO350 := n3_
                                have HO356 := n4_
                                have HB := n5_
                                clear n0_ n1_ n2_ n3_ n4_ n5_
                                clear hb ho55
                                refine hK.out _ _ trivial (fun hHeld => ?_)
                                clear hK K
                                refine norm_ (a' := ?_) ?_ ?_
                                rotate_left
                                · show Act.put _ (some 116) _ = _
                                  simp only [Act.put, List.setIfInBounds_toArray, List.set_cons_zero, List.set_cons_succ, i64_w, i32_w]
                                  rfl
                                refine one_ (i := 2) (N := some 115) #[true, true, true, true, true, true, true, true, true, false, false, false, true, false, false, false, false, false, false] rfl rfl (one_of HT_.out (by kernel_rfl)) (by decide) (fun K hK => ?_)
                                refine Kd.N_append_rows_step (Kd.slice 3 (Kd.int .i64)) (w0 := w) w.heap.size (by rfl) (.tmp 113) (.tmp 114) 22 35 (.slice none 0 0) 24 rfl Try.underlying22 info35 rfl (by decide) (by omega) v349 y348 t320 _ _ _ (fun k_ => some k_ ≠ (.slice Ao18 t321.length co18 : Value).ownBlock ∧ some k_ ≠ (.slice Ao20 t326.length co20 : Value).ownBlock ∧ some k_ ≠ (v355 : Value).ownBlock) (fun k_ => ((fun k_ => some k_ ≠ (.slice Ao18 t321.length co18 : Value).ownBlock ∧ some k_ ≠ (.slice Ao20 t326.length co20 : Value).ownBlock ∧ some k_ ≠ (v355 : Value).ownBlock)) k_ ∧ some k_ ≠ (v349 : Value).ownBlock) rfl rfl ?aO ?aR (fun _ hk => hk) ?aF ?aB ?aS ?aL ?_
                                (case aR => exact (by skip; exact Kd.N_F (Kd.N_mono (ok' := (fun k_ => ((fun k_ => some k_ ≠ (.slice Ao18 t321.length co18 : Value).ownBlock ∧ some k_ ≠ (.slice Ao20 t326.length co20 : Value).ownBlock ∧ some k_ ≠ (v355 : Value).ownBlock)) k_ ∧ some k_ ≠ (v349 : Value).ownBlock)) (HO_0.out) (fun k_ hk => ⟨⟨hk.1.1.1, ⟨hk.1.1.2, hk.2⟩⟩, hk.1.2⟩))))
                                (case aB => exact (by repeat (first | (with_reducible first | exact HB.out | apply below_alloc | apply pw_below_drewN | apply below_drew1) | exact HB.out)))
                                (case aF => exact (fun k_ hk => ⟨Kd.fresh' (Kd.R_lt (by (with_reducible repeat (first | apply Kd.R_alloc | apply Kd.R_drewN | apply Kd.R_drew)); exact HO_1.out)) k_ hk, Kd.fresh' (Kd.R_lt (by (with_reducible repeat (first | apply Kd.R_alloc | apply Kd.R_drewN | apply Kd.R_drew)); exact HO_8.out)) k_ hk, Kd.fresh' (Kd.R_lt (by (with_reducible repeat (first | apply Kd.R_alloc | apply Kd.R_drewN | apply Kd.R_drew)); exact HO356.out)) k_ hk⟩))
                                (case aO => exact (by (with_reducible repeat (first | apply Kd.N_alloc | apply Kd.N_drewN | apply Kd.N_drew)); exact Kd.N_mono HO350.out (fun _ hk => ⟨hk.1.2.1, ⟨hk.1.2.2, hk.2⟩⟩)))
                                (case aS => exact (below_size (by repeat (first | (with_reducible first | exact HB.out | apply below_alloc | apply pw_below_drewN | apply below_drew1) | exact HB.out))))
                                (case aL => have := LMc42.out; omega)
                                intro v352 w56 ho hb hg hat
                                rw [← Ny351.out] at ho
                                have n0_ := Aside0.mk (Kd.N_afterv (ok := (fun k_ => some k_ ≠ (.slice Ao18 t321.length co18 : Value).ownBlock ∧ some k_ ≠ (.slice Ao20 t326.length co20 : Value).ownBlock ∧ some k_ ≠ (v355 : Value).ownBlock)) (by (with_reducible repeat (first | apply Kd.N_alloc | apply Kd.N_drewN | apply Kd.N_drew)); exact Kd.N_mono HO_0.out (fun _ hk => ⟨⟨hk.1.1.1, ⟨hk.1.1.2, hk.2⟩⟩, hk.1.2⟩)) hg hat)
                                have n1_ := Aside0.mk (Kd.R_over' (by (with_reducible repeat (first | apply Kd.R_alloc | apply Kd.R_drewN | apply Kd.R_drew)); exact HO_1.out) (Kd.N_typed (by (with_reducible repeat (first | apply Kd.N_alloc | apply Kd.N_drewN | apply Kd.N_drew)); exact HO350.out)) (by decide) hg)
                                have n2_ := Aside0.mk (Kd.R_over' (by (with_reducible repeat (first | apply Kd.R_alloc | apply Kd.R_drewN | apply Kd.R_drew)); exact HO_8.out) (Kd.N_typed (by (with_reducible repeat (first | apply Kd.N_alloc | apply Kd.N_drewN | apply Kd.N_drew)); exact HO350.out)) (by decide) hg)
                                have n3_ := Aside0.mk (Kd.R_over' (by (with_reducible repeat (first | apply Kd.R_alloc | apply Kd.R_drewN | apply Kd.R_drew)); exact HO356.out) (Kd.N_typed (by (with_reducible repeat (first | apply Kd.N_alloc | apply Kd.N_drewN | apply Kd.N_drew)); exact HO350.out)) (by decide) hg)
                                have n4_ := Aside0.mk (hb)
                                have n5_ := Aside0.mk (ho)
                                clear HO_0
                                clear HO_1
                                clear HO_8
                                clear HO356
                                clear HB
                                clear HO350
                                have HO_0 := n0_
                                have HO_1 := n1_
                                have HO_8 := n2_
                                have HO356 := n3_
                                have HB := n4_
                                have HO353 := n5_
                                clear n0_ n1_ n2_ n3_ n4_ n5_
                                clear ho hb hg hat
                                refine hK.out _ _ trivial (fun hHeld => ?_)
                                clear hK K
                                refine norm_ (a' := ?_) ?_ ?_
                                rotate_left
                                · show Act.put _ (some 115) _ = _
                                  simp only [Act.put, List.setIfInBounds_toArray, List.set_cons_zero, List.set_cons_succ, i64_w, i32_w]
                                  rfl
                                exact norm_ (by simp only [putAll, Act.put, List.setIfInBounds_toArray, List.set_cons_zero, List.set_cons_succ]) (hCont (v349, v352, v355) _ ⟨(by (with_reducible repeat (first | apply Kd.N_alloc | apply Kd.N_drewN | apply Kd.N_drew)); exact Kd.N_mono HO353.out (fun _ hk => ⟨hk.2.2, ⟨hk.1, hk.2.1⟩⟩)), (by (with_reducible repeat (first | apply Kd.R_alloc | apply Kd.R_drewN | apply Kd.R_drew)); exact HO356.out), (by (with_reducible repeat (first | apply Kd.N_alloc | apply Kd.N_drewN | apply Kd.N_drew)); exact Kd.N_mono HO_0.out (fun _ hk => ⟨hk.2, ⟨hk.1.2.2, ⟨hk.1.1, hk.1.2.1⟩⟩⟩)), (by (with_reducible repeat (first | apply Kd.R_alloc | apply Kd.R_drewN | apply Kd.R_drew)); exact HO_1.out), (by (with_reducible repeat (first | apply Kd.R_alloc | apply Kd.R_drewN | apply Kd.R_drew)); exact HO_8.out), (by repeat (first | (with_reducible first | exact HB.out | apply below_alloc | apply pw_below_drewN | apply below_drew1) | exact HB.out))⟩)
                            · skip
                              refine Kd.R_lit_step (Kd.int .i64) _ 3 ?hg (N := 116) ?hd (xs := ([] : List Int)) (inner := []) (ok := fun _ => True) (okp := fun _ => True) ?hr ?hp (fun _ hk => hk) trivial (Below.refl _ _) (Nat.le_refl _) (by simp) ?_; (case hd => rfl); (case hg => rfl); (case hr => first | (go_simp; done) | (go_simp; rfl)); (case hp => exact (Reps.none _ _))
                              intro v355 w52 ho53 hb hg_ hnew_
                              clear hg_ hnew_
                              (first | rw [← Ny354.out] at ho53 | (simp only [Int.reduceToNat] at ho53; rw [← Ny354.out] at ho53))
                              have n0_ := Aside0.mk (Kd.N_elder' (by (with_reducible repeat (first | apply Kd.N_alloc | apply Kd.N_drewN | apply Kd.N_drew)); exact HO_0.out) (Kd.R_base ho53) hb)
                              have n1_ := Aside0.mk (Kd.R_below (by (with_reducible repeat (first | apply Kd.R_alloc | apply Kd.R_drewN | apply Kd.R_drew)); exact HO_1.out) hb)
                              have n2_ := Aside0.mk (Kd.R_below (by (with_reducible repeat (first | apply Kd.R_alloc | apply Kd.R_drewN | apply Kd.R_drew)); exact HO_8.out) hb)
                              have n3_ := Aside0.mk (Kd.R_lower ho53 (below_size (by repeat (first | (with_reducible first | exact HB.out | apply below_alloc | apply pw_below_drewN | apply below_drew1) | exact HB.out))))
                              have n4_ := Aside0.mk (below_step (by repeat (first | (with_reducible first | exact HB.out | apply below_alloc | apply pw_below_drewN | apply below_drew1) | exact HB.out)) hb)
                              clear HO_0
                              clear HO_1
                              clear HO_8
                              clear HB
                              have HO_0 := n0_
                              have HO_1 := n1_
                              have HO_8 := n2_
                              have HO356 := n3_
                              have HB := n4_
                              clear n0_ n1_ n2_ n3_ n4_
                              clear hb ho53
                              refine hK.out _ _ trivial (fun hHeld => ?_)
                              clear hK K
                              refine norm_ (a' := ?_) ?_ ?_
                              rotate_left
                              · show Act.put _ (some 116) _ = _
                                simp only [Act.put, List.setIfInBounds_toArray, List.set_cons_zero, List.set_cons_succ, i64_w, i32_w]
                                rfl
                              refine one_ (i := 0) (N := some 113) #[true, true, false, true, true, true, true, true, true, false, false, false, true, false, false, false, false, false, false] rfl rfl (one_of HT_.out (by kernel_rfl)) (by decide) (fun K hK => ?_)
                              refine Kd.N_lit_step (Kd.slice 3 (Kd.int .i64)) _ 35 ?hg (N' := 113) ?hd (xs := ([] : List (List Int))) (inner := []) (ok := (fun k_ => some k_ ≠ (.slice Ao17 t320.length co17 : Value).ownBlock ∧ some k_ ≠ (.slice Ao18 t321.length co18 : Value).ownBlock ∧ some k_ ≠ (.slice Ao20 t326.length co20 : Value).ownBlock ∧ some k_ ≠ (v355 : Value).ownBlock)) (okp := (fun k_ => some k_ ≠ (.slice Ao17 t320.length co17 : Value).ownBlock ∧ some k_ ≠ (.slice Ao18 t321.length co18 : Value).ownBlock ∧ some k_ ≠ (.slice Ao20 t326.length co20 : Value).ownBlock ∧ some k_ ≠ (v355 : Value).ownBlock)) ?hr ?hp (fun _ hk => hk) ((show ∀ k_, w52.heap.size ≤ k_ → (fun k_ => some k_ ≠ (.slice Ao17 t320.length co17 : Value).ownBlock ∧ some k_ ≠ (.slice Ao18 t321.length co18 : Value).ownBlock ∧ some k_ ≠ (.slice Ao20 t326.length co20 : Value).ownBlock ∧ some k_ ≠ (v355 : Value).ownBlock) k_ from fun k_ hk => ⟨Kd.fresh' (Kd.N_lt (by (with_reducible repeat (first | apply Kd.N_alloc | apply Kd.N_drewN | apply Kd.N_drew)); exact HO_0.out)) k_ hk, Kd.fresh' (Kd.R_lt (by (with_reducible repeat (first | apply Kd.R_alloc | apply Kd.R_drewN | apply Kd.R_drew)); exact HO_1.out)) k_ hk, Kd.fresh' (Kd.R_lt (by (with_reducible repeat (first | apply Kd.R_alloc | apply Kd.R_drewN | apply Kd.R_drew)); exact HO_8.out)) k_ hk, Kd.fresh' (Kd.R_lt (by (with_reducible repeat (first | apply Kd.R_alloc | apply Kd.R_drewN | apply Kd.R_drew)); exact HO356.out)) k_ hk⟩) _ (Nat.le_refl _)) (Below.refl _ _) (Nat.le_refl _) (by simp) ?_; (case hd => rfl); (case hg => rfl); (case hr => first | (go_simp; done) | (go_simp; rfl)); (case hp => exact (Reps.none _ _))
                              intro v349 w54 ho55 hb hg_ hnew_
                              clear hg_ hnew_
                              (first | rw [← Ny348.out] at ho55 | (simp only [Int.reduceToNat] at ho55; rw [← Ny348.out] at ho55))
                              have n0_ := Aside0.mk (Kd.N_elder' (by (with_reducible repeat (first | apply Kd.N_alloc | apply Kd.N_drewN | apply Kd.N_drew)); exact HO_0.out) (Kd.N_base ho55) hb)
                              have n1_ := Aside0.mk (Kd.R_below (by (with_reducible repeat (first | apply Kd.R_alloc | apply Kd.R_drewN | apply Kd.R_drew)); exact HO_1.out) hb)
                              have n2_ := Aside0.mk (Kd.R_below (by (with_reducible repeat (first | apply Kd.R_alloc | apply Kd.R_drewN | apply Kd.R_drew)); exact HO_8.out) hb)
                              have n3_ := Aside0.mk (Kd.R_below (by (with_reducible repeat (first | apply Kd.R_alloc | apply Kd.R_drewN | apply Kd.R_drew)); exact HO356.out) hb)
                              have n4_ := Aside0.mk (Kd.N_lower ho55 (below_size (by repeat (first | (with_reducible first | exact HB.out | apply below_alloc | apply pw_below_drewN | apply below_drew1) | exact HB.out))))
                              have n5_ := Aside0.mk (below_step (by repeat (first | (with_reducible first | exact HB.out | apply below_alloc | apply pw_below_drewN | apply below_drew1) | exact HB.out)) hb)
                              clear HO_0
                              clear HO_1
                              clear HO_8
                              clear HO356
                              clear HB
                              have HO_0 := n0_
                              have HO_1 := n1_
                              have HO_8 := n2_
                              have HO356 := n3_
                              have HO350 := n4_
                              have HB := n5_
                              clear n0_ n1_ n2_ n3_ n4_ n5_
                              clear hb ho55
                              refine hK.out _ _ trivial (fun hHeld => ?_)
                              clear hK K
                              refine norm_ (a' := ?_) ?_ ?_
                              rotate_left
                              · show Act.put _ (some 113) _ = _
                                simp only [Act.put, List.setIfInBounds_toArray, List.set_cons_zero, List.set_cons_succ, i64_w, i32_w]
                                rfl
                              refine one_ (i := 2) (N := some 115) #[true, true, true, true, true, true, true, true, true, false, false, false, true, false, false, false, false, false, false] rfl rfl (one_of HT_.out (by kernel_rfl)) (by decide) (fun K hK => ?_)
                              refine Kd.N_append_rows_step (Kd.slice 3 (Kd.int .i64)) (w0 := w) w.heap.size (by rfl) (.tmp 113) (.tmp 114) 22 35 (.slice none 0 0) 24 rfl Try.underlying22 info35 rfl (by decide) (by omega) v349 y348 t320 _ _ _ (fun k_ => some k_ ≠ (.slice Ao18 t321.length co18 : Value).ownBlock ∧ some k_ ≠ (.slice Ao20 t326.length co20 : Value).ownBlock ∧ some k_ ≠ (v355 : Value).ownBlock) (fun k_ => ((fun k_ => some k_ ≠ (.slice Ao18 t321.length co18 : Value).ownBlock ∧ some k_ ≠ (.slice Ao20 t326.length co20 : Value).ownBlock ∧ some k_ ≠ (v355 : Value).ownBlock)) k_ ∧ some k_ ≠ (v349 : Value).ownBlock) rfl rfl ?aO ?aR (fun _ hk => hk) ?aF ?aB ?aS ?aL ?_
                              (case aR => exact (by skip; exact Kd.N_F (Kd.N_mono (ok' := (fun k_ => ((fun k_ => some k_ ≠ (.slice Ao18 t321.length co18 : Value).ownBlock ∧ some k_ ≠ (.slice Ao20 t326.length co20 : Value).ownBlock ∧ some k_ ≠ (v355 : Value).ownBlock)) k_ ∧ some k_ ≠ (v349 : Value).ownBlock)) (HO_0.out) (fun k_ hk => ⟨⟨hk.1.1.1, ⟨hk.1.1.2, hk.1.2⟩⟩, hk.2⟩))))
                              (case aB => exact (by repeat (first | (with_reducible first | exact HB.out | apply below_alloc | apply pw_below_drewN | apply below_drew1) | exact HB.out)))
                              (case aF => exact (fun k_ hk => ⟨Kd.fresh' (Kd.R_lt (by (with_reducible repeat (first | apply Kd.R_alloc | apply Kd.R_drewN | apply Kd.R_drew)); exact HO_1.out)) k_ hk, Kd.fresh' (Kd.R_lt (by (with_reducible repeat (first | apply Kd.R_alloc | apply Kd.R_drewN | apply Kd.R_drew)); exact HO_8.out)) k_ hk, Kd.fresh' (Kd.R_lt (by (with_reducible repeat (first | apply Kd.R_alloc | apply Kd.R_drewN | apply Kd.R_drew)); exact HO356.out)) k_ hk⟩))
                              (case aO => exact (by (with_reducible repeat (first | apply Kd.N_alloc | apply Kd.N_drewN | apply Kd.N_drew)); exact Kd.N_mono HO350.out (fun _ hk => ⟨hk.2.1, ⟨hk.2.2.1, hk.2.2.2⟩⟩)))
                              (case aS => exact (below_size (by repeat (first | (with_reducible first | exact HB.out | apply below_alloc | apply pw_below_drewN | apply below_drew1) | exact HB.out))))
                              (case aL => have := LMc42.out; omega)
                              intro v352 w56 ho hb hg hat
                              rw [← Ny351.out] at ho
                              have n0_ := Aside0.mk (Kd.N_afterv (ok := (fun k_ => some k_ ≠ (.slice Ao18 t321.length co18 : Value).ownBlock ∧ some k_ ≠ (.slice Ao20 t326.length co20 : Value).ownBlock ∧ some k_ ≠ (v355 : Value).ownBlock)) (by (with_reducible repeat (first | apply Kd.N_alloc | apply Kd.N_drewN | apply Kd.N_drew)); exact Kd.N_mono HO_0.out (fun _ hk => ⟨⟨hk.1.1.1, ⟨hk.1.1.2, hk.1.2⟩⟩, hk.2⟩)) hg hat)
                              have n1_ := Aside0.mk (Kd.R_over' (by (with_reducible repeat (first | apply Kd.R_alloc | apply Kd.R_drewN | apply Kd.R_drew)); exact HO_1.out) (Kd.N_typed (by (with_reducible repeat (first | apply Kd.N_alloc | apply Kd.N_drewN | apply Kd.N_drew)); exact HO350.out)) (by decide) hg)
                              have n2_ := Aside0.mk (Kd.R_over' (by (with_reducible repeat (first | apply Kd.R_alloc | apply Kd.R_drewN | apply Kd.R_drew)); exact HO_8.out) (Kd.N_typed (by (with_reducible repeat (first | apply Kd.N_alloc | apply Kd.N_drewN | apply Kd.N_drew)); exact HO350.out)) (by decide) hg)
                              have n3_ := Aside0.mk (Kd.R_over' (by (with_reducible repeat (first | apply Kd.R_alloc | apply Kd.R_drewN | apply Kd.R_drew)); exact HO356.out) (Kd.N_typed (by (with_reducible repeat (first | apply Kd.N_alloc | apply Kd.N_drewN | apply Kd.N_drew)); exact HO350.out)) (by decide) hg)
                              have n4_ := Aside0.mk (hb)
                              have n5_ := Aside0.mk (ho)
                              clear HO_0
                              clear HO_1
                              clear HO_8
                              clear HO356
                              clear HB
                              clear HO350
                              have HO_0 := n0_
                              have HO_1 := n1_
                              have HO_8 := n2_
                              have HO356 := n3_
                              have HB := n4_
                              have HO353 := n5_
                              clear n0_ n1_ n2_ n3_ n4_ n5_
                              clear ho hb hg hat
                              refine hK.out _ _ trivial (fun hHeld => ?_)
                              clear hK K
                              refine norm_ (a' := ?_) ?_ ?_
                              rotate_left
                              · show Act.put _ (some 115) _ = _
                                simp only [Act.put, List.setIfInBounds_toArray, List.set_cons_zero, List.set_cons_succ, i64_w, i32_w]
                                rfl
                              exact norm_ (by simp only [putAll, Act.put, List.setIfInBounds_toArray, List.set_cons_zero, List.set_cons_succ]) (hCont (v349, v352, v355) _ ⟨(by (with_reducible repeat (first | apply Kd.N_alloc | apply Kd.N_drewN | apply Kd.N_drew)); exact Kd.N_mono HO353.out (fun _ hk => ⟨hk.2.2, ⟨hk.1, hk.2.1⟩⟩)), (by (with_reducible repeat (first | apply Kd.R_alloc | apply Kd.R_drewN | apply Kd.R_drew)); exact HO356.out), (by (with_reducible repeat (first | apply Kd.N_alloc | apply Kd.N_drewN | apply Kd.N_drew)); exact Kd.N_mono HO_0.out (fun _ hk => ⟨hk.2, ⟨hk.1.2.2, ⟨hk.1.1, hk.1.2.1⟩⟩⟩)), (by (with_reducible repeat (first | apply Kd.R_alloc | apply Kd.R_drewN | apply Kd.R_drew)); exact HO_1.out), (by (with_reducible repeat (first | apply Kd.R_alloc | apply Kd.R_drewN | apply Kd.R_drew)); exact HO_8.out), (by repeat (first | (with_reducible first | exact HB.out | apply below_alloc | apply pw_below_drewN | apply below_drew1) | exact HB.out))⟩)
                          rintro ⟨v349, v352, v355⟩ w57 ⟨h0_, h1_, h2_, h3_, h4_, h5_⟩
                          have n0_ : Aside0 (Kd.N (Kd.slice 3 (Kd.int .i64)) 35 w57 w.heap.size (fun k_ => some k_ ≠ (v355 : Value).ownBlock ∧ some k_ ≠ (.slice Ao18 t321.length co18 : Value).ownBlock ∧ some k_ ≠ (.slice Ao20 t326.length co20 : Value).ownBlock) v352 y351) := ⟨h0_⟩
                          have n1_ : Aside0 (Kd.R (Kd.int .i64) 3 w57 w.heap.size (fun _ => True) v355 y354) := ⟨h1_⟩
                          have n2_ : Aside0 (Kd.N (Kd.slice 3 (Kd.int .i64)) 35 w57 w.heap.size (fun k_ => some k_ ≠ (v352 : Value).ownBlock ∧ some k_ ≠ (v355 : Value).ownBlock ∧ some k_ ≠ (.slice Ao18 t321.length co18 : Value).ownBlock ∧ some k_ ≠ (.slice Ao20 t326.length co20 : Value).ownBlock) (.slice Ao17 t320.length co17) t320) := ⟨h2_⟩
                          have n3_ : Aside0 (Kd.R (Kd.int .i8) 30 w57 w.heap.size (fun k_ => some k_ ≠ (.slice Ao20 t326.length co20 : Value).ownBlock) (.slice Ao18 t321.length co18) t321) := ⟨h3_⟩
                          have n4_ : Aside0 (Kd.R (Kd.int .i8) 30 w57 w.heap.size (fun k_ => some k_ ≠ (.slice Ao18 t321.length co18 : Value).ownBlock) (.slice Ao20 t326.length co20) t326) := ⟨h4_⟩
                          have n5_ : Aside0 (Below w.heap.size w w57) := ⟨h5_⟩
                          clear HO_0
                          clear HO_1
                          clear HO_8
                          clear HB
                          clear h0_ h1_ h2_ h3_ h4_ h5_
                          have HO353 := n0_
                          have HO356 := n1_
                          have HO_0 := n2_
                          have HO_1 := n3_
                          have HO_8 := n4_
                          have HB := n5_
                          clear n0_ n1_ n2_ n3_ n4_ n5_
                          have hHeld := trivial
                          refine norm_ (a' := ?_) ?_ ?_
                          rotate_left
                          · simp only [putAll, Act.put, List.setIfInBounds_toArray, List.set_cons_zero, List.set_cons_succ]
                            rfl
                          refine one_ (i := 9) (N := some 122) #[true, true, true, true, true, true, true, true, true, true, false, false, true, false, false, false, false, false, false] rfl rfl (one_of HT_.out (by kernel_rfl)) (by decide) (fun K hK => ?_)
                          refine Kd.R_append_rows_step (Kd.int .i64) (w0 := w) w.heap.size (by rfl) (.tmp 116) (.tmp 121) 35 3 (.int .i64 0) 8 rfl Try.underlying35 info3 rfl (by decide) (by omega) v355 y354 (l2.take ((ji43) : Int).toNat) _ _ _ (fun _ => True) (fun _ => False) rfl rfl ?aO ?aR (fun _ _ h => h) (fun _ h => h.elim) ?aF ?aB ?aS ?aL ?_
                          (case aR => first | (refine Eq.mp (congrArg (fun n_ => ReadsRow _ _ _ _ n_ _) (show (l2.take ((ji43) : Int).toNat).length = (ji43).toNat from (by rw [List.length_take]; have h_ : ((ji43) : Int) ≤ (l2.length : Int) := of_decide_eq_true (by first | (with_reducible assumption) | assumption); omega))) ?_; repeat (first | exact (Kd.C_below HR357.out HB.out) | (with_reducible refine Kd.C_alloc ?_ _) | (with_reducible refine Kd.C_drewN ?_ _) | (with_reducible refine Kd.C_drew ?_)); done) | (rw [← show (l2.take ((ji43) : Int).toNat).length = (ji43).toNat from (by rw [List.length_take]; have h_ : ((ji43) : Int) ≤ (l2.length : Int) := of_decide_eq_true (by first | (with_reducible assumption) | assumption); omega)]; repeat (first | exact (Kd.C_below HR357.out HB.out) | (with_reducible refine Kd.C_alloc ?_ _) | (with_reducible refine Kd.C_drewN ?_ _) | (with_reducible refine Kd.C_drew ?_))) | (repeat (first | exact (Kd.C_below HR357.out HB.out) | (with_reducible refine Kd.C_alloc ?_ _) | (with_reducible refine Kd.C_drewN ?_ _) | (with_reducible refine Kd.C_drew ?_))))
                          (case aB => exact (by repeat (first | (with_reducible first | exact HB.out | apply below_alloc | apply pw_below_drewN | apply below_drew1) | exact HB.out)))
                          (case aF => exact (fun _ _ => trivial))
                          (case aO => exact (by (with_reducible repeat (first | apply Kd.R_alloc | apply Kd.R_drewN | apply Kd.R_drew)); exact HO356.out))
                          (case aS => exact (below_size (by repeat (first | (with_reducible first | exact HB.out | apply below_alloc | apply pw_below_drewN | apply below_drew1) | exact HB.out))))
                          (case aL => have := LMc46.out; have hlx_ := (show (l2.take ((ji43) : Int).toNat).length = (ji43).toNat from (by rw [List.length_take]; have h_ : ((ji43) : Int) ≤ (l2.length : Int) := of_decide_eq_true (by first | (with_reducible assumption) | assumption); omega)); omega)
                          intro v359 w58 ho hb hg hat
                          rw [← Ny358.out] at ho
                          have n0_ := Aside0.mk (Kd.N_afterv (ok := (fun k_ => some k_ ≠ (.slice Ao18 t321.length co18 : Value).ownBlock ∧ some k_ ≠ (.slice Ao20 t326.length co20 : Value).ownBlock ∧ some k_ ≠ (v352 : Value).ownBlock)) (by (with_reducible repeat (first | apply Kd.N_alloc | apply Kd.N_drewN | apply Kd.N_drew)); exact Kd.N_mono HO_0.out (fun _ hk => ⟨⟨hk.2.2.1, ⟨hk.2.2.2, hk.1⟩⟩, hk.2.1⟩)) hg hat)
                          have n1_ := Aside0.mk (Kd.R_over' (by (with_reducible repeat (first | apply Kd.R_alloc | apply Kd.R_drewN | apply Kd.R_drew)); exact HO_1.out) (Kd.R_typed (by (with_reducible repeat (first | apply Kd.R_alloc | apply Kd.R_drewN | apply Kd.R_drew)); exact HO356.out)) (by decide) hg)
                          have n2_ := Aside0.mk (Kd.R_over' (by (with_reducible repeat (first | apply Kd.R_alloc | apply Kd.R_drewN | apply Kd.R_drew)); exact HO_8.out) (Kd.R_typed (by (with_reducible repeat (first | apply Kd.R_alloc | apply Kd.R_drewN | apply Kd.R_drew)); exact HO356.out)) (by decide) hg)
                          have n3_ := Aside0.mk (Kd.N_afterv (ok := (fun k_ => some k_ ≠ (.slice Ao18 t321.length co18 : Value).ownBlock ∧ some k_ ≠ (.slice Ao20 t326.length co20 : Value).ownBlock)) (by (with_reducible repeat (first | apply Kd.N_alloc | apply Kd.N_drewN | apply Kd.N_drew)); exact Kd.N_mono HO353.out (fun _ hk => ⟨⟨hk.2.1, hk.2.2⟩, hk.1⟩)) hg hat)
                          have n4_ := Aside0.mk (hb)
                          have n5_ := Aside0.mk (ho)
                          clear HO_0
                          clear HO_1
                          clear HO_8
                          clear HO353
                          clear HB
                          clear HO356
                          have HO_0 := n0_
                          have HO_1 := n1_
                          have HO_8 := n2_
                          have HO353 := n3_
                          have HB := n4_
                          have HO360 := n5_
                          clear n0_ n1_ n2_ n3_ n4_ n5_
                          clear ho hb hg hat
                          obtain ⟨Ao60, co60, eo60⟩ := Kd.R_slice HO360.out
                          (first | subst eo60 | (injection eo60 with f1_ f2_ f3_; have f4_ := f1_.symm; have f5_ := f3_.symm; clear f1_ f2_ f3_; subst f4_; subst f5_))
                          refine hK.out _ _ trivial (fun hHeld => ?_)
                          clear hK K
                          refine norm_ (a' := ?_) ?_ ?_
                          rotate_left
                          · show Act.put _ (some 122) _ = _
                            simp only [Act.put, List.setIfInBounds_toArray, List.set_cons_zero, List.set_cons_succ, i64_w, i32_w]
                            rfl
                          refine one_ (i := 10) (N := some 123) #[true, true, true, true, true, true, true, true, true, true, true, false, true, false, false, false, false, false, false] rfl rfl (one_of HT_.out (by kernel_rfl)) (by decide) (fun K hK => ?_)
                          refine value_ (w1 := ?_) (v := ?_) (by rfl) rfl ?_ ?_
                          rotate_left 2
                          · go_simp
                            constructor
                            · rfl
                            · rfl
                          refine hK.out _ _ trivial (fun hHeld => ?_)
                          clear hK K
                          refine norm_ (a' := ?_) ?_ ?_
                          rotate_left
                          · show Act.put _ (some 123) _ = _
                            simp only [Act.put, List.setIfInBounds_toArray, List.set_cons_zero, List.set_cons_succ, i64_w, i32_w]
                            rfl
                          refine one_ (i := 11) (N := some 124) #[true, true, true, true, true, true, true, true, true, true, true, true, true, false, false, false, false, false, false] rfl rfl (one_of HT_.out (by kernel_rfl)) (by decide) (fun K hK => ?_)
                          refine Kd.N_append_step (Kd.slice 3 (Kd.int .i64)) (w0 := w) w.heap.size (by rfl) (.tmp 115) (.tmp 123) 22 35 (.slice none 0 0) 24 rfl Try.underlying22 info35 rfl (by decide) (by omega) v352 y351 y358 [.slice Ao60 y358.length co60] (fun k_ => some k_ ≠ (.slice Ao18 t321.length co18 : Value).ownBlock ∧ some k_ ≠ (.slice Ao20 t326.length co20 : Value).ownBlock) (fun k_ => ((fun k_ => some k_ ≠ (.slice Ao18 t321.length co18 : Value).ownBlock ∧ some k_ ≠ (.slice Ao20 t326.length co20 : Value).ownBlock)) k_ ∧ some k_ ≠ (v352 : Value).ownBlock) rfl rfl ?aP (fun _ hk => hk) ?aF ?aO ?aB ?aS ?aL ?_
                          (case aP => exact (Kd.FK_slice_mk (Kd.R_reads' (Kd.R_mono (ok' := (fun k_ => ((fun k_ => some k_ ≠ (.slice Ao18 t321.length co18 : Value).ownBlock ∧ some k_ ≠ (.slice Ao20 t326.length co20 : Value).ownBlock)) k_ ∧ some k_ ≠ (v352 : Value).ownBlock)) (Kd.R_apart' (Kd.R_apart' (Kd.R_apart' (HO360.out) (Kd.R_typed HO_1.out) (by decide)) (Kd.R_typed HO_8.out) (by decide)) (Kd.N_typed HO353.out) (by decide)) (fun k_ hk => ⟨⟨hk.1.1.2, hk.1.2⟩, hk.2⟩))).2.1 (Kd.R_F (Kd.R_mono (ok' := (fun k_ => ((fun k_ => some k_ ≠ (.slice Ao18 t321.length co18 : Value).ownBlock ∧ some k_ ≠ (.slice Ao20 t326.length co20 : Value).ownBlock)) k_ ∧ some k_ ≠ (v352 : Value).ownBlock)) (Kd.R_apart' (Kd.R_apart' (Kd.R_apart' (HO360.out) (Kd.R_typed HO_1.out) (by decide)) (Kd.R_typed HO_8.out) (by decide)) (Kd.N_typed HO353.out) (by decide)) (fun k_ hk => ⟨⟨hk.1.1.2, hk.1.2⟩, hk.2⟩)))))
                          (case aB => exact (by repeat (first | (with_reducible first | exact HB.out | apply below_alloc | apply pw_below_drewN | apply below_drew1) | exact HB.out)))
                          (case aF => exact (fun k_ hk => ⟨Kd.fresh' (Kd.R_lt (by (with_reducible repeat (first | apply Kd.R_alloc | apply Kd.R_drewN | apply Kd.R_drew)); exact HO_1.out)) k_ hk, Kd.fresh' (Kd.R_lt (by (with_reducible repeat (first | apply Kd.R_alloc | apply Kd.R_drewN | apply Kd.R_drew)); exact HO_8.out)) k_ hk⟩))
                          (case aO => exact (by (with_reducible repeat (first | apply Kd.N_alloc | apply Kd.N_drewN | apply Kd.N_drew)); exact Kd.N_mono HO353.out (fun _ hk => ⟨hk.1.1, hk.1.2⟩)))
                          (case aS => exact (below_size (by repeat (first | (with_reducible first | exact HB.out | apply below_alloc | apply pw_below_drewN | apply below_drew1) | exact HB.out))))
                          (case aL => have := LMc47.out; omega)
                          intro v362 w59 ho hb hg hat
                          rw [← Ny361.out] at ho
                          have n0_ := Aside0.mk (Kd.N_afterv (ok := (fun k_ => some k_ ≠ (.slice Ao18 t321.length co18 : Value).ownBlock ∧ some k_ ≠ (.slice Ao20 t326.length co20 : Value).ownBlock ∧ some k_ ≠ (.slice Ao60 y358.length co60 : Value).ownBlock)) (by (with_reducible repeat (first | apply Kd.N_alloc | apply Kd.N_drewN | apply Kd.N_drew)); exact Kd.N_mono HO_0.out (fun _ hk => ⟨⟨hk.1.1, ⟨hk.1.2.1, hk.2⟩⟩, hk.1.2.2⟩)) hg hat)
                          have n1_ := Aside0.mk (Kd.R_over' (by (with_reducible repeat (first | apply Kd.R_alloc | apply Kd.R_drewN | apply Kd.R_drew)); exact HO_1.out) (Kd.N_typed (by (with_reducible repeat (first | apply Kd.N_alloc | apply Kd.N_drewN | apply Kd.N_drew)); exact HO353.out)) (by decide) hg)
                          have n2_ := Aside0.mk (Kd.R_over' (by (with_reducible repeat (first | apply Kd.R_alloc | apply Kd.R_drewN | apply Kd.R_drew)); exact HO_8.out) (Kd.N_typed (by (with_reducible repeat (first | apply Kd.N_alloc | apply Kd.N_drewN | apply Kd.N_drew)); exact HO353.out)) (by decide) hg)
                          have n3_ := Aside0.mk (hb)
                          have n4_ := Aside0.mk (ho)
                          clear HO_0
                          clear HO_1
                          clear HO_8
                          clear HB
                          clear HO353
                          clear HO360
                          have HO_0 := n0_
                          have HO_1 := n1_
                          have HO_8 := n2_
                          have HB := n3_
                          have HO363 := n4_
                          clear n0_ n1_ n2_ n3_ n4_
                          clear ho hb hg hat
                          obtain ⟨Ao61, co61, eo61⟩ := Kd.N_slice HO363.out
                          (first | subst eo61 | (injection eo61 with f1_ f2_ f3_; have f4_ := f1_.symm; have f5_ := f3_.symm; clear f1_ f2_ f3_; subst f4_; subst f5_))
                          refine hK.out _ _ trivial (fun hHeld => ?_)
                          clear hK K
                          refine norm_ (a' := ?_) ?_ ?_
                          rotate_left
                          · show Act.put _ (some 124) _ = _
                            simp only [Act.put, List.setIfInBounds_toArray, List.set_cons_zero, List.set_cons_succ, i64_w, i32_w]
                            rfl
                          refine one_ (i := 13) (N := some 126) #[true, true, true, true, true, true, true, true, true, true, true, true, true, true, false, false, false, false, false] rfl rfl (one_of HT_.out (by kernel_rfl)) (by decide) (fun K hK => ?_)
                          refine goes_ Try.func14 (by kernel_rfl) rfl #[.slice Ao61 y361.length co61, .slice Ao18 t321.length co18] (by rfl) rfl rfl (by (try simp only [List.map_toArray, List.map_cons, List.map_nil]); first | done | rfl | (simp only [List.length_drop, List.length_take]; rfl)) ?_
                          with_reducible refine (prop_Unit.calls k2 _ _ y361 _ _ t321 t364 t365 _ ?side1 ?side2 ?side3 ?side4 A48.out).mono ?_
                          (case side1 => repeat (first | exact (Kd.N_reads' HO363.out).2.2 | (with_reducible refine Kd.C_alloc ?_ _) | (with_reducible refine Kd.C_drewN ?_ _) | (with_reducible refine Kd.C_drew ?_)))
                          (case side2 => exact (Kd.N_reads' HO363.out).2.1)
                          (case side3 => repeat (first | exact (Kd.R_reads' HO_1.out).2.2 | (with_reducible refine Kd.C_alloc ?_ _) | (with_reducible refine Kd.C_drewN ?_ _) | (with_reducible refine Kd.C_drew ?_)))
                          (case side4 => exact (Kd.R_reads' HO_1.out).2.1)
                          rintro e w62 ⟨v366, rfl, ho0, hb⟩
                          refine ⟨_, rfl, ?_⟩
                          have n0_ := Aside0.mk (Kd.N_elder' (by (with_reducible repeat (first | apply Kd.N_alloc | apply Kd.N_drewN | apply Kd.N_drew)); exact HO_0.out) (Kd.R_base ho0) hb)
                          have n1_ := Aside0.mk (Kd.R_elder' (by (with_reducible repeat (first | apply Kd.R_alloc | apply Kd.R_drewN | apply Kd.R_drew)); exact HO_1.out) (Kd.R_base ho0) hb)
                          have n2_ := Aside0.mk (Kd.R_elder' (by (with_reducible repeat (first | apply Kd.R_alloc | apply Kd.R_drewN | apply Kd.R_drew)); exact HO_8.out) (Kd.R_base ho0) hb)
                          have n3_ := Aside0.mk (Kd.N_elder' (by (with_reducible repeat (first | apply Kd.N_alloc | apply Kd.N_drewN | apply Kd.N_drew)); exact HO363.out) (Kd.R_base ho0) hb)
                          have n4_ := Aside0.mk (Kd.R_lower (Kd.R_new' (Kd.R_new' ho0 (Kd.R_lt (by (with_reducible repeat (first | apply Kd.R_alloc | apply Kd.R_drewN | apply Kd.R_drew)); exact HO_1.out))) (Kd.R_lt (by (with_reducible repeat (first | apply Kd.R_alloc | apply Kd.R_drewN | apply Kd.R_drew)); exact HO_8.out))) (below_size (by repeat (first | (with_reducible first | exact HB.out | apply below_alloc | apply pw_below_drewN | apply below_drew1) | exact HB.out))))
                          have n5_ := Aside0.mk (below_step (by repeat (first | (with_reducible first | exact HB.out | apply below_alloc | apply pw_below_drewN | apply below_drew1) | exact HB.out)) hb)
                          clear HO_0
                          clear HO_1
                          clear HO_8
                          clear HO363
                          clear HB
                          have HO_0 := n0_
                          have HO_1 := n1_
                          have HO_8 := n2_
                          have HO363 := n3_
                          have HO367 := n4_
                          have HB := n5_
                          clear n0_ n1_ n2_ n3_ n4_ n5_
                          (try clear hb)
                          (try clear hb2)
                          (try clear hk)
                          (try clear hi)
                          (try clear ho0)
                          refine hK.out _ _ trivial (fun hHeld => ?_)
                          clear hK K
                          refine norm_ (a' := ?_) ?_ ?_
                          rotate_left
                          · show Act.put _ (some 126) _ = _
                            simp only [Act.put, List.setIfInBounds_toArray, List.set_cons_zero, List.set_cons_succ, i64_w, i32_w]
                            rfl
                          refine pure_ (i := 14) (N := some 112) (v := ?_) (a' := ?_) #[true, true, true, true, true, true, true, true, true, true, true, true, true, true, true, false, false, false, false] rfl rfl (any_of HT_.out (by kernel_rfl)) (fun _ _ _ h => h) (Or.inl ⟨by rfl, ?_⟩) ?_ ?_
                          rotate_left
                          · intro w'
                            go_simp
                            with_reducible rfl
                          rotate_left
                          · simp only [Act.put, List.setIfInBounds_toArray, List.set_cons_zero, List.set_cons_succ, i64_w, i32_w]
                            rfl
                          refine pure_ (i := 15) (N := some 127) (v := ?_) (a' := ?_) #[true, true, true, true, true, true, true, true, true, true, true, true, true, true, true, true, false, false, false] rfl rfl (any_of HT_.out (by kernel_rfl)) (fun _ _ _ h => h) (Or.inl ⟨by rfl, ?_⟩) ?_ ?_
                          rotate_left
                          · intro w'
                            go_simp
                            with_reducible rfl
                          rotate_left
                          · simp only [Act.put, List.setIfInBounds_toArray, List.set_cons_zero, List.set_cons_succ, i64_w, i32_w]
                            rfl
                          refine pure_ (i := 16) (N := some 128) (v := ?_) (a' := ?_) #[true, true, true, true, true, true, true, true, true, true, true, true, true, true, true, true, true, false, false] rfl rfl (any_of HT_.out (by kernel_rfl)) (fun _ _ _ h => h) (Or.inl ⟨by rfl, ?_⟩) ?_ ?_
                          rotate_left
                          · intro w'
                            go_simp
                            with_reducible rfl
                          rotate_left
                          · simp only [Act.put, List.setIfInBounds_toArray, List.set_cons_zero, List.set_cons_succ, i64_w, i32_w]
                            rfl
                          refine pure_ (i := 17) (N := some 16) (v := ?_) (a' := ?_) #[true, true, true, true, true, true, true, true, true, true, true, true, true, true, true, true, true, true, false] rfl rfl (any_of HT_.out (by kernel_rfl)) (fun _ _ _ h => h) (Or.inl ⟨by rfl, ?_⟩) ?_ ?_
                          rotate_left
                          · intro w'
                            go_simp
                            with_reducible rfl
                          rotate_left
                          · simp only [Act.put, List.setIfInBounds_toArray, List.set_cons_zero, List.set_cons_succ, i64_w, i32_w]
                            rfl
                          refine pure_ (i := 18) (N := some 17) (v := ?_) (a' := ?_) #[true, true, true, true, true, true, true, true, true, true, true, true, true, true, true, true, true, true, true] rfl rfl (any_of HT_.out (by kernel_rfl)) (fun _ _ _ h => h) (Or.inl ⟨by rfl, ?_⟩) ?_ ?_
                          rotate_left
                          · intro w'
                            go_simp
                            with_reducible rfl
                          rotate_left
                          · simp only [Act.put, List.setIfInBounds_toArray, List.set_cons_zero, List.set_cons_succ, i64_w, i32_w]
                            rfl
                          refine done_ (done_of HT_.out (by kernel_rfl)) ?_
                          go_upto_region 23 with (fail)
                          go_cut [137] (fun v137 wc => ∃ (kq : Nat) (x137_48 : Bool), v137 = .bool x137_48 ∧ Aside0 (ashlarlaw08_PropOnce.j3 kq t319 t326 t364 t365 x137_48 = some r) ∧ Aside0 (kq ≤ k2) ∧ Aside0 (Kd.R (Kd.int .i8) 30 wc w.heap.size (fun k_ => some k_ ≠ (v366 : Value).ownBlock) (.slice Ao20 t326.length co20) t326) ∧ Aside0 (Kd.R (Kd.int .i8) 30 wc w.heap.size (fun k_ => some k_ ≠ ((.slice Ao20 t326.length co20) : Value).ownBlock) v366 t364) ∧ Aside0 (Below w.heap.size w wc))
                          case first =>
                            have H := HC49.out
                            clear HC49
                            by_cases c63 : t365 = true
                            · subst c63
                              have H1 : (ashlarlaw08_PropOnce.j3 k2 t319 t326 t364 true false) = some r := by rw [if_pos rfl] at H; exact H
                              clear H
                              have H := H1
                              clear H1
                              have H' := Aside0.mk H
                              clear H
                              go_wp2
                              go_meet
                              case rel => exact ⟨_, (false), (by first | rfl | (simp; done) | (simp [*]; done)), H', ⟨by have := HJ13.out; have := HK2.out; first | omega | exact Nat.le_refl _⟩, ⟨by (with_reducible repeat (first | apply Kd.R_alloc | apply Kd.R_drewN | apply Kd.R_drew)); exact Kd.R_mono HO_8.out (fun _ hk => hk.2)⟩, ⟨by (with_reducible repeat (first | apply Kd.R_alloc | apply Kd.R_drewN | apply Kd.R_drew)); exact Kd.R_mono HO367.out (fun _ hk => hk.2)⟩, ⟨by repeat (first | (with_reducible first | exact HB.out | apply below_alloc | apply pw_below_drewN | apply below_drew1) | exact HB.out)⟩⟩
                            · replace c63 := Bool.eq_false_iff.mpr c63
                              subst c63
                              have H1 : (ashlarlaw08_PropOnce.j3 k2 t319 t326 t364 false ((t364.length : Int) != (t326.length : Int))) = some r := by rw [if_neg (show ¬ (false = true) by decide)] at H; exact H
                              clear H
                              have H := H1
                              clear H1
                              have H' := Aside0.mk H
                              clear H
                              obtain ⟨Ao64, co64, eo64⟩ := Kd.R_slice HO367.out
                              subst eo64
                              go_wp2
                              go_meet
                              case rel => exact ⟨_, (((t364.length : Int) != (t326.length : Int))), (by first | rfl | (simp; done) | (simp [*]; done)), H', ⟨by have := HJ13.out; have := HK2.out; first | omega | exact Nat.le_refl _⟩, ⟨by (with_reducible repeat (first | apply Kd.R_alloc | apply Kd.R_drewN | apply Kd.R_drew)); exact Kd.R_mono HO_8.out (fun _ hk => hk.2)⟩, ⟨by (with_reducible repeat (first | apply Kd.R_alloc | apply Kd.R_drewN | apply Kd.R_drew)); exact Kd.R_mono HO367.out (fun _ hk => hk.2)⟩, ⟨by repeat (first | (with_reducible first | exact HB.out | apply below_alloc | apply pw_below_drewN | apply below_drew1) | exact HB.out)⟩⟩
                          case rest =>
                            clear HC49
                            try clear c1
                            try clear c2
                            try clear p2
                            try clear c4
                            try clear c6
                            try clear c14
                            try clear c42
                            try clear c44
                            try clear c44b0
                            try clear c44b1
                            try clear c45
                            try clear c45b0
                            try clear c45b1
                            try clear c46
                            try clear c47
                            try clear c63
                            obtain ⟨kq, x137_48, rfl, HA, HJ48, HO_8, HO_16, HB⟩ := hcut
                            cases kq with
                            | zero => exact absurd HA.out (by simp [ashlarlaw08_PropOnce.j3])
                            | succ kj48 =>
                              have H := HA.out
                              clear HA
                              simp only [ashlarlaw08_PropOnce.j3] at H
                              by_cases c65 : x137_48 = true
                              · subst c65
                                have H1 : (some false) = some r := by rw [if_pos rfl] at H; exact H
                                clear H
                                have H := H1
                                clear H1
                                obtain rfl := Option.some.inj H
                                go_wp2
                                go_ret
                                exact ⟨by first | rfl | (simp [errW_none, errW_some] <;> rfl) | (simp only [← hji43]; first | rfl | (simp [errW_none, errW_some] <;> rfl)) | (simp [*, errW_none, errW_some] <;> rfl), by repeat (first | (with_reducible first | exact HB.out | apply below_alloc | apply pw_below_drewN | apply below_drew1) | exact HB.out)⟩
                              · replace c65 := Bool.eq_false_iff.mpr c65
                                subst c65
                                have H1 : (ashlarlaw08_PropOnce.l2 kj48 t319 t326 t364 t365 0) = some r := by rw [if_neg (show ¬ (false = true) by decide)] at H; exact H
                                clear H
                                have H := H1
                                clear H1
                                have H' := Aside0.mk H
                                clear H
                                go_wp2
                                go_loopg [18] kj48 (fun kq v18 w' => ∃ (x18_4 : Int), v18 = .int .i64 x18_4 ∧ Aside0 (ashlarlaw08_PropOnce.l2 kq t319 t326 t364 t365 x18_4 = some r) ∧ Aside0 (kq ≤ kj48) ∧ Aside0 (Kd.R (Kd.int .i8) 30 w' w.heap.size (fun k_ => some k_ ≠ (v366 : Value).ownBlock) (.slice Ao20 t326.length co20) t326) ∧ Aside0 (Kd.R (Kd.int .i8) 30 w' w.heap.size (fun k_ => some k_ ≠ ((.slice Ao20 t326.length co20) : Value).ownBlock) v366 t364) ∧ Aside0 (Below w.heap.size w w'))
                                case atStart => exact ⟨(0), (by first | rfl | (simp; done) | (simp [*]; done)), H', ⟨Nat.le_refl _⟩, ⟨by (with_reducible repeat (first | apply Kd.R_alloc | apply Kd.R_drewN | apply Kd.R_drew)); exact HO_8.out⟩, ⟨by (with_reducible repeat (first | apply Kd.R_alloc | apply Kd.R_drewN | apply Kd.R_drew)); exact HO_16.out⟩, ⟨by repeat (first | (with_reducible first | exact HB.out | apply below_alloc | apply pw_below_drewN | apply below_drew1) | exact HB.out)⟩⟩
                                case round =>
                                  clear H'
                                  try clear c1
                                  try clear c2
                                  try clear p2
                                  try clear c4
                                  try clear c6
                                  try clear c14
                                  try clear c42
                                  try clear c44
                                  try clear c44b0
                                  try clear c44b1
                                  try clear c45
                                  try clear c45b0
                                  try clear c45b1
                                  try clear c46
                                  try clear c47
                                  try clear c63
                                  try clear c65
                                  try clear p2
                                  obtain ⟨x18_4, rfl, HA, HK4, HO_8, HO_16, HB⟩ := hrel
                                  cases gk with
                                  | zero => exact absurd HA.out (by simp [ashlarlaw08_PropOnce.l2])
                                  | succ k4 =>
                                    have H := HA.out
                                    clear HA
                                    simp only [ashlarlaw08_PropOnce.l2] at H
                                    have HC66 := Aside0.mk H
                                    clear H
                                    go_upto_region 26 with (fail)
                                    go_cut [145] (fun v145 wc => ∃ (kq : Nat) (x145_65 : Bool), v145 = .bool x145_65 ∧ Aside0 (ashlarlaw08_PropOnce.j5 kq t319 t326 t364 t365 x18_4 x145_65 = some r) ∧ Aside0 (kq ≤ k4) ∧ Aside0 (Kd.R (Kd.int .i8) 30 wc w.heap.size (fun k_ => some k_ ≠ (v366 : Value).ownBlock) (.slice Ao20 t326.length co20) t326) ∧ Aside0 (Kd.R (Kd.int .i8) 30 wc w.heap.size (fun k_ => some k_ ≠ ((.slice Ao20 t326.length co20) : Value).ownBlock) v366 t364) ∧ Aside0 (Below w.heap.size w wc))
                                    case first =>
                                      have H := HC66.out
                                      clear HC66
                                      by_cases c67 : x18_4 < (t326.length : Int)
                                      · rw [if_pos c67] at H
                                        have c67b0 : decide (x18_4 < (t326.length : Int)) = true := decide_eq_true c67
                                        clear c67
                                        (first | rw [c67b0] | (simp only [i64_w, i32_w]; rw [c67b0]) | skip)
                                        have H' := Aside0.mk H
                                        clear H
                                        go_wp2
                                        go_meet
                                        case rel => exact ⟨_, (!t365), (by first | rfl | (simp; done) | (simp [*]; done)), H', ⟨by have := HJ13.out; have := HK2.out; have := HJ48.out; have := HK4.out; first | omega | exact Nat.le_refl _⟩, ⟨by (with_reducible repeat (first | apply Kd.R_alloc | apply Kd.R_drewN | apply Kd.R_drew)); exact HO_8.out⟩, ⟨by (with_reducible repeat (first | apply Kd.R_alloc | apply Kd.R_drewN | apply Kd.R_drew)); exact HO_16.out⟩, ⟨by repeat (first | (with_reducible first | exact HB.out | apply below_alloc | apply pw_below_drewN | apply below_drew1) | exact HB.out)⟩⟩
                                      · rw [if_neg c67] at H
                                        have c67b0 : decide (x18_4 < (t326.length : Int)) = false := decide_eq_false c67
                                        clear c67
                                        (first | rw [c67b0] | (simp only [i64_w, i32_w]; rw [c67b0]) | skip)
                                        have H' := Aside0.mk H
                                        clear H
                                        go_wp2
                                        go_meet
                                        case rel => exact ⟨_, (false), (by first | rfl | (simp; done) | (simp [*]; done)), H', ⟨by have := HJ13.out; have := HK2.out; have := HJ48.out; have := HK4.out; first | omega | exact Nat.le_refl _⟩, ⟨by (with_reducible repeat (first | apply Kd.R_alloc | apply Kd.R_drewN | apply Kd.R_drew)); exact HO_8.out⟩, ⟨by (with_reducible repeat (first | apply Kd.R_alloc | apply Kd.R_drewN | apply Kd.R_drew)); exact HO_16.out⟩, ⟨by repeat (first | (with_reducible first | exact HB.out | apply below_alloc | apply pw_below_drewN | apply below_drew1) | exact HB.out)⟩⟩
                                    case rest =>
                                      clear HC66
                                      try clear c1
                                      try clear c2
                                      try clear p2
                                      try clear c4
                                      try clear c6
                                      try clear c14
                                      try clear c42
                                      try clear c44
                                      try clear c44b0
                                      try clear c44b1
                                      try clear c45
                                      try clear c45b0
                                      try clear c45b1
                                      try clear c46
                                      try clear c47
                                      try clear c63
                                      try clear c65
                                      try clear c67
                                      try clear c67b0
                                      try clear p2
                                      obtain ⟨kq, x145_65, rfl, HA, HJ65, HO_8, HO_16, HB⟩ := hcut
                                      cases kq with
                                      | zero => exact absurd HA.out (by simp [ashlarlaw08_PropOnce.j5])
                                      | succ kj65 =>
                                        have H := HA.out
                                        clear HA
                                        simp only [ashlarlaw08_PropOnce.j5] at H
                                        by_cases c68 : x145_65 = true
                                        · subst c68
                                          have H1 : (if 0 ≤ x18_4 then (if x18_4 < (t326.length : Int) then (if (rd t326 x18_4) = 0 then (ashlarlaw08_PropOnce.l2 kj65 t319 t326 t364 t365 (wrap64 (x18_4 + 1))) else (if x18_4 < (t364.length : Int) then (if (rd t364 x18_4) = (rd t326 x18_4) then (ashlarlaw08_PropOnce.l2 kj65 t319 t326 t364 t365 (wrap64 (x18_4 + 1))) else (some false)) else (none))) else (none)) else (none)) = some r := by rw [if_pos rfl] at H; exact H
                                          clear H
                                          have H := H1
                                          clear H1
                                          by_cases c69 : 0 ≤ x18_4
                                          · rw [if_pos c69] at H
                                            have c69b0 : decide (0 ≤ x18_4) = true := decide_eq_true c69
                                            clear c69
                                            by_cases c70 : x18_4 < (t326.length : Int)
                                            · rw [if_pos c70] at H
                                              have c70b0 : decide (x18_4 < (t326.length : Int)) = true := decide_eq_true c70
                                              clear c70
                                              by_cases c71 : (rd t326 x18_4) = 0
                                              · rw [if_pos c71] at H
                                                have c71b0 : ((rd t326 x18_4) == 0) = true := beq_iff_eq.mpr c71
                                                have c71b1 : ((rd t326 x18_4) != 0) = false := bne_eq_false_iff_eq.mpr c71
                                                clear c71
                                                have H' := Aside0.mk H
                                                clear H
                                                try go_wp2
                                                have n0_ := Aside0.mk (Kd.R_drew HO_8.out)
                                                have n1_ := Aside0.mk (Kd.R_drew HO_16.out)
                                                have n2_ := Aside0.mk (below_drew1 HB.out)
                                                clear HO_8
                                                clear HO_16
                                                clear HB
                                                have HO_8 := n0_
                                                have HO_16 := n1_
                                                have HB := n2_
                                                clear n0_ n1_ n2_
                                                have p368 : 0 ≤ (x18_4 : Int) := of_decide_eq_true (by first | (with_reducible assumption) | assumption)
                                                have q368 : x18_4 < (t326.length : Int) := of_decide_eq_true (by first | (with_reducible assumption) | assumption)
                                                obtain ⟨ad368, e368, hx368_0⟩ := Kd.at_int (Kd.R_reads' HO_8.out).2.2 x18_4 p368 q368
                                                cases e368
                                                replace p368 := eq_true p368
                                                replace q368 := eq_true q368
                                                refine start_ (n := 16) (S := fun w' => w'.cell? (ad368.add (x18_4).toNat) = some (.int .i8 (rd t326 x18_4))) (ds := []) #[false, false, false, false, false, false, false, false, false, false, false, false, false, false, false, false] (by kernel_rfl) rfl rfl (hx368_0) (fun hHeld => ?_); refine with_tabW ashlarlaw08_PropOnce.tab28 ashlarlaw08_PropOnce.bits28 (fun HT_ HW_ => ?_)
                                                generalize wc.drew = w72 at HO_8 HO_16 HB hx368_0 hHeld ⊢
                                                refine pure_ (i := 0) (N := some 148) (v := ?_) (a' := ?_) #[true, false, false, false, false, false, false, false, false, false, false, false, false, false, false, false] rfl rfl (any_of HT_.out (by kernel_rfl)) (fun _ _ _ h => h) (Or.inl ⟨by rfl, ?_⟩) ?_ ?_
                                                rotate_left
                                                · intro w'
                                                  go_simp
                                                  with_reducible rfl
                                                rotate_left
                                                · simp only [Act.put, List.setIfInBounds_toArray, List.set_cons_zero, List.set_cons_succ, i64_w, i32_w]
                                                  rfl
                                                refine pure_ (i := 1) (N := some 149) (v := ?_) (a' := ?_) #[true, true, false, false, false, false, false, false, false, false, false, false, false, false, false, false] rfl rfl (any_of HT_.out (by kernel_rfl)) (fun _ _ _ h => h) (Or.inl ⟨by rfl, ?_⟩) ?_ ?_
                                                rotate_left
                                                · intro w'
                                                  go_simp
                                                  with_reducible rfl
                                                rotate_left
                                                · simp only [Act.put, List.setIfInBounds_toArray, List.set_cons_zero, List.set_cons_succ, i64_w, i32_w]
                                                  rfl
                                                refine pure_ (i := 2) (N := some 150) (v := ?_) (a' := ?_) #[true, true, true, false, false, false, false, false, false, false, false, false, false, false, false, false] rfl rfl (any_of HT_.out (by kernel_rfl)) (fun _ _ _ h => h) (Or.inl ⟨by rfl, ?_⟩) ?_ ?_
                                                rotate_left
                                                · intro w'
                                                  go_simp
                                                  with_reducible rfl
                                                rotate_left
                                                · simp only [Act.put, List.setIfInBounds_toArray, List.set_cons_zero, List.set_cons_succ, i64_w, i32_w]
                                                  rfl
                                                refine take_ (i := 3) (N := some 151) (v := ?_) (a' := ?_) #[true, true, true, true, false, false, false, false, false, false, false, false, false, false, false, false] rfl rfl (take_ofW HT_.out HW_.out (by kernel_rfl)) (fun _ _ _ h => h) (Or.inl ⟨by rfl, ?_⟩) hHeld ?_ ?_
                                                rotate_left
                                                · intro w' s0
                                                  go_simp
                                                  with_reducible rfl
                                                rotate_left
                                                · simp only [Act.put, List.setIfInBounds_toArray, List.set_cons_zero, List.set_cons_succ, i64_w, i32_w]
                                                  rfl
                                                refine pure_ (i := 4) (N := some 152) (v := ?_) (a' := ?_) #[true, true, true, true, true, false, false, false, false, false, false, false, false, false, false, false] rfl rfl (any_of HT_.out (by kernel_rfl)) (fun _ _ _ h => h) (Or.inl ⟨by rfl, ?_⟩) ?_ ?_
                                                rotate_left
                                                · intro w'
                                                  go_simp
                                                  with_reducible rfl
                                                rotate_left
                                                · simp only [Act.put, List.setIfInBounds_toArray, List.set_cons_zero, List.set_cons_succ, i64_w, i32_w]
                                                  rfl
                                                refine pure_ (i := 5) (N := some 153) (v := ?_) (a' := ?_) #[true, true, true, true, true, true, false, false, false, false, false, false, false, false, false, false] rfl rfl (any_of HT_.out (by kernel_rfl)) (fun _ _ _ h => h) (Or.inl ⟨by rfl, ?_⟩) ?_ ?_
                                                rotate_left
                                                · intro w'
                                                  go_simp
                                                  with_reducible rfl
                                                rotate_left
                                                · simp only [Act.put, List.setIfInBounds_toArray, List.set_cons_zero, List.set_cons_succ, i64_w, i32_w]
                                                  rfl
                                                refine pure_ (i := 6) (N := some 154) (v := undef) (a' := ?_) #[true, true, true, true, true, true, true, false, false, false, false, false, false, false, false, false] rfl rfl (any_of HT_.out (by kernel_rfl)) (fun _ _ _ h => h) (Or.inr ⟨by rfl, rfl⟩) ?_ ?_
                                                rotate_left
                                                · simp only [Act.put, List.setIfInBounds_toArray, List.set_cons_zero, List.set_cons_succ, i64_w, i32_w]
                                                  rfl
                                                refine pure_ (i := 7) (N := some 155) (v := undef) (a' := ?_) #[true, true, true, true, true, true, true, true, false, false, false, false, false, false, false, false] rfl rfl (any_of HT_.out (by kernel_rfl)) (fun _ _ _ h => h) (Or.inr ⟨by rfl, rfl⟩) ?_ ?_
                                                rotate_left
                                                · simp only [Act.put, List.setIfInBounds_toArray, List.set_cons_zero, List.set_cons_succ, i64_w, i32_w]
                                                  rfl
                                                refine pure_ (i := 8) (N := some 156) (v := undef) (a' := ?_) #[true, true, true, true, true, true, true, true, true, false, false, false, false, false, false, false] rfl rfl (any_of HT_.out (by kernel_rfl)) (fun _ _ _ h => h) (Or.inr ⟨by rfl, rfl⟩) ?_ ?_
                                                rotate_left
                                                · simp only [Act.put, List.setIfInBounds_toArray, List.set_cons_zero, List.set_cons_succ, i64_w, i32_w]
                                                  rfl
                                                refine pure_ (i := 9) (N := some 157) (v := undef) (a' := ?_) #[true, true, true, true, true, true, true, true, true, true, false, false, false, false, false, false] rfl rfl (any_of HT_.out (by kernel_rfl)) (fun _ _ _ h => h) (Or.inr ⟨by rfl, rfl⟩) ?_ ?_
                                                rotate_left
                                                · simp only [Act.put, List.setIfInBounds_toArray, List.set_cons_zero, List.set_cons_succ, i64_w, i32_w]
                                                  rfl
                                                refine pure_ (i := 10) (N := some 158) (v := undef) (a' := ?_) #[true, true, true, true, true, true, true, true, true, true, true, false, false, false, false, false] rfl rfl (any_of HT_.out (by kernel_rfl)) (fun _ _ _ h => h) (Or.inr ⟨by rfl, rfl⟩) ?_ ?_
                                                rotate_left
                                                · simp only [Act.put, List.setIfInBounds_toArray, List.set_cons_zero, List.set_cons_succ, i64_w, i32_w]
                                                  rfl
                                                refine pure_ (i := 11) (N := some 159) (v := undef) (a' := ?_) #[true, true, true, true, true, true, true, true, true, true, true, true, false, false, false, false] rfl rfl (any_of HT_.out (by kernel_rfl)) (fun _ _ _ h => h) (Or.inr ⟨by rfl, rfl⟩) ?_ ?_
                                                rotate_left
                                                · simp only [Act.put, List.setIfInBounds_toArray, List.set_cons_zero, List.set_cons_succ, i64_w, i32_w]
                                                  rfl
                                                refine pure_ (i := 12) (N := some 160) (v := undef) (a' := ?_) #[true, true, true, true, true, true, true, true, true, true, true, true, true, false, false, false] rfl rfl (any_of HT_.out (by kernel_rfl)) (fun _ _ _ h => h) (Or.inr ⟨by rfl, rfl⟩) ?_ ?_
                                                rotate_left
                                                · simp only [Act.put, List.setIfInBounds_toArray, List.set_cons_zero, List.set_cons_succ, i64_w, i32_w]
                                                  rfl
                                                refine pure_ (i := 13) (N := some 161) (v := undef) (a' := ?_) #[true, true, true, true, true, true, true, true, true, true, true, true, true, true, false, false] rfl rfl (any_of HT_.out (by kernel_rfl)) (fun _ _ _ h => h) (Or.inr ⟨by rfl, rfl⟩) ?_ ?_
                                                rotate_left
                                                · simp only [Act.put, List.setIfInBounds_toArray, List.set_cons_zero, List.set_cons_succ, i64_w, i32_w]
                                                  rfl
                                                refine pure_ (i := 14) (N := some 162) (v := undef) (a' := ?_) #[true, true, true, true, true, true, true, true, true, true, true, true, true, true, true, false] rfl rfl (any_of HT_.out (by kernel_rfl)) (fun _ _ _ h => h) (Or.inr ⟨by rfl, rfl⟩) ?_ ?_
                                                rotate_left
                                                · simp only [Act.put, List.setIfInBounds_toArray, List.set_cons_zero, List.set_cons_succ, i64_w, i32_w]
                                                  rfl
                                                refine pure_ (i := 15) (N := some 163) (v := ?_) (a' := ?_) #[true, true, true, true, true, true, true, true, true, true, true, true, true, true, true, true] rfl rfl (any_of HT_.out (by kernel_rfl)) (fun _ _ _ h => h) (Or.inl ⟨by rfl, ?_⟩) ?_ ?_
                                                rotate_left
                                                · intro w'
                                                  go_simp
                                                  with_reducible rfl
                                                rotate_left
                                                · simp only [Act.put, List.setIfInBounds_toArray, List.set_cons_zero, List.set_cons_succ, i64_w, i32_w]
                                                  rfl
                                                refine done_ (done_of HT_.out (by kernel_rfl)) ?_
                                                try go_wp2
                                                go_roundg kj65
                                                case measure => have := HJ13.out; have := HK2.out; have := HJ48.out; have := HK4.out; have := HJ65.out; omega
                                                case rel => exact ⟨(wrap64 (x18_4 + 1)), (by first | rfl | (simp; done) | (simp [*]; done)), H', ⟨by have := HJ13.out; have := HK2.out; have := HJ48.out; have := HK4.out; have := HJ65.out; omega⟩, ⟨by (with_reducible repeat (first | apply Kd.R_alloc | apply Kd.R_drewN | apply Kd.R_drew)); exact HO_8.out⟩, ⟨by (with_reducible repeat (first | apply Kd.R_alloc | apply Kd.R_drewN | apply Kd.R_drew)); exact HO_16.out⟩, ⟨by repeat (first | (with_reducible first | exact HB.out | apply below_alloc | apply pw_below_drewN | apply below_drew1) | exact HB.out)⟩⟩
                                              · rw [if_neg c71] at H
                                                have c71b0 : ((rd t326 x18_4) == 0) = false := beq_eq_false_iff_ne.mpr c71
                                                have c71b1 : ((rd t326 x18_4) != 0) = true := bne_iff_ne.mpr c71
                                                by_cases c73 : x18_4 < (t364.length : Int)
                                                · rw [if_pos c73] at H
                                                  have c73b0 : decide (x18_4 < (t364.length : Int)) = true := decide_eq_true c73
                                                  clear c73
                                                  by_cases c74 : (rd t364 x18_4) = (rd t326 x18_4)
                                                  · rw [if_pos c74] at H
                                                    have c74b0 : ((rd t364 x18_4) == (rd t326 x18_4)) = true := beq_iff_eq.mpr c74
                                                    have c74b1 : ((rd t364 x18_4) != (rd t326 x18_4)) = false := bne_eq_false_iff_eq.mpr c74
                                                    clear c74
                                                    have H' := Aside0.mk H
                                                    clear H
                                                    try go_wp2
                                                    have n0_ := Aside0.mk (Kd.R_drew HO_8.out)
                                                    have n1_ := Aside0.mk (Kd.R_drew HO_16.out)
                                                    have n2_ := Aside0.mk (below_drew1 HB.out)
                                                    clear HO_8
                                                    clear HO_16
                                                    clear HB
                                                    have HO_8 := n0_
                                                    have HO_16 := n1_
                                                    have HB := n2_
                                                    clear n0_ n1_ n2_
                                                    have p368 : 0 ≤ (x18_4 : Int) := of_decide_eq_true (by first | (with_reducible assumption) | assumption)
                                                    have q368 : x18_4 < (t326.length : Int) := of_decide_eq_true (by first | (with_reducible assumption) | assumption)
                                                    obtain ⟨ad368, e368, hx368_0⟩ := Kd.at_int (Kd.R_reads' HO_8.out).2.2 x18_4 p368 q368
                                                    cases e368
                                                    replace p368 := eq_true p368
                                                    replace q368 := eq_true q368
                                                    obtain ⟨Ao76, co76, eo76⟩ := Kd.R_slice HO_16.out
                                                    (first | subst eo76 | (injection eo76 with f1_ f2_ f3_; have f4_ := f1_.symm; have f5_ := f3_.symm; clear f1_ f2_ f3_; subst f4_; subst f5_))
                                                    have p369 : 0 ≤ (x18_4 : Int) := of_decide_eq_true (by first | (with_reducible assumption) | assumption)
                                                    have q369 : x18_4 < (t364.length : Int) := of_decide_eq_true (by first | (with_reducible assumption) | assumption)
                                                    obtain ⟨ad369, e369, hx369_0⟩ := Kd.at_int (Kd.R_reads' HO_16.out).2.2 x18_4 p369 q369
                                                    cases e369
                                                    replace p369 := eq_true p369
                                                    replace q369 := eq_true q369
                                                    have p370 : 0 ≤ (x18_4 : Int) := of_decide_eq_true (by first | (with_reducible assumption) | assumption)
                                                    have q370 : x18_4 < (t326.length : Int) := of_decide_eq_true (by first | (with_reducible assumption) | assumption)
                                                    obtain ⟨ad370, e370, hx370_0⟩ := Kd.at_int (Kd.R_reads' HO_8.out).2.2 x18_4 p370 q370
                                                    obtain rfl : ad368 = ad370 := (by injection e370)
                                                    replace p370 := eq_true p370
                                                    replace q370 := eq_true q370
                                                    refine start_ (n := 16) (S := fun w' => w'.cell? (ad368.add (x18_4).toNat) = some (.int .i8 (rd t326 x18_4)) ∧ w'.cell? (ad369.add (x18_4).toNat) = some (.int .i8 (rd t364 x18_4)) ∧ w'.cell? (ad368.add (x18_4).toNat) = some (.int .i8 (rd t326 x18_4))) (ds := []) #[false, false, false, false, false, false, false, false, false, false, false, false, false, false, false, false] (by kernel_rfl) rfl rfl ⟨hx368_0, hx369_0, hx370_0⟩ (fun hHeld => ?_); refine with_tabW ashlarlaw08_PropOnce.tab28 ashlarlaw08_PropOnce.bits28 (fun HT_ HW_ => ?_)
                                                    generalize wc.drew = w75 at HO_8 HO_16 HB hx368_0 hx369_0 hx370_0 hHeld ⊢
                                                    refine pure_ (i := 0) (N := some 148) (v := ?_) (a' := ?_) #[true, false, false, false, false, false, false, false, false, false, false, false, false, false, false, false] rfl rfl (any_of HT_.out (by kernel_rfl)) (fun _ _ _ h => h) (Or.inl ⟨by rfl, ?_⟩) ?_ ?_
                                                    rotate_left
                                                    · intro w'
                                                      go_simp
                                                      with_reducible rfl
                                                    rotate_left
                                                    · simp only [Act.put, List.setIfInBounds_toArray, List.set_cons_zero, List.set_cons_succ, i64_w, i32_w]
                                                      rfl
                                                    refine pure_ (i := 1) (N := some 149) (v := ?_) (a' := ?_) #[true, true, false, false, false, false, false, false, false, false, false, false, false, false, false, false] rfl rfl (any_of HT_.out (by kernel_rfl)) (fun _ _ _ h => h) (Or.inl ⟨by rfl, ?_⟩) ?_ ?_
                                                    rotate_left
                                                    · intro w'
                                                      go_simp
                                                      with_reducible rfl
                                                    rotate_left
                                                    · simp only [Act.put, List.setIfInBounds_toArray, List.set_cons_zero, List.set_cons_succ, i64_w, i32_w]
                                                      rfl
                                                    refine pure_ (i := 2) (N := some 150) (v := ?_) (a' := ?_) #[true, true, true, false, false, false, false, false, false, false, false, false, false, false, false, false] rfl rfl (any_of HT_.out (by kernel_rfl)) (fun _ _ _ h => h) (Or.inl ⟨by rfl, ?_⟩) ?_ ?_
                                                    rotate_left
                                                    · intro w'
                                                      go_simp
                                                      with_reducible rfl
                                                    rotate_left
                                                    · simp only [Act.put, List.setIfInBounds_toArray, List.set_cons_zero, List.set_cons_succ, i64_w, i32_w]
                                                      rfl
                                                    refine take_ (i := 3) (N := some 151) (v := ?_) (a' := ?_) #[true, true, true, true, false, false, false, false, false, false, false, false, false, false, false, false] rfl rfl (take_ofW HT_.out HW_.out (by kernel_rfl)) (fun _ _ _ h => h) (Or.inl ⟨by rfl, ?_⟩) hHeld ?_ ?_
                                                    rotate_left
                                                    · rintro w' ⟨s0, s1, s2⟩
                                                      go_simp
                                                      with_reducible rfl
                                                    rotate_left
                                                    · simp only [Act.put, List.setIfInBounds_toArray, List.set_cons_zero, List.set_cons_succ, i64_w, i32_w]
                                                      rfl
                                                    refine pure_ (i := 4) (N := some 152) (v := ?_) (a' := ?_) #[true, true, true, true, true, false, false, false, false, false, false, false, false, false, false, false] rfl rfl (any_of HT_.out (by kernel_rfl)) (fun _ _ _ h => h) (Or.inl ⟨by rfl, ?_⟩) ?_ ?_
                                                    rotate_left
                                                    · intro w'
                                                      go_simp
                                                      with_reducible rfl
                                                    rotate_left
                                                    · simp only [Act.put, List.setIfInBounds_toArray, List.set_cons_zero, List.set_cons_succ, i64_w, i32_w]
                                                      rfl
                                                    refine pure_ (i := 5) (N := some 153) (v := ?_) (a' := ?_) #[true, true, true, true, true, true, false, false, false, false, false, false, false, false, false, false] rfl rfl (any_of HT_.out (by kernel_rfl)) (fun _ _ _ h => h) (Or.inl ⟨by rfl, ?_⟩) ?_ ?_
                                                    rotate_left
                                                    · intro w'
                                                      go_simp
                                                      with_reducible rfl
                                                    rotate_left
                                                    · simp only [Act.put, List.setIfInBounds_toArray, List.set_cons_zero, List.set_cons_succ, i64_w, i32_w]
                                                      rfl
                                                    refine pure_ (i := 6) (N := some 154) (v := ?_) (a' := ?_) #[true, true, true, true, true, true, true, false, false, false, false, false, false, false, false, false] rfl rfl (any_of HT_.out (by kernel_rfl)) (fun _ _ _ h => h) (Or.inl ⟨by rfl, ?_⟩) ?_ ?_
                                                    rotate_left
                                                    · intro w'
                                                      go_simp
                                                      with_reducible rfl
                                                    rotate_left
                                                    · simp only [Act.put, List.setIfInBounds_toArray, List.set_cons_zero, List.set_cons_succ, i64_w, i32_w]
                                                      rfl
                                                    refine pure_ (i := 7) (N := some 155) (v := ?_) (a' := ?_) #[true, true, true, true, true, true, true, true, false, false, false, false, false, false, false, false] rfl rfl (any_of HT_.out (by kernel_rfl)) (fun _ _ _ h => h) (Or.inl ⟨by rfl, ?_⟩) ?_ ?_
                                                    rotate_left
                                                    · intro w'
                                                      go_simp
                                                      with_reducible rfl
                                                    rotate_left
                                                    · simp only [Act.put, List.setIfInBounds_toArray, List.set_cons_zero, List.set_cons_succ, i64_w, i32_w]
                                                      rfl
                                                    refine pure_ (i := 8) (N := some 156) (v := ?_) (a' := ?_) #[true, true, true, true, true, true, true, true, true, false, false, false, false, false, false, false] rfl rfl (any_of HT_.out (by kernel_rfl)) (fun _ _ _ h => h) (Or.inl ⟨by rfl, ?_⟩) ?_ ?_
                                                    rotate_left
                                                    · intro w'
                                                      go_simp
                                                      with_reducible rfl
                                                    rotate_left
                                                    · simp only [Act.put, List.setIfInBounds_toArray, List.set_cons_zero, List.set_cons_succ, i64_w, i32_w]
                                                      rfl
                                                    refine pure_ (i := 10) (N := some 158) (v := ?_) (a' := ?_) #[true, true, true, true, true, true, true, true, true, false, true, false, false, false, false, false] rfl rfl (any_of HT_.out (by kernel_rfl)) (fun _ _ _ h => h) (Or.inl ⟨by rfl, ?_⟩) ?_ ?_
                                                    rotate_left
                                                    · intro w'
                                                      go_simp
                                                      with_reducible rfl
                                                    rotate_left
                                                    · simp only [Act.put, List.setIfInBounds_toArray, List.set_cons_zero, List.set_cons_succ, i64_w, i32_w]
                                                      rfl
                                                    refine pure_ (i := 11) (N := some 159) (v := ?_) (a' := ?_) #[true, true, true, true, true, true, true, true, true, false, true, true, false, false, false, false] rfl rfl (any_of HT_.out (by kernel_rfl)) (fun _ _ _ h => h) (Or.inl ⟨by rfl, ?_⟩) ?_ ?_
                                                    rotate_left
                                                    · intro w'
                                                      go_simp
                                                      with_reducible rfl
                                                    rotate_left
                                                    · simp only [Act.put, List.setIfInBounds_toArray, List.set_cons_zero, List.set_cons_succ, i64_w, i32_w]
                                                      rfl
                                                    refine pure_ (i := 12) (N := some 160) (v := ?_) (a' := ?_) #[true, true, true, true, true, true, true, true, true, false, true, true, true, false, false, false] rfl rfl (any_of HT_.out (by kernel_rfl)) (fun _ _ _ h => h) (Or.inl ⟨by rfl, ?_⟩) ?_ ?_
                                                    rotate_left
                                                    · intro w'
                                                      go_simp
                                                      with_reducible rfl
                                                    rotate_left
                                                    · simp only [Act.put, List.setIfInBounds_toArray, List.set_cons_zero, List.set_cons_succ, i64_w, i32_w]
                                                      rfl
                                                    refine take_ (i := 9) (N := some 157) (v := ?_) (a' := ?_) #[true, true, true, true, true, true, true, true, true, true, true, true, true, false, false, false] rfl rfl (take_ofW HT_.out HW_.out (by kernel_rfl)) (fun _ _ _ h => h) (Or.inl ⟨by rfl, ?_⟩) hHeld ?_ ?_
                                                    rotate_left
                                                    · rintro w' ⟨s0, s1, s2⟩
                                                      go_simp
                                                      with_reducible rfl
                                                    rotate_left
                                                    · simp only [Act.put, List.setIfInBounds_toArray, List.set_cons_zero, List.set_cons_succ, i64_w, i32_w]
                                                      rfl
                                                    refine take_ (i := 13) (N := some 161) (v := ?_) (a' := ?_) #[true, true, true, true, true, true, true, true, true, true, true, true, true, true, false, false] rfl rfl (take_ofW HT_.out HW_.out (by kernel_rfl)) (fun _ _ _ h => h) (Or.inl ⟨by rfl, ?_⟩) hHeld ?_ ?_
                                                    rotate_left
                                                    · rintro w' ⟨s0, s1, s2⟩
                                                      go_simp
                                                      with_reducible rfl
                                                    rotate_left
                                                    · simp only [Act.put, List.setIfInBounds_toArray, List.set_cons_zero, List.set_cons_succ, i64_w, i32_w]
                                                      rfl
                                                    refine pure_ (i := 14) (N := some 162) (v := ?_) (a' := ?_) #[true, true, true, true, true, true, true, true, true, true, true, true, true, true, true, false] rfl rfl (any_of HT_.out (by kernel_rfl)) (fun _ _ _ h => h) (Or.inl ⟨by rfl, ?_⟩) ?_ ?_
                                                    rotate_left
                                                    · intro w'
                                                      go_simp
                                                      with_reducible rfl
                                                    rotate_left
                                                    · simp only [Act.put, List.setIfInBounds_toArray, List.set_cons_zero, List.set_cons_succ, i64_w, i32_w]
                                                      rfl
                                                    refine pure_ (i := 15) (N := some 163) (v := ?_) (a' := ?_) #[true, true, true, true, true, true, true, true, true, true, true, true, true, true, true, true] rfl rfl (any_of HT_.out (by kernel_rfl)) (fun _ _ _ h => h) (Or.inl ⟨by rfl, ?_⟩) ?_ ?_
                                                    rotate_left
                                                    · intro w'
                                                      go_simp
                                                      with_reducible rfl
                                                    rotate_left
                                                    · simp only [Act.put, List.setIfInBounds_toArray, List.set_cons_zero, List.set_cons_succ, i64_w, i32_w]
                                                      rfl
                                                    refine done_ (done_of HT_.out (by kernel_rfl)) ?_
                                                    try go_wp2
                                                    go_roundg kj65
                                                    case measure => have := HJ13.out; have := HK2.out; have := HJ48.out; have := HK4.out; have := HJ65.out; omega
                                                    case rel => exact ⟨(wrap64 (x18_4 + 1)), (by first | rfl | (simp; done) | (simp [*]; done)), H', ⟨by have := HJ13.out; have := HK2.out; have := HJ48.out; have := HK4.out; have := HJ65.out; omega⟩, ⟨by (with_reducible repeat (first | apply Kd.R_alloc | apply Kd.R_drewN | apply Kd.R_drew)); exact HO_8.out⟩, ⟨by (with_reducible repeat (first | apply Kd.R_alloc | apply Kd.R_drewN | apply Kd.R_drew)); exact HO_16.out⟩, ⟨by repeat (first | (with_reducible first | exact HB.out | apply below_alloc | apply pw_below_drewN | apply below_drew1) | exact HB.out)⟩⟩
                                                  · rw [if_neg c74] at H
                                                    have c74b0 : ((rd t364 x18_4) == (rd t326 x18_4)) = false := beq_eq_false_iff_ne.mpr c74
                                                    have c74b1 : ((rd t364 x18_4) != (rd t326 x18_4)) = true := bne_iff_ne.mpr c74
                                                    obtain rfl := Option.some.inj H
                                                    try go_wp2
                                                    have n0_ := Aside0.mk (Kd.R_drew HO_8.out)
                                                    have n1_ := Aside0.mk (Kd.R_drew HO_16.out)
                                                    have n2_ := Aside0.mk (below_drew1 HB.out)
                                                    clear HO_8
                                                    clear HO_16
                                                    clear HB
                                                    have HO_8 := n0_
                                                    have HO_16 := n1_
                                                    have HB := n2_
                                                    clear n0_ n1_ n2_
                                                    have p368 : 0 ≤ (x18_4 : Int) := of_decide_eq_true (by first | (with_reducible assumption) | assumption)
                                                    have q368 : x18_4 < (t326.length : Int) := of_decide_eq_true (by first | (with_reducible assumption) | assumption)
                                                    obtain ⟨ad368, e368, hx368_0⟩ := Kd.at_int (Kd.R_reads' HO_8.out).2.2 x18_4 p368 q368
                                                    cases e368
                                                    replace p368 := eq_true p368
                                                    replace q368 := eq_true q368
                                                    obtain ⟨Ao78, co78, eo78⟩ := Kd.R_slice HO_16.out
                                                    (first | subst eo78 | (injection eo78 with f1_ f2_ f3_; have f4_ := f1_.symm; have f5_ := f3_.symm; clear f1_ f2_ f3_; subst f4_; subst f5_))
                                                    have p369 : 0 ≤ (x18_4 : Int) := of_decide_eq_true (by first | (with_reducible assumption) | assumption)
                                                    have q369 : x18_4 < (t364.length : Int) := of_decide_eq_true (by first | (with_reducible assumption) | assumption)
                                                    obtain ⟨ad369, e369, hx369_0⟩ := Kd.at_int (Kd.R_reads' HO_16.out).2.2 x18_4 p369 q369
                                                    cases e369
                                                    replace p369 := eq_true p369
                                                    replace q369 := eq_true q369
                                                    have p370 : 0 ≤ (x18_4 : Int) := of_decide_eq_true (by first | (with_reducible assumption) | assumption)
                                                    have q370 : x18_4 < (t326.length : Int) := of_decide_eq_true (by first | (with_reducible assumption) | assumption)
                                                    obtain ⟨ad370, e370, hx370_0⟩ := Kd.at_int (Kd.R_reads' HO_8.out).2.2 x18_4 p370 q370
                                                    obtain rfl : ad368 = ad370 := (by injection e370)
                                                    replace p370 := eq_true p370
                                                    replace q370 := eq_true q370
                                                    refine start_ (n := 16) (S := fun w' => w'.cell? (ad368.add (x18_4).toNat) = some (.int .i8 (rd t326 x18_4)) ∧ w'.cell? (ad369.add (x18_4).toNat) = some (.int .i8 (rd t364 x18_4)) ∧ w'.cell? (ad368.add (x18_4).toNat) = some (.int .i8 (rd t326 x18_4))) (ds := []) #[false, false, false, false, false, false, false, false, false, false, false, false, false, false, false, false] (by kernel_rfl) rfl rfl ⟨hx368_0, hx369_0, hx370_0⟩ (fun hHeld => ?_); refine with_tabW ashlarlaw08_PropOnce.tab28 ashlarlaw08_PropOnce.bits28 (fun HT_ HW_ => ?_)
                                                    generalize wc.drew = w77 at HO_8 HO_16 HB hx368_0 hx369_0 hx370_0 hHeld ⊢
                                                    refine pure_ (i := 0) (N := some 148) (v := ?_) (a' := ?_) #[true, false, false, false, false, false, false, false, false, false, false, false, false, false, false, false] rfl rfl (any_of HT_.out (by kernel_rfl)) (fun _ _ _ h => h) (Or.inl ⟨by rfl, ?_⟩) ?_ ?_
                                                    rotate_left
                                                    · intro w'
                                                      go_simp
                                                      with_reducible rfl
                                                    rotate_left
                                                    · simp only [Act.put, List.setIfInBounds_toArray, List.set_cons_zero, List.set_cons_succ, i64_w, i32_w]
                                                      rfl
                                                    refine pure_ (i := 1) (N := some 149) (v := ?_) (a' := ?_) #[true, true, false, false, false, false, false, false, false, false, false, false, false, false, false, false] rfl rfl (any_of HT_.out (by kernel_rfl)) (fun _ _ _ h => h) (Or.inl ⟨by rfl, ?_⟩) ?_ ?_
                                                    rotate_left
                                                    · intro w'
                                                      go_simp
                                                      with_reducible rfl
                                                    rotate_left
                                                    · simp only [Act.put, List.setIfInBounds_toArray, List.set_cons_zero, List.set_cons_succ, i64_w, i32_w]
                                                      rfl
                                                    refine pure_ (i := 2) (N := some 150) (v := ?_) (a' := ?_) #[true, true, true, false, false, false, false, false, false, false, false, false, false, false, false, false] rfl rfl (any_of HT_.out (by kernel_rfl)) (fun _ _ _ h => h) (Or.inl ⟨by rfl, ?_⟩) ?_ ?_
                                                    rotate_left
                                                    · intro w'
                                                      go_simp
                                                      with_reducible rfl
                                                    rotate_left
                                                    · simp only [Act.put, List.setIfInBounds_toArray, List.set_cons_zero, List.set_cons_succ, i64_w, i32_w]
                                                      rfl
                                                    refine take_ (i := 3) (N := some 151) (v := ?_) (a' := ?_) #[true, true, true, true, false, false, false, false, false, false, false, false, false, false, false, false] rfl rfl (take_ofW HT_.out HW_.out (by kernel_rfl)) (fun _ _ _ h => h) (Or.inl ⟨by rfl, ?_⟩) hHeld ?_ ?_
                                                    rotate_left
                                                    · rintro w' ⟨s0, s1, s2⟩
                                                      go_simp
                                                      with_reducible rfl
                                                    rotate_left
                                                    · simp only [Act.put, List.setIfInBounds_toArray, List.set_cons_zero, List.set_cons_succ, i64_w, i32_w]
                                                      rfl
                                                    refine pure_ (i := 4) (N := some 152) (v := ?_) (a' := ?_) #[true, true, true, true, true, false, false, false, false, false, false, false, false, false, false, false] rfl rfl (any_of HT_.out (by kernel_rfl)) (fun _ _ _ h => h) (Or.inl ⟨by rfl, ?_⟩) ?_ ?_
                                                    rotate_left
                                                    · intro w'
                                                      go_simp
                                                      with_reducible rfl
                                                    rotate_left
                                                    · simp only [Act.put, List.setIfInBounds_toArray, List.set_cons_zero, List.set_cons_succ, i64_w, i32_w]
                                                      rfl
                                                    refine pure_ (i := 5) (N := some 153) (v := ?_) (a' := ?_) #[true, true, true, true, true, true, false, false, false, false, false, false, false, false, false, false] rfl rfl (any_of HT_.out (by kernel_rfl)) (fun _ _ _ h => h) (Or.inl ⟨by rfl, ?_⟩) ?_ ?_
                                                    rotate_left
                                                    · intro w'
                                                      go_simp
                                                      with_reducible rfl
                                                    rotate_left
                                                    · simp only [Act.put, List.setIfInBounds_toArray, List.set_cons_zero, List.set_cons_succ, i64_w, i32_w]
                                                      rfl
                                                    refine pure_ (i := 6) (N := some 154) (v := ?_) (a' := ?_) #[true, true, true, true, true, true, true, false, false, false, false, false, false, false, false, false] rfl rfl (any_of HT_.out (by kernel_rfl)) (fun _ _ _ h => h) (Or.inl ⟨by rfl, ?_⟩) ?_ ?_
                                                    rotate_left
                                                    · intro w'
                                                      go_simp
                                                      with_reducible rfl
                                                    rotate_left
                                                    · simp only [Act.put, List.setIfInBounds_toArray, List.set_cons_zero, List.set_cons_succ, i64_w, i32_w]
                                                      rfl
                                                    refine pure_ (i := 7) (N := some 155) (v := ?_) (a' := ?_) #[true, true, true, true, true, true, true, true, false, false, false, false, false, false, false, false] rfl rfl (any_of HT_.out (by kernel_rfl)) (fun _ _ _ h => h) (Or.inl ⟨by rfl, ?_⟩) ?_ ?_
                                                    rotate_left
                                                    · intro w'
                                                      go_simp
                                                      with_reducible rfl
                                                    rotate_left
                                                    · simp only [Act.put, List.setIfInBounds_toArray, List.set_cons_zero, List.set_cons_succ, i64_w, i32_w]
                                                      rfl
                                                    refine pure_ (i := 8) (N := some 156) (v := ?_) (a' := ?_) #[true, true, true, true, true, true, true, true, true, false, false, false, false, false, false, false] rfl rfl (any_of HT_.out (by kernel_rfl)) (fun _ _ _ h => h) (Or.inl ⟨by rfl, ?_⟩) ?_ ?_
                                                    rotate_left
                                                    · intro w'
                                                      go_simp
                                                      with_reducible rfl
                                                    rotate_left
                                                    · simp only [Act.put, List.setIfInBounds_toArray, List.set_cons_zero, List.set_cons_succ, i64_w, i32_w]
                                                      rfl
                                                    refine pure_ (i := 10) (N := some 158) (v := ?_) (a' := ?_) #[true, true, true, true, true, true, true, true, true, false, true, false, false, false, false, false] rfl rfl (any_of HT_.out (by kernel_rfl)) (fun _ _ _ h => h) (Or.inl ⟨by rfl, ?_⟩) ?_ ?_
                                                    rotate_left
                                                    · intro w'
                                                      go_simp
                                                      with_reducible rfl
                                                    rotate_left
                                                    · simp only [Act.put, List.setIfInBounds_toArray, List.set_cons_zero, List.set_cons_succ, i64_w, i32_w]
                                                      rfl
                                                    refine pure_ (i := 11) (N := some 159) (v := ?_) (a' := ?_) #[true, true, true, true, true, true, true, true, true, false, true, true, false, false, false, false] rfl rfl (any_of HT_.out (by kernel_rfl)) (fun _ _ _ h => h) (Or.inl ⟨by rfl, ?_⟩) ?_ ?_
                                                    rotate_left
                                                    · intro w'
                                                      go_simp
                                                      with_reducible rfl
                                                    rotate_left
                                                    · simp only [Act.put, List.setIfInBounds_toArray, List.set_cons_zero, List.set_cons_succ, i64_w, i32_w]
                                                      rfl
                                                    refine pure_ (i := 12) (N := some 160) (v := ?_) (a' := ?_) #[true, true, true, true, true, true, true, true, true, false, true, true, true, false, false, false] rfl rfl (any_of HT_.out (by kernel_rfl)) (fun _ _ _ h => h) (Or.inl ⟨by rfl, ?_⟩) ?_ ?_
                                                    rotate_left
                                                    · intro w'
                                                      go_simp
                                                      with_reducible rfl
                                                    rotate_left
                                                    · simp only [Act.put, List.setIfInBounds_toArray, List.set_cons_zero, List.set_cons_succ, i64_w, i32_w]
                                                      rfl
                                                    refine take_ (i := 9) (N := some 157) (v := ?_) (a' := ?_) #[true, true, true, true, true, true, true, true, true, true, true, true, true, false, false, false] rfl rfl (take_ofW HT_.out HW_.out (by kernel_rfl)) (fun _ _ _ h => h) (Or.inl ⟨by rfl, ?_⟩) hHeld ?_ ?_
                                                    rotate_left
                                                    · rintro w' ⟨s0, s1, s2⟩
                                                      go_simp
                                                      with_reducible rfl
                                                    rotate_left
                                                    · simp only [Act.put, List.setIfInBounds_toArray, List.set_cons_zero, List.set_cons_succ, i64_w, i32_w]
                                                      rfl
                                                    refine take_ (i := 13) (N := some 161) (v := ?_) (a' := ?_) #[true, true, true, true, true, true, true, true, true, true, true, true, true, true, false, false] rfl rfl (take_ofW HT_.out HW_.out (by kernel_rfl)) (fun _ _ _ h => h) (Or.inl ⟨by rfl, ?_⟩) hHeld ?_ ?_
                                                    rotate_left
                                                    · rintro w' ⟨s0, s1, s2⟩
                                                      go_simp
                                                      with_reducible rfl
                                                    rotate_left
                                                    · simp only [Act.put, List.setIfInBounds_toArray, List.set_cons_zero, List.set_cons_succ, i64_w, i32_w]
                                                      rfl
                                                    refine pure_ (i := 14) (N := some 162) (v := ?_) (a' := ?_) #[true, true, true, true, true, true, true, true, true, true, true, true, true, true, true, false] rfl rfl (any_of HT_.out (by kernel_rfl)) (fun _ _ _ h => h) (Or.inl ⟨by rfl, ?_⟩) ?_ ?_
                                                    rotate_left
                                                    · intro w'
                                                      go_simp
                                                      with_reducible rfl
                                                    rotate_left
                                                    · simp only [Act.put, List.setIfInBounds_toArray, List.set_cons_zero, List.set_cons_succ, i64_w, i32_w]
                                                      rfl
                                                    refine pure_ (i := 15) (N := some 163) (v := ?_) (a' := ?_) #[true, true, true, true, true, true, true, true, true, true, true, true, true, true, true, true] rfl rfl (any_of HT_.out (by kernel_rfl)) (fun _ _ _ h => h) (Or.inl ⟨by rfl, ?_⟩) ?_ ?_
                                                    rotate_left
                                                    · intro w'
                                                      go_simp
                                                      with_reducible rfl
                                                    rotate_left
                                                    · simp only [Act.put, List.setIfInBounds_toArray, List.set_cons_zero, List.set_cons_succ, i64_w, i32_w]
                                                      rfl
                                                    refine done_ (done_of HT_.out (by kernel_rfl)) ?_
                                                    try go_wp2
                                                    go_ret
                                                    exact ⟨by first | rfl | (simp [errW_none, errW_some] <;> rfl) | (simp only [← hji43]; first | rfl | (simp [errW_none, errW_some] <;> rfl)) | (simp [*, errW_none, errW_some] <;> rfl), by repeat (first | (with_reducible first | exact HB.out | apply below_alloc | apply pw_below_drewN | apply below_drew1) | exact HB.out)⟩
                                                · rw [if_neg c73] at H
                                                  exact absurd H (by simp)
                                            · rw [if_neg c70] at H
                                              exact absurd H (by simp)
                                          · rw [if_neg c69] at H
                                            exact absurd H (by simp)
                                        · replace c68 := Bool.eq_false_iff.mpr c68
                                          subst c68
                                          have H1 : (some t319) = some r := by rw [if_neg (show ¬ (false = true) by decide)] at H; exact H
                                          clear H
                                          have H := H1
                                          clear H1
                                          obtain rfl := Option.some.inj H
                                          go_wp2
                                          go_ret
                                          exact ⟨by first | rfl | (simp [errW_none, errW_some] <;> rfl) | (simp only [← hji43]; first | rfl | (simp [errW_none, errW_some] <;> rfl)) | (simp [*, errW_none, errW_some] <;> rfl), by repeat (first | (with_reducible first | exact HB.out | apply below_alloc | apply pw_below_drewN | apply below_drew1) | exact HB.out)⟩
                        · rw [if_neg c47] at H
                          exact absurd H (by simp)
                      · rw [if_neg c46] at H
                        exact absurd H (by simp)
                    · rw [if_neg c45] at H
                      exact absurd H (by simp)
                  · rw [if_neg c44] at H
                    exact absurd H (by simp)
                · rw [if_neg c42] at H
                  exact absurd H (by simp)

end Go.Proofs.Ytbgjmeiphmfniaa.Q
