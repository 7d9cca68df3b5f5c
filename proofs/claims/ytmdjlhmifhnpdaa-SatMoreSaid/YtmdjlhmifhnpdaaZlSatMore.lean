/- Texts of this seat, joined by a program of this session (wip/tools/pack.py). -/
import Derived.Test.YtmdjlhmifhnpdaaProg
import Derived.Below
import Derived.Deep.Draws
import Derived.Deep.AppendLies
import Derived.Maps.AppendAt
import Derived.OwnWalk
import Derived.Laws.BytesArg
import Derived.Laws.MakeOwn
import Derived.Laws.OwnMore
import Derived.Deep.OwnRows
import Derived.Tactics
import Derived.Lib.ConvBytes
import Derived.Laws.Slices
import Derived.WalkKit
import Derived.KernelRfl
import Derived.RowKit3
import Derived.Deep.LoopGhost
import Derived.Deep.QuietTactic
import Derived.BigQuiet
import Derived.WideLaws
import Derived.Deep.DeepCutAuto
import Derived.Deep.CutBlock
import Derived.Deep.RegionHeld3
import Derived.Laws.Rows
import Derived.Lib.AppendStr
import Derived.ArgAppend
import Derived.Laws.IdiomCopy
import Derived.OrdersHeld
import Derived.Laws.BitsLemmas
import Derived.RowKit
import Derived.ScopeJumps
import Derived.WalkMore
import Derived.Laws.CopyOwn
import Derived.Deep.Slices
import Derived.WalkSpells
import Derived.Outline
import Derived.Test.YtmdjlhmifhnpdaaZd
import Derived.Test.YtmdjlhmifhnpdaaZc
import Derived.Test.YtmdjlhmifhnpdaaZw
import Derived.Test.YtmdjlhmifhnpdaaZf
import Derived.Test.YtmdjlhmifhnpdaaZq1
import Derived.Test.YtmdjlhmifhnpdaaZq2
import Derived.Test.YtmdjlhmifhnpdaaZq3
namespace Go.Proofs.Ytmdjlhmifhnpdaa.Q
open Go.RowKit Go.Proofs.YtmdjlhmifhnpdaaW.PrintWords Go.Proofs.YtmdjlhmifhnpdaaW.PrintLast Go.Proofs.YtmdjlhmifhnpdaaW.PrintMore
attribute [local go_sem] max2_int min2_int max_two min_two max_three min_three max_four min_four   -- for this text's walks alone
set_option linter.unusedVariables false
set_option linter.unusedSimpArgs false

/-! ### ashlarlaw09_SatMore: function 8 -/
def ashlarlaw09_SatMore.j0 : Nat → List (List Int) → Int → Bool → Int → List Bool → Bool → Option (Bool)
 | 0, _, _, _, _, _, _ => none
 | k + 1, x0, x2, x7, x13, x14, x74 => if x74 = true then (some false) else (if x7 = true then (if x13 = 1 then ((ashlarref09_Good.f k x0 x2 1 x14 ([] : List (List Int))).bind fun t462 => (some t462)) else (some true)) else (some false))
def ashlarlaw09_SatMore.f (k : Nat) (l0 : List (List Int)) (l1 : List Int) (a2 : Int) : Option (Bool) := (ashlarlaw09_shown.f k).bind fun t423 => ((ashlarlaw09_few.f k l0).bind fun t424 => ((ashlarlaw09_few.f k t424).bind fun t427 => ((some (([] : List Int) : List Int)).bind fun y430 => (if 0 ≤ (mn (l1.length : Int) 10) then (if (mn (l1.length : Int) 10) ≤ (l1.length : Int) then (if y430.length + (l1.take ((mn (l1.length : Int) 10) : Int).toNat).length < 17592186044416 then (if t427.length < 5864062014805 then ((some (t427 ++ [(y430 ++ (l1.take ((mn (l1.length : Int) 10) : Int).toNat))] : List (List Int))).bind fun y437 => ((ashlarref09_Right.f k y437 (Int.tmod (Go.bits .and .i64 a2 65535) 6)).bind fun t440 => (if t440 = true then ((sat_Solve.f k t424 (Int.tmod (Go.bits .and .i64 a2 65535) 6) 243).bind fun bt441 => ((sat_Solve.f k y437 (Int.tmod (Go.bits .and .i64 a2 65535) 6) 243).bind fun bt448 => ((sat_Solve.f k t424 (wrap64 ((Int.tmod (Go.bits .and .i64 a2 65535) 6) + 3)) 6561).bind fun bt455 => (if bt441.1 = 2 then (if bt448.1 = 2 then (ashlarlaw09_SatMore.j0 k t424 (Int.tmod (Go.bits .and .i64 a2 65535) 6) t423 bt448.1 bt448.2.1 (bt441.1 != bt455.1)) else (ashlarlaw09_SatMore.j0 k t424 (Int.tmod (Go.bits .and .i64 a2 65535) 6) t423 bt448.1 bt448.2.1 true)) else (ashlarlaw09_SatMore.j0 k t424 (Int.tmod (Go.bits .and .i64 a2 65535) 6) t423 bt448.1 bt448.2.1 (bt441.1 != bt455.1)))))) else (some t423)))) else (none)) else (none)) else (none)) else (none)))))
theorem ashlarlaw09_SatMore.mono_l : ∀ k, (∀ y0 y1 y2 y3 y4 y5, LeO (ashlarlaw09_SatMore.j0 k y0 y1 y2 y3 y4 y5) (ashlarlaw09_SatMore.j0 (k + 1) y0 y1 y2 y3 y4 y5))
 | 0 => fun _ _ _ _ _ _ r h => by simp [ashlarlaw09_SatMore.j0] at h
 | k + 1 => by
  have ih0 := ashlarlaw09_SatMore.mono_l k
  ·intro y0 y1 y2 y3 y4 y5
   unfold ashlarlaw09_SatMore.j0
   repeat' first
   | (with_reducible exact ih0 _ _ _ _ _ _)
   | (with_reducible exact ashlarlaw09_few.mono _ _)
   | (with_reducible exact ashlarlaw09_shown.mono _)
   | (with_reducible exact ashlarref09_Good.mono _ _ _ _ _ _)
   | (with_reducible exact ashlarref09_Right.mono _ _ _)
   | (with_reducible exact sat_Solve.mono _ _ _ _)
   | (with_reducible exact LeO.refl _)
   | (with_reducible exact LeO.none _)
   | (with_reducible refine LeO.ite ?_ ?_)
   | (with_reducible refine LeO.bind ?_ (fun _ => ?_))
   | exact ih0 _ _ _ _ _ _
   | exact ashlarlaw09_few.mono _ _
   | exact ashlarlaw09_shown.mono _
   | exact ashlarref09_Good.mono _ _ _ _ _ _
   | exact ashlarref09_Right.mono _ _ _
   | exact sat_Solve.mono _ _ _ _
   | exact LeO.none _
   | refine LeO.ite ?_ ?_
   | refine LeO.bind ?_ (fun _ => ?_)
theorem ashlarlaw09_SatMore.mono : ∀ a0 a1 a2 k, LeO (ashlarlaw09_SatMore.f k a0 a1 a2) (ashlarlaw09_SatMore.f (k + 1) a0 a1 a2) := by
 intro a0 a1 a2 k
 have ih0 := ashlarlaw09_SatMore.mono_l k
 unfold ashlarlaw09_SatMore.f
 repeat' first
   | (with_reducible exact ih0 _ _ _ _ _ _)
   | (with_reducible exact ashlarlaw09_few.mono _ _)
   | (with_reducible exact ashlarlaw09_shown.mono _)
   | (with_reducible exact ashlarref09_Good.mono _ _ _ _ _ _)
   | (with_reducible exact ashlarref09_Right.mono _ _ _)
   | (with_reducible exact sat_Solve.mono _ _ _ _)
   | (with_reducible exact LeO.refl _)
   | (with_reducible exact LeO.none _)
   | (with_reducible refine LeO.ite ?_ ?_)
   | (with_reducible refine LeO.bind ?_ (fun _ => ?_))
   | exact ih0 _ _ _ _ _ _
   | exact ashlarlaw09_few.mono _ _
   | exact ashlarlaw09_shown.mono _
   | exact ashlarref09_Good.mono _ _ _ _ _ _
   | exact ashlarref09_Right.mono _ _ _
   | exact sat_Solve.mono _ _ _ _
   | exact LeO.none _
   | refine LeO.ite ?_ ?_
   | refine LeO.bind ?_ (fun _ => ?_)
def ashlarlaw09_SatMore.T4 : Bool × List (List Nat × List Nat) := (true, [([], []), ([0], [0]), ([], []), ([], []), ([], []), ([4], [4]), ([5], [5]), ([3, 6], [3, 6]), ([2, 7, 1], [2, 7]), ([8], [8]), ([1, 9, 8], [1, 9]), ([10, 10, 0, 1, 2, 3, 4, 5, 6, 7, 8, 9, 10], [10])])
def ashlarlaw09_SatMore.B4 : List Nat := [0, 1, 0, 0, 0, 16, 48, 120, 255, 511, 1023, 2047]
theorem ashlarlaw09_SatMore.tab4 : rtab .any (opsOf Try.f8 4) = ashlarlaw09_SatMore.T4 := by kernel_rfl
theorem ashlarlaw09_SatMore.bits4 : waitsOk ashlarlaw09_SatMore.T4.2 ashlarlaw09_SatMore.B4 = true := by kernel_rfl
set_option maxHeartbeats 8000000 in
set_option maxRecDepth 100000 in
theorem ashlarlaw09_SatMore.calls (k : Nat) (A0 : Option Addr) (c0 : Nat) (l0 : List (List Int)) (A1 : Option Addr) (c1 : Nat) (l1 : List Int) (a2 : Int) (r : Bool) (w : World) (hr0 : Kd.C (Kd.slice 3 (Kd.int .i64)) w A0 l0.length l0) (hc0 : l0.length ≤ c0) (hr1 : Kd.C (Kd.int .i64) w A1 l1.length l1) (hc1 : l1.length ≤ c1) (h : ashlarlaw09_SatMore.f k l0 l1 a2 = some r) :
  Calls Try.prog 8 #[.slice A0 l0.length c0, .slice A1 l1.length c1, .int .i64 a2] w fun e w' => e = .returned (.bool r) ∧ Below w.heap.size w w' := by
 have HR0 := Aside0.mk hr0
 have HC0 := Aside0.mk hc0
 clear hr0 hc0
 have HR1 := Aside0.mk hr1
 have HC1 := Aside0.mk hc1
 clear hr1 hc1
 have HB := Aside0.mk (Below.refl w.heap.size w)
 have H : ((ashlarlaw09_shown.f k).bind fun t423 => ((ashlarlaw09_few.f k l0).bind fun t424 => ((ashlarlaw09_few.f k t424).bind fun t427 => ((some (([] : List Int) : List Int)).bind fun y430 => (if 0 ≤ (mn (l1.length : Int) 10) then (if (mn (l1.length : Int) 10) ≤ (l1.length : Int) then (if y430.length + (l1.take ((mn (l1.length : Int) 10) : Int).toNat).length < 17592186044416 then (if t427.length < 5864062014805 then ((some (t427 ++ [(y430 ++ (l1.take ((mn (l1.length : Int) 10) : Int).toNat))] : List (List Int))).bind fun y437 => ((ashlarref09_Right.f k y437 (Int.tmod (Go.bits .and .i64 a2 65535) 6)).bind fun t440 => (if t440 = true then ((sat_Solve.f k t424 (Int.tmod (Go.bits .and .i64 a2 65535) 6) 243).bind fun bt441 => ((sat_Solve.f k y437 (Int.tmod (Go.bits .and .i64 a2 65535) 6) 243).bind fun bt448 => ((sat_Solve.f k t424 (wrap64 ((Int.tmod (Go.bits .and .i64 a2 65535) 6) + 3)) 6561).bind fun bt455 => (if bt441.1 = 2 then (if bt448.1 = 2 then (ashlarlaw09_SatMore.j0 k t424 (Int.tmod (Go.bits .and .i64 a2 65535) 6) t423 bt448.1 bt448.2.1 (bt441.1 != bt455.1)) else (ashlarlaw09_SatMore.j0 k t424 (Int.tmod (Go.bits .and .i64 a2 65535) 6) t423 bt448.1 bt448.2.1 true)) else (ashlarlaw09_SatMore.j0 k t424 (Int.tmod (Go.bits .and .i64 a2 65535) 6) t423 bt448.1 bt448.2.1 (bt441.1 != bt455.1)))))) else (some t423)))) else (none)) else (none)) else (none)) else (none)))))) = some r := h
 clear h
 replace H := Option.bind_eq_some_iff.mp H
 obtain ⟨t423, A40, H⟩ := H
 replace H : ((ashlarlaw09_few.f k l0).bind fun t424 => ((ashlarlaw09_few.f k t424).bind fun t427 => ((some (([] : List Int) : List Int)).bind fun y430 => (if 0 ≤ (mn (l1.length : Int) 10) then (if (mn (l1.length : Int) 10) ≤ (l1.length : Int) then (if y430.length + (l1.take ((mn (l1.length : Int) 10) : Int).toNat).length < 17592186044416 then (if t427.length < 5864062014805 then ((some (t427 ++ [(y430 ++ (l1.take ((mn (l1.length : Int) 10) : Int).toNat))] : List (List Int))).bind fun y437 => ((ashlarref09_Right.f k y437 (Int.tmod (Go.bits .and .i64 a2 65535) 6)).bind fun t440 => (if t440 = true then ((sat_Solve.f k t424 (Int.tmod (Go.bits .and .i64 a2 65535) 6) 243).bind fun bt441 => ((sat_Solve.f k y437 (Int.tmod (Go.bits .and .i64 a2 65535) 6) 243).bind fun bt448 => ((sat_Solve.f k t424 (wrap64 ((Int.tmod (Go.bits .and .i64 a2 65535) 6) + 3)) 6561).bind fun bt455 => (if bt441.1 = 2 then (if bt448.1 = 2 then (ashlarlaw09_SatMore.j0 k t424 (Int.tmod (Go.bits .and .i64 a2 65535) 6) t423 bt448.1 bt448.2.1 (bt441.1 != bt455.1)) else (ashlarlaw09_SatMore.j0 k t424 (Int.tmod (Go.bits .and .i64 a2 65535) 6) t423 bt448.1 bt448.2.1 true)) else (ashlarlaw09_SatMore.j0 k t424 (Int.tmod (Go.bits .and .i64 a2 65535) 6) t423 bt448.1 bt448.2.1 (bt441.1 != bt455.1)))))) else (some t423)))) else (none)) else (none)) else (none)) else (none))))) = some r := H
 have A4 := Aside0.mk A40
 clear A40
 replace H := Option.bind_eq_some_iff.mp H
 obtain ⟨t424, A50, H⟩ := H
 replace H : ((ashlarlaw09_few.f k t424).bind fun t427 => ((some (([] : List Int) : List Int)).bind fun y430 => (if 0 ≤ (mn (l1.length : Int) 10) then (if (mn (l1.length : Int) 10) ≤ (l1.length : Int) then (if y430.length + (l1.take ((mn (l1.length : Int) 10) : Int).toNat).length < 17592186044416 then (if t427.length < 5864062014805 then ((some (t427 ++ [(y430 ++ (l1.take ((mn (l1.length : Int) 10) : Int).toNat))] : List (List Int))).bind fun y437 => ((ashlarref09_Right.f k y437 (Int.tmod (Go.bits .and .i64 a2 65535) 6)).bind fun t440 => (if t440 = true then ((sat_Solve.f k t424 (Int.tmod (Go.bits .and .i64 a2 65535) 6) 243).bind fun bt441 => ((sat_Solve.f k y437 (Int.tmod (Go.bits .and .i64 a2 65535) 6) 243).bind fun bt448 => ((sat_Solve.f k t424 (wrap64 ((Int.tmod (Go.bits .and .i64 a2 65535) 6) + 3)) 6561).bind fun bt455 => (if bt441.1 = 2 then (if bt448.1 = 2 then (ashlarlaw09_SatMore.j0 k t424 (Int.tmod (Go.bits .and .i64 a2 65535) 6) t423 bt448.1 bt448.2.1 (bt441.1 != bt455.1)) else (ashlarlaw09_SatMore.j0 k t424 (Int.tmod (Go.bits .and .i64 a2 65535) 6) t423 bt448.1 bt448.2.1 true)) else (ashlarlaw09_SatMore.j0 k t424 (Int.tmod (Go.bits .and .i64 a2 65535) 6) t423 bt448.1 bt448.2.1 (bt441.1 != bt455.1)))))) else (some t423)))) else (none)) else (none)) else (none)) else (none)))) = some r := H
 have A5 := Aside0.mk A50
 clear A50
 replace H := Option.bind_eq_some_iff.mp H
 obtain ⟨t427, A60, H⟩ := H
 replace H : ((some (([] : List Int) : List Int)).bind fun y430 => (if 0 ≤ (mn (l1.length : Int) 10) then (if (mn (l1.length : Int) 10) ≤ (l1.length : Int) then (if y430.length + (l1.take ((mn (l1.length : Int) 10) : Int).toNat).length < 17592186044416 then (if t427.length < 5864062014805 then ((some (t427 ++ [(y430 ++ (l1.take ((mn (l1.length : Int) 10) : Int).toNat))] : List (List Int))).bind fun y437 => ((ashlarref09_Right.f k y437 (Int.tmod (Go.bits .and .i64 a2 65535) 6)).bind fun t440 => (if t440 = true then ((sat_Solve.f k t424 (Int.tmod (Go.bits .and .i64 a2 65535) 6) 243).bind fun bt441 => ((sat_Solve.f k y437 (Int.tmod (Go.bits .and .i64 a2 65535) 6) 243).bind fun bt448 => ((sat_Solve.f k t424 (wrap64 ((Int.tmod (Go.bits .and .i64 a2 65535) 6) + 3)) 6561).bind fun bt455 => (if bt441.1 = 2 then (if bt448.1 = 2 then (ashlarlaw09_SatMore.j0 k t424 (Int.tmod (Go.bits .and .i64 a2 65535) 6) t423 bt448.1 bt448.2.1 (bt441.1 != bt455.1)) else (ashlarlaw09_SatMore.j0 k t424 (Int.tmod (Go.bits .and .i64 a2 65535) 6) t423 bt448.1 bt448.2.1 true)) else (ashlarlaw09_SatMore.j0 k t424 (Int.tmod (Go.bits .and .i64 a2 65535) 6) t423 bt448.1 bt448.2.1 (bt441.1 != bt455.1)))))) else (some t423)))) else (none)) else (none)) else (none)) else (none))) = some r := H
 have A6 := Aside0.mk A60
 clear A60
 obtain ⟨y430, hy430⟩ : ∃ y_ : List Int, y_ = (([] : List Int)) := ⟨_, rfl⟩
 replace H : (if 0 ≤ (mn (l1.length : Int) 10) then (if (mn (l1.length : Int) 10) ≤ (l1.length : Int) then (if y430.length + (l1.take ((mn (l1.length : Int) 10) : Int).toNat).length < 17592186044416 then (if t427.length < 5864062014805 then ((some (t427 ++ [(y430 ++ (l1.take ((mn (l1.length : Int) 10) : Int).toNat))] : List (List Int))).bind fun y437 => ((ashlarref09_Right.f k y437 (Int.tmod (Go.bits .and .i64 a2 65535) 6)).bind fun t440 => (if t440 = true then ((sat_Solve.f k t424 (Int.tmod (Go.bits .and .i64 a2 65535) 6) 243).bind fun bt441 => ((sat_Solve.f k y437 (Int.tmod (Go.bits .and .i64 a2 65535) 6) 243).bind fun bt448 => ((sat_Solve.f k t424 (wrap64 ((Int.tmod (Go.bits .and .i64 a2 65535) 6) + 3)) 6561).bind fun bt455 => (if bt441.1 = 2 then (if bt448.1 = 2 then (ashlarlaw09_SatMore.j0 k t424 (Int.tmod (Go.bits .and .i64 a2 65535) 6) t423 bt448.1 bt448.2.1 (bt441.1 != bt455.1)) else (ashlarlaw09_SatMore.j0 k t424 (Int.tmod (Go.bits .and .i64 a2 65535) 6) t423 bt448.1 bt448.2.1 true)) else (ashlarlaw09_SatMore.j0 k t424 (Int.tmod (Go.bits .and .i64 a2 65535) 6) t423 bt448.1 bt448.2.1 (bt441.1 != bt455.1)))))) else (some t423)))) else (none)) else (none)) else (none)) else (none)) = some r := by first | (rw [hy430]; with_reducible exact H) | (have H2_ := (Option.bind_some _ _).symm.trans H; rw [hy430]; with_reducible exact H2_) | (have H2_ := (Option.bind_some _ _).symm.trans H; with_reducible exact H2_) | with_reducible exact H | (rw [hy430]; exact H) | exact H
 have Ny430 := Aside0.mk hy430
 clear hy430
 obtain ⟨ji7, hji7⟩ : ∃ j_ : Int, (mn (l1.length : Int) 10) = j_ := ⟨_, rfl⟩
 replace H : (if 0 ≤ (ji7) then (if (ji7) ≤ (l1.length : Int) then (if y430.length + (l1.take ((ji7) : Int).toNat).length < 17592186044416 then (if t427.length < 5864062014805 then ((some (t427 ++ [(y430 ++ (l1.take ((ji7) : Int).toNat))] : List (List Int))).bind fun y437 => ((ashlarref09_Right.f k y437 (Int.tmod (Go.bits .and .i64 a2 65535) 6)).bind fun t440 => (if t440 = true then ((sat_Solve.f k t424 (Int.tmod (Go.bits .and .i64 a2 65535) 6) 243).bind fun bt441 => ((sat_Solve.f k y437 (Int.tmod (Go.bits .and .i64 a2 65535) 6) 243).bind fun bt448 => ((sat_Solve.f k t424 (wrap64 ((Int.tmod (Go.bits .and .i64 a2 65535) 6) + 3)) 6561).bind fun bt455 => (if bt441.1 = 2 then (if bt448.1 = 2 then (ashlarlaw09_SatMore.j0 k t424 (Int.tmod (Go.bits .and .i64 a2 65535) 6) t423 bt448.1 bt448.2.1 (bt441.1 != bt455.1)) else (ashlarlaw09_SatMore.j0 k t424 (Int.tmod (Go.bits .and .i64 a2 65535) 6) t423 bt448.1 bt448.2.1 true)) else (ashlarlaw09_SatMore.j0 k t424 (Int.tmod (Go.bits .and .i64 a2 65535) 6) t423 bt448.1 bt448.2.1 (bt441.1 != bt455.1)))))) else (some t423)))) else (none)) else (none)) else (none)) else (none)) = some r := by first | (rw [hji7] at H; exact H) | (simp only [hji7] at H ⊢; exact H)
 (try rw [hji7] at A4)
 (try rw [hji7] at A5)
 (try rw [hji7] at A6)
 (try (have hji7h : ji7 ≤ 10 := by (rw [← hji7]; unfold mn; (repeat' split) <;> omega)))
 (try (have hji7g : ji7 ≤ 64 := by omega))
 (try (have hji7l : 0 ≤ ji7 := by (rw [← hji7]; unfold mn; (repeat' split) <;> omega)))
 (try (have hji7m : 0 ≤ ji7 := by omega))
 have hji7_ : (if 10 < (l1.length : Int) then 10 else (l1.length : Int)) = ji7 := hji7
 by_cases c8 : 0 ≤ (ji7)
 ·rw [if_pos c8] at H
  have c8b0 := eq_true c8
  have c8b1 : decide (0 ≤ (ji7)) = true := decide_eq_true c8
  clear c8
  by_cases c9 : (ji7) ≤ (l1.length : Int)
  ·rw [if_pos c9] at H
   have c9b0 := eq_true c9
   have c9b1 : decide ((ji7) ≤ (l1.length : Int)) = true := decide_eq_true c9
   clear c9
   by_cases c10 : y430.length + (l1.take ((ji7) : Int).toNat).length < 17592186044416
   ·rw [if_pos c10] at H
    have LMc10 := Aside0.mk c10
    clear c10
    obtain ⟨y434, hy434⟩ : ∃ y_ : List Int, y_ = (y430 ++ (l1.take ((ji7) : Int).toNat)) := ⟨_, rfl⟩
    replace H : (if t427.length < 5864062014805 then ((some (t427 ++ [y434] : List (List Int))).bind fun y437 => ((ashlarref09_Right.f k y437 (Int.tmod (Go.bits .and .i64 a2 65535) 6)).bind fun t440 => (if t440 = true then ((sat_Solve.f k t424 (Int.tmod (Go.bits .and .i64 a2 65535) 6) 243).bind fun bt441 => ((sat_Solve.f k y437 (Int.tmod (Go.bits .and .i64 a2 65535) 6) 243).bind fun bt448 => ((sat_Solve.f k t424 (wrap64 ((Int.tmod (Go.bits .and .i64 a2 65535) 6) + 3)) 6561).bind fun bt455 => (if bt441.1 = 2 then (if bt448.1 = 2 then (ashlarlaw09_SatMore.j0 k t424 (Int.tmod (Go.bits .and .i64 a2 65535) 6) t423 bt448.1 bt448.2.1 (bt441.1 != bt455.1)) else (ashlarlaw09_SatMore.j0 k t424 (Int.tmod (Go.bits .and .i64 a2 65535) 6) t423 bt448.1 bt448.2.1 true)) else (ashlarlaw09_SatMore.j0 k t424 (Int.tmod (Go.bits .and .i64 a2 65535) 6) t423 bt448.1 bt448.2.1 (bt441.1 != bt455.1)))))) else (some t423)))) else (none)) = some r := by first | (rw [hy434]; with_reducible exact H) | (have H2_ := (Option.bind_some _ _).symm.trans H; rw [hy434]; with_reducible exact H2_) | (have H2_ := (Option.bind_some _ _).symm.trans H; with_reducible exact H2_) | with_reducible exact H | (rw [hy434]; exact H) | exact H
    have Ny434 := Aside0.mk hy434
    clear hy434
    by_cases c11 : t427.length < 5864062014805
    ·rw [if_pos c11] at H
     have LMc11 := Aside0.mk c11
     clear c11
     obtain ⟨y437, hy437⟩ : ∃ y_ : List (List Int), y_ = (t427 ++ [y434]) := ⟨_, rfl⟩
     replace H : ((ashlarref09_Right.f k y437 (Int.tmod (Go.bits .and .i64 a2 65535) 6)).bind fun t440 => (if t440 = true then ((sat_Solve.f k t424 (Int.tmod (Go.bits .and .i64 a2 65535) 6) 243).bind fun bt441 => ((sat_Solve.f k y437 (Int.tmod (Go.bits .and .i64 a2 65535) 6) 243).bind fun bt448 => ((sat_Solve.f k t424 (wrap64 ((Int.tmod (Go.bits .and .i64 a2 65535) 6) + 3)) 6561).bind fun bt455 => (if bt441.1 = 2 then (if bt448.1 = 2 then (ashlarlaw09_SatMore.j0 k t424 (Int.tmod (Go.bits .and .i64 a2 65535) 6) t423 bt448.1 bt448.2.1 (bt441.1 != bt455.1)) else (ashlarlaw09_SatMore.j0 k t424 (Int.tmod (Go.bits .and .i64 a2 65535) 6) t423 bt448.1 bt448.2.1 true)) else (ashlarlaw09_SatMore.j0 k t424 (Int.tmod (Go.bits .and .i64 a2 65535) 6) t423 bt448.1 bt448.2.1 (bt441.1 != bt455.1)))))) else (some t423))) = some r := by first | (rw [hy437]; with_reducible exact H) | (have H2_ := (Option.bind_some _ _).symm.trans H; rw [hy437]; with_reducible exact H2_) | (have H2_ := (Option.bind_some _ _).symm.trans H; with_reducible exact H2_) | with_reducible exact H | (rw [hy437]; exact H) | exact H
     have Ny437 := Aside0.mk hy437
     clear hy437
     replace H := Option.bind_eq_some_iff.mp H
     obtain ⟨t440, A120, H⟩ := H
     replace H : (if t440 = true then ((sat_Solve.f k t424 (Int.tmod (Go.bits .and .i64 a2 65535) 6) 243).bind fun bt441 => ((sat_Solve.f k y437 (Int.tmod (Go.bits .and .i64 a2 65535) 6) 243).bind fun bt448 => ((sat_Solve.f k t424 (wrap64 ((Int.tmod (Go.bits .and .i64 a2 65535) 6) + 3)) 6561).bind fun bt455 => (if bt441.1 = 2 then (if bt448.1 = 2 then (ashlarlaw09_SatMore.j0 k t424 (Int.tmod (Go.bits .and .i64 a2 65535) 6) t423 bt448.1 bt448.2.1 (bt441.1 != bt455.1)) else (ashlarlaw09_SatMore.j0 k t424 (Int.tmod (Go.bits .and .i64 a2 65535) 6) t423 bt448.1 bt448.2.1 true)) else (ashlarlaw09_SatMore.j0 k t424 (Int.tmod (Go.bits .and .i64 a2 65535) 6) t423 bt448.1 bt448.2.1 (bt441.1 != bt455.1)))))) else (some t423)) = some r := H
     have A12 := Aside0.mk A120
     clear A120
     by_cases c13 : t440 = true
     ·subst c13
      have H1 : ((sat_Solve.f k t424 (Int.tmod (Go.bits .and .i64 a2 65535) 6) 243).bind fun bt441 => ((sat_Solve.f k y437 (Int.tmod (Go.bits .and .i64 a2 65535) 6) 243).bind fun bt448 => ((sat_Solve.f k t424 (wrap64 ((Int.tmod (Go.bits .and .i64 a2 65535) 6) + 3)) 6561).bind fun bt455 => (if bt441.1 = 2 then (if bt448.1 = 2 then (ashlarlaw09_SatMore.j0 k t424 (Int.tmod (Go.bits .and .i64 a2 65535) 6) t423 bt448.1 bt448.2.1 (bt441.1 != bt455.1)) else (ashlarlaw09_SatMore.j0 k t424 (Int.tmod (Go.bits .and .i64 a2 65535) 6) t423 bt448.1 bt448.2.1 true)) else (ashlarlaw09_SatMore.j0 k t424 (Int.tmod (Go.bits .and .i64 a2 65535) 6) t423 bt448.1 bt448.2.1 (bt441.1 != bt455.1)))))) = some r := by rw [if_pos rfl] at H; exact H
      clear H
      have H := H1
      clear H1
      replace H := Option.bind_eq_some_iff.mp H
      obtain ⟨⟨t441, t442, t443⟩, A140, H⟩ := H
      replace H : ((sat_Solve.f k y437 (Int.tmod (Go.bits .and .i64 a2 65535) 6) 243).bind fun bt448 => ((sat_Solve.f k t424 (wrap64 ((Int.tmod (Go.bits .and .i64 a2 65535) 6) + 3)) 6561).bind fun bt455 => (if t441 = 2 then (if bt448.1 = 2 then (ashlarlaw09_SatMore.j0 k t424 (Int.tmod (Go.bits .and .i64 a2 65535) 6) t423 bt448.1 bt448.2.1 (t441 != bt455.1)) else (ashlarlaw09_SatMore.j0 k t424 (Int.tmod (Go.bits .and .i64 a2 65535) 6) t423 bt448.1 bt448.2.1 true)) else (ashlarlaw09_SatMore.j0 k t424 (Int.tmod (Go.bits .and .i64 a2 65535) 6) t423 bt448.1 bt448.2.1 (t441 != bt455.1))))) = some r := H
      have A14 := Aside0.mk A140
      clear A140
      replace H := Option.bind_eq_some_iff.mp H
      obtain ⟨⟨t448, t449, t450⟩, A150, H⟩ := H
      replace H : ((sat_Solve.f k t424 (wrap64 ((Int.tmod (Go.bits .and .i64 a2 65535) 6) + 3)) 6561).bind fun bt455 => (if t441 = 2 then (if t448 = 2 then (ashlarlaw09_SatMore.j0 k t424 (Int.tmod (Go.bits .and .i64 a2 65535) 6) t423 t448 t449 (t441 != bt455.1)) else (ashlarlaw09_SatMore.j0 k t424 (Int.tmod (Go.bits .and .i64 a2 65535) 6) t423 t448 t449 true)) else (ashlarlaw09_SatMore.j0 k t424 (Int.tmod (Go.bits .and .i64 a2 65535) 6) t423 t448 t449 (t441 != bt455.1)))) = some r := H
      have A15 := Aside0.mk A150
      clear A150
      replace H := Option.bind_eq_some_iff.mp H
      obtain ⟨⟨t455, t456, t457⟩, A160, H⟩ := H
      replace H : (if t441 = 2 then (if t448 = 2 then (ashlarlaw09_SatMore.j0 k t424 (Int.tmod (Go.bits .and .i64 a2 65535) 6) t423 t448 t449 (t441 != t455)) else (ashlarlaw09_SatMore.j0 k t424 (Int.tmod (Go.bits .and .i64 a2 65535) 6) t423 t448 t449 true)) else (ashlarlaw09_SatMore.j0 k t424 (Int.tmod (Go.bits .and .i64 a2 65535) 6) t423 t448 t449 (t441 != t455))) = some r := H
      have A16 := Aside0.mk A160
      clear A160
      have HC17 := Aside0.mk H
      clear H
      go_enter Try.func8, Try.ntmps8
      try go_wp2_with (first | ((with_reducible refine gate_callee (f := 12) rfl ?_); refine goesL_ (some 19) rfl rfl Try.func12 (by kernel_rfl) rfl #[] rfl (by (try simp only [List.map_toArray, List.map_cons, List.map_nil]); first | done | rfl | (simp only [List.length_drop, List.length_take]; rfl)) ?_; (with_reducible refine (ashlarlaw09_shown.calls k  t423 _ A4.out).mono ?_); rintro e w18 ⟨rfl, hb⟩; refine ⟨_, rfl, ?_⟩; have n0_ := Aside0.mk (below_step (by repeat (first | (with_reducible first | exact HB.out | apply below_alloc | apply pw_below_drewN | apply below_drew1) | exact HB.out)) hb); clear HB; have HB := n0_; clear n0_; (try clear hb); (try clear hb2); (try clear hk); (try clear hi)) | ((with_reducible refine gate_callee (f := 13) rfl ?_); refine goesL_ (some 21) rfl rfl Try.func13 (by kernel_rfl) rfl #[.slice A0 l0.length c0] rfl (by (try simp only [List.map_toArray, List.map_cons, List.map_nil]); first | done | rfl | (simp only [List.length_drop, List.length_take]; rfl)) ?_; (with_reducible refine (ashlarlaw09_few.calls k _ _ l0 t424 _ ?side1 ?side2 A5.out).mono ?_); (case side1 => repeat (first | exact (Kd.C_below HR0.out HB.out) | (with_reducible refine Kd.C_alloc ?_ _) | (with_reducible refine Kd.C_drewN ?_ _) | (with_reducible refine Kd.C_drew ?_))); (case side2 => exact HC0.out); rintro e w19 ⟨v425, rfl, ho0, hb⟩; refine ⟨_, rfl, ?_⟩; have n0_ := Aside0.mk (Kd.S_lower ho0 (below_size (by repeat (first | (with_reducible first | exact HB.out | apply below_alloc | apply pw_below_drewN | apply below_drew1) | exact HB.out)))); have n1_ := Aside0.mk (below_step (by repeat (first | (with_reducible first | exact HB.out | apply below_alloc | apply pw_below_drewN | apply below_drew1) | exact HB.out)) hb); clear HB; have HO426 := n0_; have HB := n1_; clear n0_ n1_; (try clear hb); (try clear hb2); (try clear hk); (try clear hi); (try clear ho0); obtain ⟨Ao20, co20, eo20⟩ := Kd.S_slice HO426.out; subst eo20))
      have n0_ := Aside0.mk (Kd.S_drew HO426.out)
      have n1_ := Aside0.mk (below_drew1 HB.out)
      clear HO426
      clear HB
      have HO426 := n0_
      have HB := n1_
      clear n0_ n1_
      obtain ⟨i022, hi022, _, hsz22, _⟩ := info_parts info3
      obtain ⟨hcut22, hA22, hC22⟩ := print_take_of (P := Try.prog) (Value.int .i64) 0 32 3 .i64 Try.underlying32 hi022 hsz22 A1 c1 l1 (ji7) (of_decide_eq_true (by first | (with_reducible assumption) | assumption)) (of_decide_eq_true (by first | (with_reducible assumption) | assumption)) HC1.out
      have HR433 := Aside0.mk (Kd.C_of_reads (h1 := fun _ => rfl) (hA22 _ (Kd.reads_of_C HR1.out)))
      have HC433 := Aside0.mk hC22
      clear hA22 hC22 hi022 hsz22
      refine start_ (n := 12) (S := fun w' => True) (ds := []) #[false, false, false, false, false, false, false, false, false, false, false, false] (by kernel_rfl) rfl rfl trivial (fun hHeld => ?_); refine with_tabW ashlarlaw09_SatMore.tab4 ashlarlaw09_SatMore.bits4 (fun HT_ HW_ => ?_)
      generalize w19.drew = w21 at HO426 HB HR433 hHeld ⊢
      refine pure_ (i := 0) (N := some 25) (v := ?_) (a' := ?_) #[true, false, false, false, false, false, false, false, false, false, false, false] rfl rfl (any_of HT_.out (by kernel_rfl)) (fun _ _ _ h => h) (Or.inl ⟨by rfl, ?_⟩) ?_ ?_
      rotate_left
      ·intro w'
       go_simp
       with_reducible rfl
      rotate_left
      ·simp only [Act.put, List.setIfInBounds_toArray, List.set_cons_zero, List.set_cons_succ, i64_w, i32_w]
       rfl
      refine pure_ (i := 3) (N := some 28) (v := ?_) (a' := ?_) #[true, false, false, true, false, false, false, false, false, false, false, false] rfl rfl (any_of HT_.out (by kernel_rfl)) (fun _ _ _ h => h) (Or.inl ⟨by rfl, ?_⟩) ?_ ?_
      rotate_left
      ·intro w'
       go_simp
       with_reducible rfl
      rotate_left
      ·simp only [Act.put, List.setIfInBounds_toArray, List.set_cons_zero, List.set_cons_succ, i64_w, i32_w]
       rfl
      refine pure_ (i := 4) (N := some 29) (v := ?_) (a' := ?_) #[true, false, false, true, true, false, false, false, false, false, false, false] rfl rfl (any_of HT_.out (by kernel_rfl)) (fun _ _ _ h => h) (Or.inl ⟨by rfl, ?_⟩) ?_ ?_
      rotate_left
      ·intro w'
       go_simp
       with_reducible rfl
      rotate_left
      ·simp only [Act.put, List.setIfInBounds_toArray, List.set_cons_zero, List.set_cons_succ, i64_w, i32_w]
       rfl
      refine pure_ (i := 5) (N := some 30) (v := ?_) (a' := ?_) #[true, false, false, true, true, true, false, false, false, false, false, false] rfl rfl (any_of HT_.out (by kernel_rfl)) (fun _ _ _ h => h) (Or.inl ⟨by rfl, ?_⟩) ?_ ?_
      rotate_left
      ·intro w'
       go_simp
       with_reducible rfl
      rotate_left
      ·simp only [Act.put, List.setIfInBounds_toArray, List.set_cons_zero, List.set_cons_succ, i64_w, i32_w]
       rfl
      refine pure_ (i := 6) (N := some 31) (v := ?_) (a' := ?_) #[true, false, false, true, true, true, true, false, false, false, false, false] rfl rfl (any_of HT_.out (by kernel_rfl)) (fun _ _ _ h => h) (Or.inl ⟨by rfl, ?_⟩) ?_ ?_
      rotate_left
      ·intro w'
       go_simp
       with_reducible rfl
      rotate_left
      ·simp only [Act.put, List.setIfInBounds_toArray, List.set_cons_zero, List.set_cons_succ, i64_w, i32_w]
       rfl
      refine pure_ (i := 7) (N := some 32) (v := ?_) (a' := ?_) #[true, false, false, true, true, true, true, true, false, false, false, false] rfl rfl (any_of HT_.out (by kernel_rfl)) (fun _ _ _ h => h) (Or.inl ⟨by rfl, ?_⟩) ?_ ?_
      rotate_left
      ·intro w'
       go_simp
       with_reducible rfl
      rotate_left
      ·simp only [Act.put, List.setIfInBounds_toArray, List.set_cons_zero, List.set_cons_succ, i64_w, i32_w]
       rfl
      refine join_ (σ := Value × Value) 4 #[true, true, true, true, true, true, true, true, false, false, false, false] (fun s_ => [(26, s_.1), (27, s_.2)]) (fun s_ w' => (Kd.S (Kd.slice 3 (Kd.int .i64)) 32 w' w.heap.size (fun k_ => some k_ ≠ (s_.1 : Value).ownBlock ∧ some k_ ≠ (s_.2 : Value).ownBlock) (.slice Ao20 t424.length co20) t424) ∧ (Kd.S (Kd.slice 3 (Kd.int .i64)) 32 w' w.heap.size (fun k_ => some k_ ≠ (.slice Ao20 t424.length co20 : Value).ownBlock ∧ some k_ ≠ (s_.2 : Value).ownBlock) s_.1 t427) ∧ (Kd.R (Kd.int .i64) 3 w' w.heap.size (fun _ => True) s_.2 y430) ∧ (Below w.heap.size w w')) ?_ ?_
      rotate_left
      ·intro hCont
       refine two_ (i := 1) (j := 2) (Ni := some 26) (Nj := some 27) #[true, true, false, true, true, true, true, true, false, false, false, false] #[true, false, true, true, true, true, true, true, false, false, false, false] rfl rfl rfl rfl (two_of HT_.out (by kernel_rfl)) (by decide) (by decide) (fun K hK => ?_) (fun K hK => ?_)
       ·skip
        refine goes_ Try.func13 (by kernel_rfl) rfl #[.slice Ao20 t424.length co20] (by rfl) rfl rfl (by (try simp only [List.map_toArray, List.map_cons, List.map_nil]); first | done | rfl | (simp only [List.length_drop, List.length_take]; rfl)) ?_
        with_reducible refine (ashlarlaw09_few.calls k _ _ t424 t427 _ ?side1 ?side2 A6.out).mono ?_
        (case side1 => repeat (first | exact (Kd.S_reads' HO426.out).2.2 | (with_reducible refine Kd.C_alloc ?_ _) | (with_reducible refine Kd.C_drewN ?_ _) | (with_reducible refine Kd.C_drew ?_)))
        (case side2 => exact (Kd.S_reads' HO426.out).2.1)
        rintro e w23 ⟨v428, rfl, ho0, hb⟩
        refine ⟨_, rfl, ?_⟩
        have n0_ := Aside0.mk (Kd.S_elder' (by (with_reducible repeat (first | apply Kd.S_alloc | apply Kd.S_drewN | apply Kd.S_drew)); exact HO426.out) (Kd.S_base ho0) hb)
        have n1_ := Aside0.mk (Kd.S_lower (Kd.S_new' ho0 (Kd.S_lt (by (with_reducible repeat (first | apply Kd.S_alloc | apply Kd.S_drewN | apply Kd.S_drew)); exact HO426.out))) (below_size (by repeat (first | (with_reducible first | exact HB.out | apply below_alloc | apply pw_below_drewN | apply below_drew1) | exact HB.out))))
        have n2_ := Aside0.mk (below_step (by repeat (first | (with_reducible first | exact HB.out | apply below_alloc | apply pw_below_drewN | apply below_drew1) | exact HB.out)) hb)
        clear HO426
        clear HB
        have HO426 := n0_
        have HO429 := n1_
        have HB := n2_
        clear n0_ n1_ n2_
        (try clear hb)
        (try clear hb2)
        (try clear hk)
        (try clear hi)
        (try clear ho0)
        refine hK.out _ _ trivial (fun hHeld => ?_)
        clear hK K
        refine norm_ (a' := ?_) ?_ ?_
        rotate_left
        ·show Act.put _ (some 26) _ = _
         simp only [Act.put, List.setIfInBounds_toArray, List.set_cons_zero, List.set_cons_succ, i64_w, i32_w]
         rfl
        refine one_ (i := 2) (N := some 27) #[true, true, true, true, true, true, true, true, false, false, false, false] rfl rfl (one_of HT_.out (by kernel_rfl)) (by decide) (fun K hK => ?_)
        refine Kd.R_lit_step (Kd.int .i64) _ 3 ?hg (N := 27) ?hd (xs := ([] : List Int)) (inner := []) (ok := fun _ => True) (okp := fun _ => True) ?hr ?hp (fun _ hk => hk) trivial (Below.refl _ _) (Nat.le_refl _) (by simp) ?_; (case hd => rfl); (case hg => rfl); (case hr => first | (go_simp; done) | (go_simp; rfl)); (case hp => exact (Reps.none _ _))
        intro v431 w24 ho25 hb hg_ hnew_
        clear hg_ hnew_
        (first | rw [← Ny430.out] at ho25 | (simp only [Int.reduceToNat] at ho25; rw [← Ny430.out] at ho25))
        have n0_ := Aside0.mk (Kd.S_elder' (by (with_reducible repeat (first | apply Kd.S_alloc | apply Kd.S_drewN | apply Kd.S_drew)); exact HO426.out) (Kd.R_base ho25) hb)
        have n1_ := Aside0.mk (Kd.S_elder' (by (with_reducible repeat (first | apply Kd.S_alloc | apply Kd.S_drewN | apply Kd.S_drew)); exact HO429.out) (Kd.R_base ho25) hb)
        have n2_ := Aside0.mk (Kd.R_lower ho25 (below_size (by repeat (first | (with_reducible first | exact HB.out | apply below_alloc | apply pw_below_drewN | apply below_drew1) | exact HB.out))))
        have n3_ := Aside0.mk (below_step (by repeat (first | (with_reducible first | exact HB.out | apply below_alloc | apply pw_below_drewN | apply below_drew1) | exact HB.out)) hb)
        clear HO426
        clear HO429
        clear HB
        have HO426 := n0_
        have HO429 := n1_
        have HO432 := n2_
        have HB := n3_
        clear n0_ n1_ n2_ n3_
        clear hb ho25
        refine hK.out _ _ trivial (fun hHeld => ?_)
        clear hK K
        refine norm_ (a' := ?_) ?_ ?_
        rotate_left
        ·show Act.put _ (some 27) _ = _
         simp only [Act.put, List.setIfInBounds_toArray, List.set_cons_zero, List.set_cons_succ, i64_w, i32_w]
         rfl
        exact norm_ (by simp only [putAll, Act.put, List.setIfInBounds_toArray, List.set_cons_zero, List.set_cons_succ]) (hCont (v428, v431) _ ⟨(by (with_reducible repeat (first | apply Kd.S_alloc | apply Kd.S_drewN | apply Kd.S_drew)); exact Kd.S_mono HO426.out (fun _ hk => ⟨hk.1.2, hk.2⟩)), (by (with_reducible repeat (first | apply Kd.S_alloc | apply Kd.S_drewN | apply Kd.S_drew)); exact Kd.S_mono HO429.out (fun _ hk => ⟨hk.1.2, hk.2⟩)), (by (with_reducible repeat (first | apply Kd.R_alloc | apply Kd.R_drewN | apply Kd.R_drew)); exact HO432.out), (by repeat (first | (with_reducible first | exact HB.out | apply below_alloc | apply pw_below_drewN | apply below_drew1) | exact HB.out))⟩)
       ·skip
        refine Kd.R_lit_step (Kd.int .i64) _ 3 ?hg (N := 27) ?hd (xs := ([] : List Int)) (inner := []) (ok := fun _ => True) (okp := fun _ => True) ?hr ?hp (fun _ hk => hk) trivial (Below.refl _ _) (Nat.le_refl _) (by simp) ?_; (case hd => rfl); (case hg => rfl); (case hr => first | (go_simp; done) | (go_simp; rfl)); (case hp => exact (Reps.none _ _))
        intro v431 w23 ho24 hb hg_ hnew_
        clear hg_ hnew_
        (first | rw [← Ny430.out] at ho24 | (simp only [Int.reduceToNat] at ho24; rw [← Ny430.out] at ho24))
        have n0_ := Aside0.mk (Kd.S_elder' (by (with_reducible repeat (first | apply Kd.S_alloc | apply Kd.S_drewN | apply Kd.S_drew)); exact HO426.out) (Kd.R_base ho24) hb)
        have n1_ := Aside0.mk (Kd.R_lower ho24 (below_size (by repeat (first | (with_reducible first | exact HB.out | apply below_alloc | apply pw_below_drewN | apply below_drew1) | exact HB.out))))
        have n2_ := Aside0.mk (below_step (by repeat (first | (with_reducible first | exact HB.out | apply below_alloc | apply pw_below_drewN | apply below_drew1) | exact HB.out)) hb)
        clear HO426
        clear HB
        have HO426 := n0_
        have HO432 := n1_
        have HB := n2_
        clear n0_ n1_ n2_
        clear hb ho24
        refine hK.out _ _ trivial (fun hHeld => ?_)
        clear hK K
        refine norm_ (a' := ?_) ?_ ?_
        rotate_left
        ·show Act.put _ (some 27) _ = _
         simp only [Act.put, List.setIfInBounds_toArray, List.set_cons_zero, List.set_cons_succ, i64_w, i32_w]
         rfl
        refine one_ (i := 1) (N := some 26) #[true, true, true, true, true, true, true, true, false, false, false, false] rfl rfl (one_of HT_.out (by kernel_rfl)) (by decide) (fun K hK => ?_)
        refine goes_ Try.func13 (by kernel_rfl) rfl #[.slice Ao20 t424.length co20] (by rfl) rfl rfl (by (try simp only [List.map_toArray, List.map_cons, List.map_nil]); first | done | rfl | (simp only [List.length_drop, List.length_take]; rfl)) ?_
        with_reducible refine (ashlarlaw09_few.calls k _ _ t424 t427 _ ?side1 ?side2 A6.out).mono ?_
        (case side1 => repeat (first | exact (Kd.S_reads' HO426.out).2.2 | (with_reducible refine Kd.C_alloc ?_ _) | (with_reducible refine Kd.C_drewN ?_ _) | (with_reducible refine Kd.C_drew ?_)))
        (case side2 => exact (Kd.S_reads' HO426.out).2.1)
        rintro e w25 ⟨v428, rfl, ho0, hb⟩
        refine ⟨_, rfl, ?_⟩
        have n0_ := Aside0.mk (Kd.S_elder' (by (with_reducible repeat (first | apply Kd.S_alloc | apply Kd.S_drewN | apply Kd.S_drew)); exact HO426.out) (Kd.S_base ho0) hb)
        have n1_ := Aside0.mk (Kd.R_below (by (with_reducible repeat (first | apply Kd.R_alloc | apply Kd.R_drewN | apply Kd.R_drew)); exact HO432.out) hb)
        have n2_ := Aside0.mk (Kd.S_lower (Kd.S_new' (Kd.S_new' ho0 (Kd.S_lt (by (with_reducible repeat (first | apply Kd.S_alloc | apply Kd.S_drewN | apply Kd.S_drew)); exact HO426.out))) (Kd.R_lt (by (with_reducible repeat (first | apply Kd.R_alloc | apply Kd.R_drewN | apply Kd.R_drew)); exact HO432.out))) (below_size (by repeat (first | (with_reducible first | exact HB.out | apply below_alloc | apply pw_below_drewN | apply below_drew1) | exact HB.out))))
        have n3_ := Aside0.mk (below_step (by repeat (first | (with_reducible first | exact HB.out | apply below_alloc | apply pw_below_drewN | apply below_drew1) | exact HB.out)) hb)
        clear HO426
        clear HO432
        clear HB
        have HO426 := n0_
        have HO432 := n1_
        have HO429 := n2_
        have HB := n3_
        clear n0_ n1_ n2_ n3_
        (try clear hb)
        (try clear hb2)
        (try clear hk)
        (try clear hi)
        (try clear ho0)
        refine hK.out _ _ trivial (fun hHeld => ?_)
        clear hK K
        refine norm_ (a' := ?_) ?_ ?_
        rotate_left
        ·show Act.put _ (some 26) _ = _
         simp only [Act.put, List.setIfInBounds_toArray, List.set_cons_zero, List.set_cons_succ, i64_w, i32_w]
         rfl
        exact norm_ (by simp only [putAll, Act.put, List.setIfInBounds_toArray, List.set_cons_zero, List.set_cons_succ]) (hCont (v428, v431) _ ⟨(by (with_reducible repeat (first | apply Kd.S_alloc | apply Kd.S_drewN | apply Kd.S_drew)); exact Kd.S_mono HO426.out (fun _ hk => ⟨hk.2, hk.1.2⟩)), (by (with_reducible repeat (first | apply Kd.S_alloc | apply Kd.S_drewN | apply Kd.S_drew)); exact Kd.S_mono HO429.out (fun _ hk => ⟨hk.1.2, hk.2⟩)), (by (with_reducible repeat (first | apply Kd.R_alloc | apply Kd.R_drewN | apply Kd.R_drew)); exact HO432.out), (by repeat (first | (with_reducible first | exact HB.out | apply below_alloc | apply pw_below_drewN | apply below_drew1) | exact HB.out))⟩)
      rintro ⟨v428, v431⟩ w26 ⟨h0_, h1_, h2_, h3_⟩
      have n0_ : Aside0 (Kd.S (Kd.slice 3 (Kd.int .i64)) 32 w26 w.heap.size (fun k_ => some k_ ≠ (v428 : Value).ownBlock ∧ some k_ ≠ (v431 : Value).ownBlock) (.slice Ao20 t424.length co20) t424) := ⟨h0_⟩
      have n1_ : Aside0 (Kd.S (Kd.slice 3 (Kd.int .i64)) 32 w26 w.heap.size (fun k_ => some k_ ≠ (.slice Ao20 t424.length co20 : Value).ownBlock ∧ some k_ ≠ (v431 : Value).ownBlock) v428 t427) := ⟨h1_⟩
      have n2_ : Aside0 (Kd.R (Kd.int .i64) 3 w26 w.heap.size (fun _ => True) v431 y430) := ⟨h2_⟩
      have n3_ : Aside0 (Below w.heap.size w w26) := ⟨h3_⟩
      clear HO426
      clear HB
      clear h0_ h1_ h2_ h3_
      have HO426 := n0_
      have HO429 := n1_
      have HO432 := n2_
      have HB := n3_
      clear n0_ n1_ n2_ n3_
      have hHeld := trivial
      refine norm_ (a' := ?_) ?_ ?_
      rotate_left
      ·simp only [putAll, Act.put, List.setIfInBounds_toArray, List.set_cons_zero, List.set_cons_succ]
       rfl
      refine one_ (i := 8) (N := some 33) #[true, true, true, true, true, true, true, true, true, false, false, false] rfl rfl (one_of HT_.out (by kernel_rfl)) (by decide) (fun K hK => ?_)
      refine Kd.R_append_rows_step (Kd.int .i64) (w0 := w) w.heap.size (by rfl) (.tmp 27) (.tmp 32) 32 3 (.int .i64 0) 8 rfl Try.underlying32 info3 rfl (by decide) (by omega) v431 y430 (l1.take ((ji7) : Int).toNat) _ _ _ (fun _ => True) (fun _ => False) rfl rfl ?aO ?aR (fun _ _ h => h) (fun _ h => h.elim) ?aF ?aB ?aS ?aL ?_
      (case aR => first | (refine Eq.mp (congrArg (fun n_ => ReadsRow _ _ _ _ n_ _) (show (l1.take ((ji7) : Int).toNat).length = (ji7).toNat from (by rw [List.length_take]; have h_ : ((ji7) : Int) ≤ (l1.length : Int) := of_decide_eq_true (by first | (with_reducible assumption) | assumption); omega))) ?_; repeat (first | exact (Kd.C_below HR433.out HB.out) | (with_reducible refine Kd.C_alloc ?_ _) | (with_reducible refine Kd.C_drewN ?_ _) | (with_reducible refine Kd.C_drew ?_)); done) | (rw [← show (l1.take ((ji7) : Int).toNat).length = (ji7).toNat from (by rw [List.length_take]; have h_ : ((ji7) : Int) ≤ (l1.length : Int) := of_decide_eq_true (by first | (with_reducible assumption) | assumption); omega)]; repeat (first | exact (Kd.C_below HR433.out HB.out) | (with_reducible refine Kd.C_alloc ?_ _) | (with_reducible refine Kd.C_drewN ?_ _) | (with_reducible refine Kd.C_drew ?_))) | (repeat (first | exact (Kd.C_below HR433.out HB.out) | (with_reducible refine Kd.C_alloc ?_ _) | (with_reducible refine Kd.C_drewN ?_ _) | (with_reducible refine Kd.C_drew ?_))))
      (case aB => exact (by repeat (first | (with_reducible first | exact HB.out | apply below_alloc | apply pw_below_drewN | apply below_drew1) | exact HB.out)))
      (case aF => exact (fun _ _ => trivial))
      (case aO => exact (by (with_reducible repeat (first | apply Kd.R_alloc | apply Kd.R_drewN | apply Kd.R_drew)); exact HO432.out))
      (case aS => exact (below_size (by repeat (first | (with_reducible first | exact HB.out | apply below_alloc | apply pw_below_drewN | apply below_drew1) | exact HB.out))))
      (case aL => have := LMc10.out; have hlx_ := (show (l1.take ((ji7) : Int).toNat).length = (ji7).toNat from (by rw [List.length_take]; have h_ : ((ji7) : Int) ≤ (l1.length : Int) := of_decide_eq_true (by first | (with_reducible assumption) | assumption); omega)); omega)
      intro v435 w27 ho hb hg hat
      rw [← Ny434.out] at ho
      have n0_ := Aside0.mk (Kd.S_after (ok := (fun k_ => some k_ ≠ (v428 : Value).ownBlock)) (by (with_reducible repeat (first | apply Kd.S_alloc | apply Kd.S_drewN | apply Kd.S_drew)); exact HO426.out) hg hat)
      have n1_ := Aside0.mk (Kd.S_after (ok := (fun k_ => some k_ ≠ (.slice Ao20 t424.length co20 : Value).ownBlock)) (by (with_reducible repeat (first | apply Kd.S_alloc | apply Kd.S_drewN | apply Kd.S_drew)); exact HO429.out) hg hat)
      have n2_ := Aside0.mk (hb)
      have n3_ := Aside0.mk (ho)
      clear HO426
      clear HO429
      clear HB
      clear HO432
      have HO426 := n0_
      have HO429 := n1_
      have HB := n2_
      have HO436 := n3_
      clear n0_ n1_ n2_ n3_
      clear ho hb hg hat
      obtain ⟨Ao29, co29, eo29⟩ := Kd.R_slice HO436.out
      (first | subst eo29 | (injection eo29 with f1_ f2_ f3_; have f4_ := f1_.symm; have f5_ := f3_.symm; clear f1_ f2_ f3_; subst f4_; subst f5_))
      refine hK.out _ _ trivial (fun hHeld => ?_)
      clear hK K
      refine norm_ (a' := ?_) ?_ ?_
      rotate_left
      ·show Act.put _ (some 33) _ = _
       simp only [Act.put, List.setIfInBounds_toArray, List.set_cons_zero, List.set_cons_succ, i64_w, i32_w]
       rfl
      refine one_ (i := 9) (N := some 34) #[true, true, true, true, true, true, true, true, true, true, false, false] rfl rfl (one_of HT_.out (by kernel_rfl)) (by decide) (fun K hK => ?_)
      refine value_ (w1 := ?_) (v := ?_) (by rfl) rfl ?_ ?_
      rotate_left 2
      ·go_simp
       constructor
       ·rfl
       ·rfl
      refine hK.out _ _ trivial (fun hHeld => ?_)
      clear hK K
      refine norm_ (a' := ?_) ?_ ?_
      rotate_left
      ·show Act.put _ (some 34) _ = _
       simp only [Act.put, List.setIfInBounds_toArray, List.set_cons_zero, List.set_cons_succ, i64_w, i32_w]
       rfl
      refine one_ (i := 10) (N := some 35) #[true, true, true, true, true, true, true, true, true, true, true, false] rfl rfl (one_of HT_.out (by kernel_rfl)) (by decide) (fun K hK => ?_)
      refine Kd.S_append_step (Kd.slice 3 (Kd.int .i64)) (w0 := w) w.heap.size (by rfl) (.tmp 26) (.tmp 34) 22 32 (.slice none 0 0) 24 rfl Try.underlying22 info32 rfl (by decide) (by omega) v428 t427 y434 [.slice Ao29 y434.length co29] (fun k_ => some k_ ≠ (.slice Ao20 t424.length co20 : Value).ownBlock) (fun k_ => some k_ = (.slice Ao29 y434.length co29 : Value).ownBlock) rfl rfl ?aP (fun k_ hk_ => ((Kd.R_mono (ok' := fun k_ => ((fun k_ => some k_ ≠ (.slice Ao20 t424.length co20 : Value).ownBlock)) k_ ∧ some k_ ≠ (v428 : Value).ownBlock) (Kd.R_apart' (Kd.R_apart' (HO436.out) (Kd.S_typed HO426.out) (by decide)) (Kd.S_typed HO429.out) (by decide)) (fun k_ hk => ⟨hk.1.2, hk.2⟩))).1 k_ hk_.symm) ?aF ?aO ?aB ?aS ?aL ?_
      (case aP => exact Kd.M_row (Kd.R_mono (Kd.R_tight rfl (Kd.R_mono (ok' := fun k_ => ((fun k_ => some k_ ≠ (.slice Ao20 t424.length co20 : Value).ownBlock)) k_ ∧ some k_ ≠ (v428 : Value).ownBlock) (Kd.R_apart' (Kd.R_apart' (HO436.out) (Kd.S_typed HO426.out) (by decide)) (Kd.S_typed HO429.out) (by decide)) (fun k_ hk => ⟨hk.1.2, hk.2⟩))) (fun _ h_ => h_)))
      (case aB => exact (by repeat (first | (with_reducible first | exact HB.out | apply below_alloc | apply pw_below_drewN | apply below_drew1) | exact HB.out)))
      (case aF => exact (fun k_ hk => Kd.fresh' (Kd.S_lt (by (with_reducible repeat (first | apply Kd.S_alloc | apply Kd.S_drewN | apply Kd.S_drew)); exact HO426.out)) k_ hk))
      (case aO => exact (by (with_reducible repeat (first | apply Kd.S_alloc | apply Kd.S_drewN | apply Kd.S_drew)); exact Kd.S_mono HO429.out (fun k_ hk => ⟨hk.1, fun e_ => hk.2 e_⟩)))
      (case aS => exact (below_size (by repeat (first | (with_reducible first | exact HB.out | apply below_alloc | apply pw_below_drewN | apply below_drew1) | exact HB.out))))
      (case aL => have := LMc11.out; omega)
      intro v438 w28 ho hb hg hat
      rw [← Ny437.out] at ho
      have n0_ := Aside0.mk (Kd.S_after (ok := (fun k_ => some k_ ≠ (.slice Ao29 y434.length co29 : Value).ownBlock)) (by (with_reducible repeat (first | apply Kd.S_alloc | apply Kd.S_drewN | apply Kd.S_drew)); exact Kd.S_mono HO426.out (fun _ hk => ⟨hk.2, hk.1⟩)) hg hat)
      have n1_ := Aside0.mk (hb)
      have n2_ := Aside0.mk (ho)
      clear HO426
      clear HB
      clear HO429
      clear HO436
      have HO426 := n0_
      have HB := n1_
      have HO439 := n2_
      clear n0_ n1_ n2_
      clear ho hb hg hat
      refine hK.out _ _ trivial (fun hHeld => ?_)
      clear hK K
      refine norm_ (a' := ?_) ?_ ?_
      rotate_left
      ·show Act.put _ (some 35) _ = _
       simp only [Act.put, List.setIfInBounds_toArray, List.set_cons_zero, List.set_cons_succ, i64_w, i32_w]
       rfl
      refine pure_ (i := 11) (N := some 8) (v := ?_) (a' := ?_) #[true, true, true, true, true, true, true, true, true, true, true, true] rfl rfl (any_of HT_.out (by kernel_rfl)) (fun _ _ _ h => h) (Or.inl ⟨by rfl, ?_⟩) ?_ ?_
      rotate_left
      ·intro w'
       go_simp
       with_reducible rfl
      rotate_left
      ·simp only [Act.put, List.setIfInBounds_toArray, List.set_cons_zero, List.set_cons_succ, i64_w, i32_w]
       rfl
      refine done_ (done_of HT_.out (by kernel_rfl)) ?_
      obtain ⟨Ao30, co30, eo30⟩ := Kd.S_slice HO439.out
      subst eo30
      go_upto_region 11 with (first | ((with_reducible refine gate_callee (f := 16) rfl ?_); refine goesL_ (some 38) rfl rfl Try.func16 (by kernel_rfl) rfl #[.slice Ao30 y437.length co30, .int .i64 (Int.tmod (Go.bits .and .i64 a2 65535) 6)] rfl (by (try simp only [List.map_toArray, List.map_cons, List.map_nil]); first | done | rfl | (simp only [List.length_drop, List.length_take]; rfl)) ?_; (with_reducible refine (ashlarref09_Right.calls k _ _ y437 (Int.tmod (Go.bits .and .i64 a2 65535) 6) true _ ?side1 ?side2 A12.out).mono ?_); (case side1 => repeat (first | exact (Kd.S_reads' HO439.out).2.2 | (with_reducible refine Kd.C_alloc ?_ _) | (with_reducible refine Kd.C_drewN ?_ _) | (with_reducible refine Kd.C_drew ?_))); (case side2 => exact (Kd.S_reads' HO439.out).2.1); rintro e w' ⟨rfl, ⟨nd, rfl⟩⟩; refine ⟨_, rfl, ?_⟩) | ((with_reducible refine gate_callee (f := 14) rfl ?_); refine goesL_ (some 45) rfl rfl Try.func14 (by kernel_rfl) rfl #[.slice Ao20 t424.length co20, .int .i64 (Int.tmod (Go.bits .and .i64 a2 65535) 6), .int .i64 243] rfl (by (try simp only [List.map_toArray, List.map_cons, List.map_nil]); first | done | rfl | (simp only [List.length_drop, List.length_take]; rfl)) ?_; (with_reducible refine (sat_Solve.calls k _ _ t424 (Int.tmod (Go.bits .and .i64 a2 65535) 6) 243 t441 t442 t443 _ ?side1 ?side2 A14.out).mono ?_); (case side1 => repeat (first | exact (Kd.S_reads' HO426.out).2.2 | (with_reducible refine Kd.C_alloc ?_ _) | (with_reducible refine Kd.C_drewN ?_ _) | (with_reducible refine Kd.C_drew ?_))); (case side2 => exact (Kd.S_reads' HO426.out).2.1); rintro e w31 ⟨v444, v446, rfl, ho0, ho1, hb⟩; refine ⟨_, rfl, ?_⟩; have n0_ := Aside0.mk (Kd.S_elder' (by (with_reducible repeat (first | apply Kd.S_alloc | apply Kd.S_drewN | apply Kd.S_drew)); exact HO426.out) (Kd.S_base ho1) hb); have n1_ := Aside0.mk (Kd.S_elder' (by (with_reducible repeat (first | apply Kd.S_alloc | apply Kd.S_drewN | apply Kd.S_drew)); exact HO439.out) (Kd.S_base ho1) hb); have n2_ := Aside0.mk (Kd.R_lower ho0 (below_size (by repeat (first | (with_reducible first | exact HB.out | apply below_alloc | apply pw_below_drewN | apply below_drew1) | exact HB.out)))); have n3_ := Aside0.mk (Kd.S_lower (Kd.S_new' (Kd.S_new' ho1 (Kd.S_lt (by (with_reducible repeat (first | apply Kd.S_alloc | apply Kd.S_drewN | apply Kd.S_drew)); exact HO426.out))) (Kd.S_lt (by (with_reducible repeat (first | apply Kd.S_alloc | apply Kd.S_drewN | apply Kd.S_drew)); exact HO439.out))) (below_size (by repeat (first | (with_reducible first | exact HB.out | apply below_alloc | apply pw_below_drewN | apply below_drew1) | exact HB.out)))); have n4_ := Aside0.mk (below_step (by repeat (first | (with_reducible first | exact HB.out | apply below_alloc | apply pw_below_drewN | apply below_drew1) | exact HB.out)) hb); clear HO426; clear HO439; clear HB; have HO426 := n0_; have HO439 := n1_; have HO445 := n2_; have HO447 := n3_; have HB := n4_; clear n0_ n1_ n2_ n3_ n4_; (try clear hb); (try clear hb2); (try clear hk); (try clear hi); (try clear ho0); (try clear ho1)) | ((with_reducible refine gate_callee (f := 14) rfl ?_); refine goesL_ (some 52) rfl rfl Try.func14 (by kernel_rfl) rfl #[.slice Ao30 y437.length co30, .int .i64 (Int.tmod (Go.bits .and .i64 a2 65535) 6), .int .i64 243] rfl (by (try simp only [List.map_toArray, List.map_cons, List.map_nil]); first | done | rfl | (simp only [List.length_drop, List.length_take]; rfl)) ?_; (with_reducible refine (sat_Solve.calls k _ _ y437 (Int.tmod (Go.bits .and .i64 a2 65535) 6) 243 t448 t449 t450 _ ?side1 ?side2 A15.out).mono ?_); (case side1 => repeat (first | exact (Kd.S_reads' HO439.out).2.2 | (with_reducible refine Kd.C_alloc ?_ _) | (with_reducible refine Kd.C_drewN ?_ _) | (with_reducible refine Kd.C_drew ?_))); (case side2 => exact (Kd.S_reads' HO439.out).2.1); rintro e w32 ⟨v451, v453, rfl, ho0, ho1, hb⟩; refine ⟨_, rfl, ?_⟩; have n0_ := Aside0.mk (Kd.S_elder' (by (with_reducible repeat (first | apply Kd.S_alloc | apply Kd.S_drewN | apply Kd.S_drew)); exact HO426.out) (Kd.S_base ho1) hb); have n1_ := Aside0.mk (Kd.S_elder' (by (with_reducible repeat (first | apply Kd.S_alloc | apply Kd.S_drewN | apply Kd.S_drew)); exact HO439.out) (Kd.S_base ho1) hb); have n2_ := Aside0.mk (Kd.R_elder' (by (with_reducible repeat (first | apply Kd.R_alloc | apply Kd.R_drewN | apply Kd.R_drew)); exact HO445.out) (Kd.R_base ho0) hb); have n3_ := Aside0.mk (Kd.S_elder' (by (with_reducible repeat (first | apply Kd.S_alloc | apply Kd.S_drewN | apply Kd.S_drew)); exact HO447.out) (Kd.S_base ho1) hb); have n4_ := Aside0.mk (Kd.R_lower (Kd.R_new' ho0 (Kd.R_lt (by (with_reducible repeat (first | apply Kd.R_alloc | apply Kd.R_drewN | apply Kd.R_drew)); exact HO445.out))) (below_size (by repeat (first | (with_reducible first | exact HB.out | apply below_alloc | apply pw_below_drewN | apply below_drew1) | exact HB.out)))); have n5_ := Aside0.mk (Kd.S_lower (Kd.S_new' (Kd.S_new' (Kd.S_new' ho1 (Kd.S_lt (by (with_reducible repeat (first | apply Kd.S_alloc | apply Kd.S_drewN | apply Kd.S_drew)); exact HO426.out))) (Kd.S_lt (by (with_reducible repeat (first | apply Kd.S_alloc | apply Kd.S_drewN | apply Kd.S_drew)); exact HO439.out))) (Kd.S_lt (by (with_reducible repeat (first | apply Kd.S_alloc | apply Kd.S_drewN | apply Kd.S_drew)); exact HO447.out))) (below_size (by repeat (first | (with_reducible first | exact HB.out | apply below_alloc | apply pw_below_drewN | apply below_drew1) | exact HB.out)))); have n6_ := Aside0.mk (below_step (by repeat (first | (with_reducible first | exact HB.out | apply below_alloc | apply pw_below_drewN | apply below_drew1) | exact HB.out)) hb); clear HO426; clear HO439; clear HO445; clear HO447; clear HB; have HO426 := n0_; have HO439 := n1_; have HO445 := n2_; have HO447 := n3_; have HO452 := n4_; have HO454 := n5_; have HB := n6_; clear n0_ n1_ n2_ n3_ n4_ n5_ n6_; (try clear hb); (try clear hb2); (try clear hk); (try clear hi); (try clear ho0); (try clear ho1)) | ((with_reducible refine gate_callee (f := 14) rfl ?_); refine goesL_ (some 60) rfl rfl Try.func14 (by kernel_rfl) rfl #[.slice Ao20 t424.length co20, .int .i64 (wrap64 ((Int.tmod (Go.bits .and .i64 a2 65535) 6) + 3)), .int .i64 6561] rfl (by (try simp only [List.map_toArray, List.map_cons, List.map_nil]); first | done | rfl | (simp only [List.length_drop, List.length_take]; rfl)) ?_; (with_reducible refine (sat_Solve.calls k _ _ t424 (wrap64 ((Int.tmod (Go.bits .and .i64 a2 65535) 6) + 3)) 6561 t455 t456 t457 _ ?side1 ?side2 A16.out).mono ?_); (case side1 => repeat (first | exact (Kd.S_reads' HO426.out).2.2 | (with_reducible refine Kd.C_alloc ?_ _) | (with_reducible refine Kd.C_drewN ?_ _) | (with_reducible refine Kd.C_drew ?_))); (case side2 => exact (Kd.S_reads' HO426.out).2.1); rintro e w33 ⟨v458, v460, rfl, ho0, ho1, hb⟩; refine ⟨_, rfl, ?_⟩; have n0_ := Aside0.mk (Kd.S_elder' (by (with_reducible repeat (first | apply Kd.S_alloc | apply Kd.S_drewN | apply Kd.S_drew)); exact HO426.out) (Kd.S_base ho1) hb); have n1_ := Aside0.mk (Kd.S_elder' (by (with_reducible repeat (first | apply Kd.S_alloc | apply Kd.S_drewN | apply Kd.S_drew)); exact HO439.out) (Kd.S_base ho1) hb); have n2_ := Aside0.mk (Kd.R_elder' (by (with_reducible repeat (first | apply Kd.R_alloc | apply Kd.R_drewN | apply Kd.R_drew)); exact HO445.out) (Kd.R_base ho0) hb); have n3_ := Aside0.mk (Kd.S_elder' (by (with_reducible repeat (first | apply Kd.S_alloc | apply Kd.S_drewN | apply Kd.S_drew)); exact HO447.out) (Kd.S_base ho1) hb); have n4_ := Aside0.mk (Kd.R_elder' (by (with_reducible repeat (first | apply Kd.R_alloc | apply Kd.R_drewN | apply Kd.R_drew)); exact HO452.out) (Kd.R_base ho0) hb); have n5_ := Aside0.mk (Kd.S_elder' (by (with_reducible repeat (first | apply Kd.S_alloc | apply Kd.S_drewN | apply Kd.S_drew)); exact HO454.out) (Kd.S_base ho1) hb); have n6_ := Aside0.mk (Kd.R_lower (Kd.R_new' (Kd.R_new' ho0 (Kd.R_lt (by (with_reducible repeat (first | apply Kd.R_alloc | apply Kd.R_drewN | apply Kd.R_drew)); exact HO445.out))) (Kd.R_lt (by (with_reducible repeat (first | apply Kd.R_alloc | apply Kd.R_drewN | apply Kd.R_drew)); exact HO452.out))) (below_size (by repeat (first | (with_reducible first | exact HB.out | apply below_alloc | apply pw_below_drewN | apply below_drew1) | exact HB.out)))); have n7_ := Aside0.mk (Kd.S_lower (Kd.S_new' (Kd.S_new' (Kd.S_new' (Kd.S_new' ho1 (Kd.S_lt (by (with_reducible repeat (first | apply Kd.S_alloc | apply Kd.S_drewN | apply Kd.S_drew)); exact HO426.out))) (Kd.S_lt (by (with_reducible repeat (first | apply Kd.S_alloc | apply Kd.S_drewN | apply Kd.S_drew)); exact HO439.out))) (Kd.S_lt (by (with_reducible repeat (first | apply Kd.S_alloc | apply Kd.S_drewN | apply Kd.S_drew)); exact HO447.out))) (Kd.S_lt (by (with_reducible repeat (first | apply Kd.S_alloc | apply Kd.S_drewN | apply Kd.S_drew)); exact HO454.out))) (below_size (by repeat (first | (with_reducible first | exact HB.out | apply below_alloc | apply pw_below_drewN | apply below_drew1) | exact HB.out)))); have n8_ := Aside0.mk (below_step (by repeat (first | (with_reducible first | exact HB.out | apply below_alloc | apply pw_below_drewN | apply below_drew1) | exact HB.out)) hb); clear HO426; clear HO439; clear HO445; clear HO447; clear HO452; clear HO454; clear HB; have HO426 := n0_; have HO439 := n1_; have HO445 := n2_; have HO447 := n3_; have HO452 := n4_; have HO454 := n5_; have HO459 := n6_; have HO461 := n7_; have HB := n8_; clear n0_ n1_ n2_ n3_ n4_ n5_ n6_ n7_ n8_; (try clear hb); (try clear hb2); (try clear hk); (try clear hi); (try clear ho0); (try clear ho1)))
      (try simp only [Act.put, List.setIfInBounds_toArray, List.set_cons_zero, List.set_cons_succ])
      go_cut [74] (fun v74 wc => ∃ (kq : Nat) (x74_16 : Bool), v74 = .bool x74_16 ∧ Aside0 (ashlarlaw09_SatMore.j0 kq t424 (Int.tmod (Go.bits .and .i64 a2 65535) 6) t423 t448 t449 x74_16 = some r) ∧ Aside0 (kq ≤ k) ∧ Aside0 (Kd.S (Kd.slice 3 (Kd.int .i64)) 32 wc w.heap.size (fun _ => True) (.slice Ao20 t424.length co20) t424) ∧ Aside0 (Kd.R Kd.bool 4 wc w.heap.size (fun _ => True) v451 t449) ∧ Aside0 (Below w.heap.size w wc))
      case first =>
       have H := HC17.out
       clear HC17
       by_cases c34 : t441 = 2
       ·rw [if_pos c34] at H
        have c34b0 : (t441 == 2) = true := beq_iff_eq.mpr c34
        have c34b1 : (t441 != 2) = false := bne_eq_false_iff_eq.mpr c34
        clear c34
        (first | rw [c34b0] | (simp only [i64_w, i32_w]; rw [c34b0]) | skip)
        by_cases c35 : t448 = 2
        ·rw [if_pos c35] at H
         have c35b0 : (t448 == 2) = true := beq_iff_eq.mpr c35
         have c35b1 : (t448 != 2) = false := bne_eq_false_iff_eq.mpr c35
         clear c35
         have H' := Aside0.mk H
         clear H
         go_wp2
         go_meet
         case rel => exact ⟨_, ((t441 != t455)), (by first | rfl | (simp; done) | (simp [*]; done)), H', ⟨by first | omega | exact Nat.le_refl _⟩, ⟨by (with_reducible repeat (first | apply Kd.S_alloc | apply Kd.S_drewN | apply Kd.S_drew)); exact Kd.S_mono HO426.out (fun _ hk => trivial)⟩, ⟨by (with_reducible repeat (first | apply Kd.R_alloc | apply Kd.R_drewN | apply Kd.R_drew)); exact Kd.R_mono HO452.out (fun _ hk => trivial)⟩, ⟨by repeat (first | (with_reducible first | exact HB.out | apply below_alloc | apply pw_below_drewN | apply below_drew1) | exact HB.out)⟩⟩
        ·rw [if_neg c35] at H
         have c35b0 : (t448 == 2) = false := beq_eq_false_iff_ne.mpr c35
         have c35b1 : (t448 != 2) = true := bne_iff_ne.mpr c35
         have H' := Aside0.mk H
         clear H
         go_wp2
         go_meet
         case rel => exact ⟨_, (true), (by first | rfl | (simp; done) | (simp [*]; done)), H', ⟨by first | omega | exact Nat.le_refl _⟩, ⟨by (with_reducible repeat (first | apply Kd.S_alloc | apply Kd.S_drewN | apply Kd.S_drew)); exact Kd.S_mono HO426.out (fun _ hk => trivial)⟩, ⟨by (with_reducible repeat (first | apply Kd.R_alloc | apply Kd.R_drewN | apply Kd.R_drew)); exact Kd.R_mono HO452.out (fun _ hk => trivial)⟩, ⟨by repeat (first | (with_reducible first | exact HB.out | apply below_alloc | apply pw_below_drewN | apply below_drew1) | exact HB.out)⟩⟩
       ·rw [if_neg c34] at H
        have c34b0 : (t441 == 2) = false := beq_eq_false_iff_ne.mpr c34
        have c34b1 : (t441 != 2) = true := bne_iff_ne.mpr c34
        (first | rw [c34b0] | (simp only [i64_w, i32_w]; rw [c34b0]) | skip)
        have H' := Aside0.mk H
        clear H
        go_wp2
        go_meet
        case rel => exact ⟨_, ((t441 != t455)), (by first | rfl | (simp; done) | (simp [*]; done)), H', ⟨by first | omega | exact Nat.le_refl _⟩, ⟨by (with_reducible repeat (first | apply Kd.S_alloc | apply Kd.S_drewN | apply Kd.S_drew)); exact Kd.S_mono HO426.out (fun _ hk => trivial)⟩, ⟨by (with_reducible repeat (first | apply Kd.R_alloc | apply Kd.R_drewN | apply Kd.R_drew)); exact Kd.R_mono HO452.out (fun _ hk => trivial)⟩, ⟨by repeat (first | (with_reducible first | exact HB.out | apply below_alloc | apply pw_below_drewN | apply below_drew1) | exact HB.out)⟩⟩
      case rest =>
       clear HC17
       try clear c1
       try clear p2
       try clear c3
       try clear p6
       try clear c8
       try clear c8b0
       try clear c8b1
       try clear c9
       try clear c9b0
       try clear c9b1
       try clear c10
       try clear c11
       try clear c12
       try clear c13
       try clear c14
       try clear c16
       try clear c34
       try clear c34b0
       try clear c34b1
       try clear c35
       try clear c35b0
       try clear c35b1
       obtain ⟨kq, x74_16, rfl, HA, HJ16, HO_0, HO_14, HB⟩ := hcut
       cases kq with
       | zero => exact absurd HA.out (by simp [ashlarlaw09_SatMore.j0])
       | succ kj16 =>
        have H := HA.out
        clear HA
        simp only [ashlarlaw09_SatMore.j0] at H
        by_cases c36 : x74_16 = true
        ·subst c36
         have H1 : (some false) = some r := by rw [if_pos rfl] at H; exact H
         clear H
         have H := H1
         clear H1
         obtain rfl := Option.some.inj H
         go_wp2
         go_ret
         exact ⟨by first | rfl | (simp [errW_none, errW_some] <;> rfl) | (simp only [← hji7]; first | rfl | (simp [errW_none, errW_some] <;> rfl)) | (simp [*, errW_none, errW_some] <;> rfl), by repeat (first | (with_reducible first | exact HB.out | apply below_alloc | apply pw_below_drewN | apply below_drew1) | exact HB.out)⟩
        ·replace c36 := Bool.eq_false_iff.mpr c36
         subst c36
         have H1 : (if t423 = true then (if t448 = 1 then ((ashlarref09_Good.f kj16 t424 (Int.tmod (Go.bits .and .i64 a2 65535) 6) 1 t449 ([] : List (List Int))).bind fun t462 => (some t462)) else (some true)) else (some false)) = some r := by rw [if_neg (show ¬ (false = true) by decide)] at H; exact H
         clear H
         have H := H1
         clear H1
         by_cases c37 : t423 = true
         ·subst c37
          have H1 : (if t448 = 1 then ((ashlarref09_Good.f kj16 t424 (Int.tmod (Go.bits .and .i64 a2 65535) 6) 1 t449 ([] : List (List Int))).bind fun t462 => (some t462)) else (some true)) = some r := by rw [if_pos rfl] at H; exact H
          clear H
          have H := H1
          clear H1
          by_cases c38 : t448 = 1
          ·rw [if_pos c38] at H
           have c38b0 : (t448 == 1) = true := beq_iff_eq.mpr c38
           have c38b1 : (t448 != 1) = false := bne_eq_false_iff_eq.mpr c38
           clear c38
           replace H := Option.bind_eq_some_iff.mp H
           obtain ⟨t462, A390, H⟩ := H
           replace H : (some t462) = some r := H
           have A39 := Aside0.mk A390
           clear A390
           obtain rfl := Option.some.inj H
           obtain ⟨Ao40, co40, eo40⟩ := Kd.R_slice HO_14.out
           subst eo40
           go_wp2_with (first | (go_at_call 17; refine calls_of_args (args' := #[.slice Ao20 t424.length co20, .int .i64 (Int.tmod (Go.bits .and .i64 a2 65535) 6), .int .i64 1, .slice Ao40 t449.length co40, .slice none ([] : List (List Int)).length 0]) (by rfl) ?_; (with_reducible refine (ashlarref09_Good.calls kj16 _ _ t424 (Int.tmod (Go.bits .and .i64 a2 65535) 6) 1 _ _ t449 _ _ ([] : List (List Int)) t462 _ ?side1 ?side2 ?side3 ?side4 ?side5 ?side6 A39.out).mono ?_); (case side1 => repeat (first | exact (Kd.S_reads' HO_0.out).2.2 | (with_reducible refine Kd.C_alloc ?_ _) | (with_reducible refine Kd.C_drewN ?_ _) | (with_reducible refine Kd.C_drew ?_))); (case side2 => exact (Kd.S_reads' HO_0.out).2.1); (case side3 => repeat (first | exact (Kd.R_reads' HO_14.out).2.2 | (with_reducible refine Kd.C_alloc ?_ _) | (with_reducible refine Kd.C_drewN ?_ _) | (with_reducible refine Kd.C_drew ?_))); (case side4 => exact (Kd.R_reads' HO_14.out).2.1); (case side5 => exact Kd.C_nil _ _); (case side6 => exact Nat.le_refl _); rintro e w41 ⟨rfl, hb⟩; have n0_ := Aside0.mk (Kd.S_below (by (with_reducible repeat (first | apply Kd.S_alloc | apply Kd.S_drewN | apply Kd.S_drew)); exact HO_0.out) hb); have n1_ := Aside0.mk (Kd.R_below (by (with_reducible repeat (first | apply Kd.R_alloc | apply Kd.R_drewN | apply Kd.R_drew)); exact HO_14.out) hb); have n2_ := Aside0.mk (below_step (by repeat (first | (with_reducible first | exact HB.out | apply below_alloc | apply pw_below_drewN | apply below_drew1) | exact HB.out)) hb); clear HO_0; clear HO_14; clear HB; have HO_0 := n0_; have HO_14 := n1_; have HB := n2_; clear n0_ n1_ n2_; (try clear hb); (try clear hb2); (try clear hk); (try clear hi)))
           go_ret
           exact ⟨by first | rfl | (simp [errW_none, errW_some] <;> rfl) | (simp only [← hji7]; first | rfl | (simp [errW_none, errW_some] <;> rfl)) | (simp [*, errW_none, errW_some] <;> rfl), by repeat (first | (with_reducible first | exact HB.out | apply below_alloc | apply pw_below_drewN | apply below_drew1) | exact HB.out)⟩
          ·rw [if_neg c38] at H
           have c38b0 : (t448 == 1) = false := beq_eq_false_iff_ne.mpr c38
           have c38b1 : (t448 != 1) = true := bne_iff_ne.mpr c38
           obtain rfl := Option.some.inj H
           go_wp2
           go_ret
           exact ⟨by first | rfl | (simp [errW_none, errW_some] <;> rfl) | (simp only [← hji7]; first | rfl | (simp [errW_none, errW_some] <;> rfl)) | (simp [*, errW_none, errW_some] <;> rfl), by repeat (first | (with_reducible first | exact HB.out | apply below_alloc | apply pw_below_drewN | apply below_drew1) | exact HB.out)⟩
         ·replace c37 := Bool.eq_false_iff.mpr c37
          subst c37
          have H1 : (some false) = some r := by rw [if_neg (show ¬ (false = true) by decide)] at H; exact H
          clear H
          have H := H1
          clear H1
          obtain rfl := Option.some.inj H
          go_wp2
          go_ret
          exact ⟨by first | rfl | (simp [errW_none, errW_some] <;> rfl) | (simp only [← hji7]; first | rfl | (simp [errW_none, errW_some] <;> rfl)) | (simp [*, errW_none, errW_some] <;> rfl), by repeat (first | (with_reducible first | exact HB.out | apply below_alloc | apply pw_below_drewN | apply below_drew1) | exact HB.out)⟩
     ·replace c13 := Bool.eq_false_iff.mpr c13
      subst c13
      have H1 : (some t423) = some r := by rw [if_neg (show ¬ (false = true) by decide)] at H; exact H
      clear H
      have H := H1
      clear H1
      obtain rfl := Option.some.inj H
      go_enter Try.func8, Try.ntmps8
      try go_wp2_with (first | ((with_reducible refine gate_callee (f := 12) rfl ?_); refine goesL_ (some 19) rfl rfl Try.func12 (by kernel_rfl) rfl #[] rfl (by (try simp only [List.map_toArray, List.map_cons, List.map_nil]); first | done | rfl | (simp only [List.length_drop, List.length_take]; rfl)) ?_; (with_reducible refine (ashlarlaw09_shown.calls k  t423 _ A4.out).mono ?_); rintro e w42 ⟨rfl, hb⟩; refine ⟨_, rfl, ?_⟩; have n0_ := Aside0.mk (below_step (by repeat (first | (with_reducible first | exact HB.out | apply below_alloc | apply pw_below_drewN | apply below_drew1) | exact HB.out)) hb); clear HB; have HB := n0_; clear n0_; (try clear hb); (try clear hb2); (try clear hk); (try clear hi)) | ((with_reducible refine gate_callee (f := 13) rfl ?_); refine goesL_ (some 21) rfl rfl Try.func13 (by kernel_rfl) rfl #[.slice A0 l0.length c0] rfl (by (try simp only [List.map_toArray, List.map_cons, List.map_nil]); first | done | rfl | (simp only [List.length_drop, List.length_take]; rfl)) ?_; (with_reducible refine (ashlarlaw09_few.calls k _ _ l0 t424 _ ?side1 ?side2 A5.out).mono ?_); (case side1 => repeat (first | exact (Kd.C_below HR0.out HB.out) | (with_reducible refine Kd.C_alloc ?_ _) | (with_reducible refine Kd.C_drewN ?_ _) | (with_reducible refine Kd.C_drew ?_))); (case side2 => exact HC0.out); rintro e w43 ⟨v425, rfl, ho0, hb⟩; refine ⟨_, rfl, ?_⟩; have n0_ := Aside0.mk (Kd.S_lower ho0 (below_size (by repeat (first | (with_reducible first | exact HB.out | apply below_alloc | apply pw_below_drewN | apply below_drew1) | exact HB.out)))); have n1_ := Aside0.mk (below_step (by repeat (first | (with_reducible first | exact HB.out | apply below_alloc | apply pw_below_drewN | apply below_drew1) | exact HB.out)) hb); clear HB; have HO426 := n0_; have HB := n1_; clear n0_ n1_; (try clear hb); (try clear hb2); (try clear hk); (try clear hi); (try clear ho0); obtain ⟨Ao44, co44, eo44⟩ := Kd.S_slice HO426.out; subst eo44))
      have n0_ := Aside0.mk (Kd.S_drew HO426.out)
      have n1_ := Aside0.mk (below_drew1 HB.out)
      clear HO426
      clear HB
      have HO426 := n0_
      have HB := n1_
      clear n0_ n1_
      obtain ⟨i046, hi046, _, hsz46, _⟩ := info_parts info3
      obtain ⟨hcut46, hA46, hC46⟩ := print_take_of (P := Try.prog) (Value.int .i64) 0 32 3 .i64 Try.underlying32 hi046 hsz46 A1 c1 l1 (ji7) (of_decide_eq_true (by first | (with_reducible assumption) | assumption)) (of_decide_eq_true (by first | (with_reducible assumption) | assumption)) HC1.out
      have HR433 := Aside0.mk (Kd.C_of_reads (h1 := fun _ => rfl) (hA46 _ (Kd.reads_of_C HR1.out)))
      have HC433 := Aside0.mk hC46
      clear hA46 hC46 hi046 hsz46
      refine start_ (n := 12) (S := fun w' => True) (ds := []) #[false, false, false, false, false, false, false, false, false, false, false, false] (by kernel_rfl) rfl rfl trivial (fun hHeld => ?_); refine with_tabW ashlarlaw09_SatMore.tab4 ashlarlaw09_SatMore.bits4 (fun HT_ HW_ => ?_)
      generalize w43.drew = w45 at HO426 HB HR433 hHeld ⊢
      refine pure_ (i := 0) (N := some 25) (v := ?_) (a' := ?_) #[true, false, false, false, false, false, false, false, false, false, false, false] rfl rfl (any_of HT_.out (by kernel_rfl)) (fun _ _ _ h => h) (Or.inl ⟨by rfl, ?_⟩) ?_ ?_
      rotate_left
      ·intro w'
       go_simp
       with_reducible rfl
      rotate_left
      ·simp only [Act.put, List.setIfInBounds_toArray, List.set_cons_zero, List.set_cons_succ, i64_w, i32_w]
       rfl
      refine pure_ (i := 3) (N := some 28) (v := ?_) (a' := ?_) #[true, false, false, true, false, false, false, false, false, false, false, false] rfl rfl (any_of HT_.out (by kernel_rfl)) (fun _ _ _ h => h) (Or.inl ⟨by rfl, ?_⟩) ?_ ?_
      rotate_left
      ·intro w'
       go_simp
       with_reducible rfl
      rotate_left
      ·simp only [Act.put, List.setIfInBounds_toArray, List.set_cons_zero, List.set_cons_succ, i64_w, i32_w]
       rfl
      refine pure_ (i := 4) (N := some 29) (v := ?_) (a' := ?_) #[true, false, false, true, true, false, false, false, false, false, false, false] rfl rfl (any_of HT_.out (by kernel_rfl)) (fun _ _ _ h => h) (Or.inl ⟨by rfl, ?_⟩) ?_ ?_
      rotate_left
      ·intro w'
       go_simp
       with_reducible rfl
      rotate_left
      ·simp only [Act.put, List.setIfInBounds_toArray, List.set_cons_zero, List.set_cons_succ, i64_w, i32_w]
       rfl
      refine pure_ (i := 5) (N := some 30) (v := ?_) (a' := ?_) #[true, false, false, true, true, true, false, false, false, false, false, false] rfl rfl (any_of HT_.out (by kernel_rfl)) (fun _ _ _ h => h) (Or.inl ⟨by rfl, ?_⟩) ?_ ?_
      rotate_left
      ·intro w'
       go_simp
       with_reducible rfl
      rotate_left
      ·simp only [Act.put, List.setIfInBounds_toArray, List.set_cons_zero, List.set_cons_succ, i64_w, i32_w]
       rfl
      refine pure_ (i := 6) (N := some 31) (v := ?_) (a' := ?_) #[true, false, false, true, true, true, true, false, false, false, false, false] rfl rfl (any_of HT_.out (by kernel_rfl)) (fun _ _ _ h => h) (Or.inl ⟨by rfl, ?_⟩) ?_ ?_
      rotate_left
      ·intro w'
       go_simp
       with_reducible rfl
      rotate_left
      ·simp only [Act.put, List.setIfInBounds_toArray, List.set_cons_zero, List.set_cons_succ, i64_w, i32_w]
       rfl
      refine pure_ (i := 7) (N := some 32) (v := ?_) (a' := ?_) #[true, false, false, true, true, true, true, true, false, false, false, false] rfl rfl (any_of HT_.out (by kernel_rfl)) (fun _ _ _ h => h) (Or.inl ⟨by rfl, ?_⟩) ?_ ?_
      rotate_left
      ·intro w'
       go_simp
       with_reducible rfl
      rotate_left
      ·simp only [Act.put, List.setIfInBounds_toArray, List.set_cons_zero, List.set_cons_succ, i64_w, i32_w]
       rfl
      refine join_ (σ := Value × Value) 4 #[true, true, true, true, true, true, true, true, false, false, false, false] (fun s_ => [(26, s_.1), (27, s_.2)]) (fun s_ w' => (Kd.S (Kd.slice 3 (Kd.int .i64)) 32 w' w.heap.size (fun k_ => some k_ ≠ (s_.1 : Value).ownBlock ∧ some k_ ≠ (s_.2 : Value).ownBlock) (.slice Ao44 t424.length co44) t424) ∧ (Kd.S (Kd.slice 3 (Kd.int .i64)) 32 w' w.heap.size (fun k_ => some k_ ≠ (.slice Ao44 t424.length co44 : Value).ownBlock ∧ some k_ ≠ (s_.2 : Value).ownBlock) s_.1 t427) ∧ (Kd.R (Kd.int .i64) 3 w' w.heap.size (fun _ => True) s_.2 y430) ∧ (Below w.heap.size w w')) ?_ ?_
      rotate_left
      ·intro hCont
       refine two_ (i := 1) (j := 2) (Ni := some 26) (Nj := some 27) #[true, true, false, true, true, true, true, true, false, false, false, false] #[true, false, true, true, true, true, true, true, false, false, false, false] rfl rfl rfl rfl (two_of HT_.out (by kernel_rfl)) (by decide) (by decide) (fun K hK => ?_) (fun K hK => ?_)
       ·skip
        refine goes_ Try.func13 (by kernel_rfl) rfl #[.slice Ao44 t424.length co44] (by rfl) rfl rfl (by (try simp only [List.map_toArray, List.map_cons, List.map_nil]); first | done | rfl | (simp only [List.length_drop, List.length_take]; rfl)) ?_
        with_reducible refine (ashlarlaw09_few.calls k _ _ t424 t427 _ ?side1 ?side2 A6.out).mono ?_
        (case side1 => repeat (first | exact (Kd.S_reads' HO426.out).2.2 | (with_reducible refine Kd.C_alloc ?_ _) | (with_reducible refine Kd.C_drewN ?_ _) | (with_reducible refine Kd.C_drew ?_)))
        (case side2 => exact (Kd.S_reads' HO426.out).2.1)
        rintro e w47 ⟨v428, rfl, ho0, hb⟩
        refine ⟨_, rfl, ?_⟩
        have n0_ := Aside0.mk (Kd.S_elder' (by (with_reducible repeat (first | apply Kd.S_alloc | apply Kd.S_drewN | apply Kd.S_drew)); exact HO426.out) (Kd.S_base ho0) hb)
        have n1_ := Aside0.mk (Kd.S_lower (Kd.S_new' ho0 (Kd.S_lt (by (with_reducible repeat (first | apply Kd.S_alloc | apply Kd.S_drewN | apply Kd.S_drew)); exact HO426.out))) (below_size (by repeat (first | (with_reducible first | exact HB.out | apply below_alloc | apply pw_below_drewN | apply below_drew1) | exact HB.out))))
        have n2_ := Aside0.mk (below_step (by repeat (first | (with_reducible first | exact HB.out | apply below_alloc | apply pw_below_drewN | apply below_drew1) | exact HB.out)) hb)
        clear HO426
        clear HB
        have HO426 := n0_
        have HO429 := n1_
        have HB := n2_
        clear n0_ n1_ n2_
        (try clear hb)
        (try clear hb2)
        (try clear hk)
        (try clear hi)
        (try clear ho0)
        refine hK.out _ _ trivial (fun hHeld => ?_)
        clear hK K
        refine norm_ (a' := ?_) ?_ ?_
        rotate_left
        ·show Act.put _ (some 26) _ = _
         simp only [Act.put, List.setIfInBounds_toArray, List.set_cons_zero, List.set_cons_succ, i64_w, i32_w]
         rfl
        refine one_ (i := 2) (N := some 27) #[true, true, true, true, true, true, true, true, false, false, false, false] rfl rfl (one_of HT_.out (by kernel_rfl)) (by decide) (fun K hK => ?_)
        refine Kd.R_lit_step (Kd.int .i64) _ 3 ?hg (N := 27) ?hd (xs := ([] : List Int)) (inner := []) (ok := fun _ => True) (okp := fun _ => True) ?hr ?hp (fun _ hk => hk) trivial (Below.refl _ _) (Nat.le_refl _) (by simp) ?_; (case hd => rfl); (case hg => rfl); (case hr => first | (go_simp; done) | (go_simp; rfl)); (case hp => exact (Reps.none _ _))
        intro v431 w48 ho49 hb hg_ hnew_
        clear hg_ hnew_
        (first | rw [← Ny430.out] at ho49 | (simp only [Int.reduceToNat] at ho49; rw [← Ny430.out] at ho49))
        have n0_ := Aside0.mk (Kd.S_elder' (by (with_reducible repeat (first | apply Kd.S_alloc | apply Kd.S_drewN | apply Kd.S_drew)); exact HO426.out) (Kd.R_base ho49) hb)
        have n1_ := Aside0.mk (Kd.S_elder' (by (with_reducible repeat (first | apply Kd.S_alloc | apply Kd.S_drewN | apply Kd.S_drew)); exact HO429.out) (Kd.R_base ho49) hb)
        have n2_ := Aside0.mk (Kd.R_lower ho49 (below_size (by repeat (first | (with_reducible first | exact HB.out | apply below_alloc | apply pw_below_drewN | apply below_drew1) | exact HB.out))))
        have n3_ := Aside0.mk (below_step (by repeat (first | (with_reducible first | exact HB.out | apply below_alloc | apply pw_below_drewN | apply below_drew1) | exact HB.out)) hb)
        clear HO426
        clear HO429
        clear HB
        have HO426 := n0_
        have HO429 := n1_
        have HO432 := n2_
        have HB := n3_
        clear n0_ n1_ n2_ n3_
        clear hb ho49
        refine hK.out _ _ trivial (fun hHeld => ?_)
        clear hK K
        refine norm_ (a' := ?_) ?_ ?_
        rotate_left
        ·show Act.put _ (some 27) _ = _
         simp only [Act.put, List.setIfInBounds_toArray, List.set_cons_zero, List.set_cons_succ, i64_w, i32_w]
         rfl
        exact norm_ (by simp only [putAll, Act.put, List.setIfInBounds_toArray, List.set_cons_zero, List.set_cons_succ]) (hCont (v428, v431) _ ⟨(by (with_reducible repeat (first | apply Kd.S_alloc | apply Kd.S_drewN | apply Kd.S_drew)); exact Kd.S_mono HO426.out (fun _ hk => ⟨hk.1.2, hk.2⟩)), (by (with_reducible repeat (first | apply Kd.S_alloc | apply Kd.S_drewN | apply Kd.S_drew)); exact Kd.S_mono HO429.out (fun _ hk => ⟨hk.1.2, hk.2⟩)), (by (with_reducible repeat (first | apply Kd.R_alloc | apply Kd.R_drewN | apply Kd.R_drew)); exact HO432.out), (by repeat (first | (with_reducible first | exact HB.out | apply below_alloc | apply pw_below_drewN | apply below_drew1) | exact HB.out))⟩)
       ·skip
        refine Kd.R_lit_step (Kd.int .i64) _ 3 ?hg (N := 27) ?hd (xs := ([] : List Int)) (inner := []) (ok := fun _ => True) (okp := fun _ => True) ?hr ?hp (fun _ hk => hk) trivial (Below.refl _ _) (Nat.le_refl _) (by simp) ?_; (case hd => rfl); (case hg => rfl); (case hr => first | (go_simp; done) | (go_simp; rfl)); (case hp => exact (Reps.none _ _))
        intro v431 w47 ho48 hb hg_ hnew_
        clear hg_ hnew_
        (first | rw [← Ny430.out] at ho48 | (simp only [Int.reduceToNat] at ho48; rw [← Ny430.out] at ho48))
        have n0_ := Aside0.mk (Kd.S_elder' (by (with_reducible repeat (first | apply Kd.S_alloc | apply Kd.S_drewN | apply Kd.S_drew)); exact HO426.out) (Kd.R_base ho48) hb)
        have n1_ := Aside0.mk (Kd.R_lower ho48 (below_size (by repeat (first | (with_reducible first | exact HB.out | apply below_alloc | apply pw_below_drewN | apply below_drew1) | exact HB.out))))
        have n2_ := Aside0.mk (below_step (by repeat (first | (with_reducible first | exact HB.out | apply below_alloc | apply pw_below_drewN | apply below_drew1) | exact HB.out)) hb)
        clear HO426
        clear HB
        have HO426 := n0_
        have HO432 := n1_
        have HB := n2_
        clear n0_ n1_ n2_
        clear hb ho48
        refine hK.out _ _ trivial (fun hHeld => ?_)
        clear hK K
        refine norm_ (a' := ?_) ?_ ?_
        rotate_left
        ·show Act.put _ (some 27) _ = _
         simp only [Act.put, List.setIfInBounds_toArray, List.set_cons_zero, List.set_cons_succ, i64_w, i32_w]
         rfl
        refine one_ (i := 1) (N := some 26) #[true, true, true, true, true, true, true, true, false, false, false, false] rfl rfl (one_of HT_.out (by kernel_rfl)) (by decide) (fun K hK => ?_)
        refine goes_ Try.func13 (by kernel_rfl) rfl #[.slice Ao44 t424.length co44] (by rfl) rfl rfl (by (try simp only [List.map_toArray, List.map_cons, List.map_nil]); first | done | rfl | (simp only [List.length_drop, List.length_take]; rfl)) ?_
        with_reducible refine (ashlarlaw09_few.calls k _ _ t424 t427 _ ?side1 ?side2 A6.out).mono ?_
        (case side1 => repeat (first | exact (Kd.S_reads' HO426.out).2.2 | (with_reducible refine Kd.C_alloc ?_ _) | (with_reducible refine Kd.C_drewN ?_ _) | (with_reducible refine Kd.C_drew ?_)))
        (case side2 => exact (Kd.S_reads' HO426.out).2.1)
        rintro e w49 ⟨v428, rfl, ho0, hb⟩
        refine ⟨_, rfl, ?_⟩
        have n0_ := Aside0.mk (Kd.S_elder' (by (with_reducible repeat (first | apply Kd.S_alloc | apply Kd.S_drewN | apply Kd.S_drew)); exact HO426.out) (Kd.S_base ho0) hb)
        have n1_ := Aside0.mk (Kd.R_below (by (with_reducible repeat (first | apply Kd.R_alloc | apply Kd.R_drewN | apply Kd.R_drew)); exact HO432.out) hb)
        have n2_ := Aside0.mk (Kd.S_lower (Kd.S_new' (Kd.S_new' ho0 (Kd.S_lt (by (with_reducible repeat (first | apply Kd.S_alloc | apply Kd.S_drewN | apply Kd.S_drew)); exact HO426.out))) (Kd.R_lt (by (with_reducible repeat (first | apply Kd.R_alloc | apply Kd.R_drewN | apply Kd.R_drew)); exact HO432.out))) (below_size (by repeat (first | (with_reducible first | exact HB.out | apply below_alloc | apply pw_below_drewN | apply below_drew1) | exact HB.out))))
        have n3_ := Aside0.mk (below_step (by repeat (first | (with_reducible first | exact HB.out | apply below_alloc | apply pw_below_drewN | apply below_drew1) | exact HB.out)) hb)
        clear HO426
        clear HO432
        clear HB
        have HO426 := n0_
        have HO432 := n1_
        have HO429 := n2_
        have HB := n3_
        clear n0_ n1_ n2_ n3_
        (try clear hb)
        (try clear hb2)
        (try clear hk)
        (try clear hi)
        (try clear ho0)
        refine hK.out _ _ trivial (fun hHeld => ?_)
        clear hK K
        refine norm_ (a' := ?_) ?_ ?_
        rotate_left
        ·show Act.put _ (some 26) _ = _
         simp only [Act.put, List.setIfInBounds_toArray, List.set_cons_zero, List.set_cons_succ, i64_w, i32_w]
         rfl
        exact norm_ (by simp only [putAll, Act.put, List.setIfInBounds_toArray, List.set_cons_zero, List.set_cons_succ]) (hCont (v428, v431) _ ⟨(by (with_reducible repeat (first | apply Kd.S_alloc | apply Kd.S_drewN | apply Kd.S_drew)); exact Kd.S_mono HO426.out (fun _ hk => ⟨hk.2, hk.1.2⟩)), (by (with_reducible repeat (first | apply Kd.S_alloc | apply Kd.S_drewN | apply Kd.S_drew)); exact Kd.S_mono HO429.out (fun _ hk => ⟨hk.1.2, hk.2⟩)), (by (with_reducible repeat (first | apply Kd.R_alloc | apply Kd.R_drewN | apply Kd.R_drew)); exact HO432.out), (by repeat (first | (with_reducible first | exact HB.out | apply below_alloc | apply pw_below_drewN | apply below_drew1) | exact HB.out))⟩)
      rintro ⟨v428, v431⟩ w50 ⟨h0_, h1_, h2_, h3_⟩
      have n0_ : Aside0 (Kd.S (Kd.slice 3 (Kd.int .i64)) 32 w50 w.heap.size (fun k_ => some k_ ≠ (v428 : Value).ownBlock ∧ some k_ ≠ (v431 : Value).ownBlock) (.slice Ao44 t424.length co44) t424) := ⟨h0_⟩
      have n1_ : Aside0 (Kd.S (Kd.slice 3 (Kd.int .i64)) 32 w50 w.heap.size (fun k_ => some k_ ≠ (.slice Ao44 t424.length co44 : Value).ownBlock ∧ some k_ ≠ (v431 : Value).ownBlock) v428 t427) := ⟨h1_⟩
      have n2_ : Aside0 (Kd.R (Kd.int .i64) 3 w50 w.heap.size (fun _ => True) v431 y430) := ⟨h2_⟩
      have n3_ : Aside0 (Below w.heap.size w w50) := ⟨h3_⟩
      clear HO426
      clear HB
      clear h0_ h1_ h2_ h3_
      have HO426 := n0_
      have HO429 := n1_
      have HO432 := n2_
      have HB := n3_
      clear n0_ n1_ n2_ n3_
      have hHeld := trivial
      refine norm_ (a' := ?_) ?_ ?_
      rotate_left
      ·simp only [putAll, Act.put, List.setIfInBounds_toArray, List.set_cons_zero, List.set_cons_succ]
       rfl
      refine one_ (i := 8) (N := some 33) #[true, true, true, true, true, true, true, true, true, false, false, false] rfl rfl (one_of HT_.out (by kernel_rfl)) (by decide) (fun K hK => ?_)
      refine Kd.R_append_rows_step (Kd.int .i64) (w0 := w) w.heap.size (by rfl) (.tmp 27) (.tmp 32) 32 3 (.int .i64 0) 8 rfl Try.underlying32 info3 rfl (by decide) (by omega) v431 y430 (l1.take ((ji7) : Int).toNat) _ _ _ (fun _ => True) (fun _ => False) rfl rfl ?aO ?aR (fun _ _ h => h) (fun _ h => h.elim) ?aF ?aB ?aS ?aL ?_
      (case aR => first | (refine Eq.mp (congrArg (fun n_ => ReadsRow _ _ _ _ n_ _) (show (l1.take ((ji7) : Int).toNat).length = (ji7).toNat from (by rw [List.length_take]; have h_ : ((ji7) : Int) ≤ (l1.length : Int) := of_decide_eq_true (by first | (with_reducible assumption) | assumption); omega))) ?_; repeat (first | exact (Kd.C_below HR433.out HB.out) | (with_reducible refine Kd.C_alloc ?_ _) | (with_reducible refine Kd.C_drewN ?_ _) | (with_reducible refine Kd.C_drew ?_)); done) | (rw [← show (l1.take ((ji7) : Int).toNat).length = (ji7).toNat from (by rw [List.length_take]; have h_ : ((ji7) : Int) ≤ (l1.length : Int) := of_decide_eq_true (by first | (with_reducible assumption) | assumption); omega)]; repeat (first | exact (Kd.C_below HR433.out HB.out) | (with_reducible refine Kd.C_alloc ?_ _) | (with_reducible refine Kd.C_drewN ?_ _) | (with_reducible refine Kd.C_drew ?_))) | (repeat (first | exact (Kd.C_below HR433.out HB.out) | (with_reducible refine Kd.C_alloc ?_ _) | (with_reducible refine Kd.C_drewN ?_ _) | (with_reducible refine Kd.C_drew ?_))))
      (case aB => exact (by repeat (first | (with_reducible first | exact HB.out | apply below_alloc | apply pw_below_drewN | apply below_drew1) | exact HB.out)))
      (case aF => exact (fun _ _ => trivial))
      (case aO => exact (by (with_reducible repeat (first | apply Kd.R_alloc | apply Kd.R_drewN | apply Kd.R_drew)); exact HO432.out))
      (case aS => exact (below_size (by repeat (first | (with_reducible first | exact HB.out | apply below_alloc | apply pw_below_drewN | apply below_drew1) | exact HB.out))))
      (case aL => have := LMc10.out; have hlx_ := (show (l1.take ((ji7) : Int).toNat).length = (ji7).toNat from (by rw [List.length_take]; have h_ : ((ji7) : Int) ≤ (l1.length : Int) := of_decide_eq_true (by first | (with_reducible assumption) | assumption); omega)); omega)
      intro v435 w51 ho hb hg hat
      rw [← Ny434.out] at ho
      have n0_ := Aside0.mk (Kd.S_after (ok := (fun k_ => some k_ ≠ (v428 : Value).ownBlock)) (by (with_reducible repeat (first | apply Kd.S_alloc | apply Kd.S_drewN | apply Kd.S_drew)); exact HO426.out) hg hat)
      have n1_ := Aside0.mk (Kd.S_after (ok := (fun k_ => some k_ ≠ (.slice Ao44 t424.length co44 : Value).ownBlock)) (by (with_reducible repeat (first | apply Kd.S_alloc | apply Kd.S_drewN | apply Kd.S_drew)); exact HO429.out) hg hat)
      have n2_ := Aside0.mk (hb)
      have n3_ := Aside0.mk (ho)
      clear HO426
      clear HO429
      clear HB
      clear HO432
      have HO426 := n0_
      have HO429 := n1_
      have HB := n2_
      have HO436 := n3_
      clear n0_ n1_ n2_ n3_
      clear ho hb hg hat
      obtain ⟨Ao53, co53, eo53⟩ := Kd.R_slice HO436.out
      (first | subst eo53 | (injection eo53 with f1_ f2_ f3_; have f4_ := f1_.symm; have f5_ := f3_.symm; clear f1_ f2_ f3_; subst f4_; subst f5_))
      refine hK.out _ _ trivial (fun hHeld => ?_)
      clear hK K
      refine norm_ (a' := ?_) ?_ ?_
      rotate_left
      ·show Act.put _ (some 33) _ = _
       simp only [Act.put, List.setIfInBounds_toArray, List.set_cons_zero, List.set_cons_succ, i64_w, i32_w]
       rfl
      refine one_ (i := 9) (N := some 34) #[true, true, true, true, true, true, true, true, true, true, false, false] rfl rfl (one_of HT_.out (by kernel_rfl)) (by decide) (fun K hK => ?_)
      refine value_ (w1 := ?_) (v := ?_) (by rfl) rfl ?_ ?_
      rotate_left 2
      ·go_simp
       constructor
       ·rfl
       ·rfl
      refine hK.out _ _ trivial (fun hHeld => ?_)
      clear hK K
      refine norm_ (a' := ?_) ?_ ?_
      rotate_left
      ·show Act.put _ (some 34) _ = _
       simp only [Act.put, List.setIfInBounds_toArray, List.set_cons_zero, List.set_cons_succ, i64_w, i32_w]
       rfl
      refine one_ (i := 10) (N := some 35) #[true, true, true, true, true, true, true, true, true, true, true, false] rfl rfl (one_of HT_.out (by kernel_rfl)) (by decide) (fun K hK => ?_)
      refine Kd.S_append_step (Kd.slice 3 (Kd.int .i64)) (w0 := w) w.heap.size (by rfl) (.tmp 26) (.tmp 34) 22 32 (.slice none 0 0) 24 rfl Try.underlying22 info32 rfl (by decide) (by omega) v428 t427 y434 [.slice Ao53 y434.length co53] (fun k_ => some k_ ≠ (.slice Ao44 t424.length co44 : Value).ownBlock) (fun k_ => some k_ = (.slice Ao53 y434.length co53 : Value).ownBlock) rfl rfl ?aP (fun k_ hk_ => ((Kd.R_mono (ok' := fun k_ => ((fun k_ => some k_ ≠ (.slice Ao44 t424.length co44 : Value).ownBlock)) k_ ∧ some k_ ≠ (v428 : Value).ownBlock) (Kd.R_apart' (Kd.R_apart' (HO436.out) (Kd.S_typed HO426.out) (by decide)) (Kd.S_typed HO429.out) (by decide)) (fun k_ hk => ⟨hk.1.2, hk.2⟩))).1 k_ hk_.symm) ?aF ?aO ?aB ?aS ?aL ?_
      (case aP => exact Kd.M_row (Kd.R_mono (Kd.R_tight rfl (Kd.R_mono (ok' := fun k_ => ((fun k_ => some k_ ≠ (.slice Ao44 t424.length co44 : Value).ownBlock)) k_ ∧ some k_ ≠ (v428 : Value).ownBlock) (Kd.R_apart' (Kd.R_apart' (HO436.out) (Kd.S_typed HO426.out) (by decide)) (Kd.S_typed HO429.out) (by decide)) (fun k_ hk => ⟨hk.1.2, hk.2⟩))) (fun _ h_ => h_)))
      (case aB => exact (by repeat (first | (with_reducible first | exact HB.out | apply below_alloc | apply pw_below_drewN | apply below_drew1) | exact HB.out)))
      (case aF => exact (fun k_ hk => Kd.fresh' (Kd.S_lt (by (with_reducible repeat (first | apply Kd.S_alloc | apply Kd.S_drewN | apply Kd.S_drew)); exact HO426.out)) k_ hk))
      (case aO => exact (by (with_reducible repeat (first | apply Kd.S_alloc | apply Kd.S_drewN | apply Kd.S_drew)); exact Kd.S_mono HO429.out (fun k_ hk => ⟨hk.1, fun e_ => hk.2 e_⟩)))
      (case aS => exact (below_size (by repeat (first | (with_reducible first | exact HB.out | apply below_alloc | apply pw_below_drewN | apply below_drew1) | exact HB.out))))
      (case aL => have := LMc11.out; omega)
      intro v438 w52 ho hb hg hat
      rw [← Ny437.out] at ho
      have n0_ := Aside0.mk (Kd.S_after (ok := (fun k_ => some k_ ≠ (.slice Ao53 y434.length co53 : Value).ownBlock)) (by (with_reducible repeat (first | apply Kd.S_alloc | apply Kd.S_drewN | apply Kd.S_drew)); exact Kd.S_mono HO426.out (fun _ hk => ⟨hk.2, hk.1⟩)) hg hat)
      have n1_ := Aside0.mk (hb)
      have n2_ := Aside0.mk (ho)
      clear HO426
      clear HB
      clear HO429
      clear HO436
      have HO426 := n0_
      have HB := n1_
      have HO439 := n2_
      clear n0_ n1_ n2_
      clear ho hb hg hat
      refine hK.out _ _ trivial (fun hHeld => ?_)
      clear hK K
      refine norm_ (a' := ?_) ?_ ?_
      rotate_left
      ·show Act.put _ (some 35) _ = _
       simp only [Act.put, List.setIfInBounds_toArray, List.set_cons_zero, List.set_cons_succ, i64_w, i32_w]
       rfl
      refine pure_ (i := 11) (N := some 8) (v := ?_) (a' := ?_) #[true, true, true, true, true, true, true, true, true, true, true, true] rfl rfl (any_of HT_.out (by kernel_rfl)) (fun _ _ _ h => h) (Or.inl ⟨by rfl, ?_⟩) ?_ ?_
      rotate_left
      ·intro w'
       go_simp
       with_reducible rfl
      rotate_left
      ·simp only [Act.put, List.setIfInBounds_toArray, List.set_cons_zero, List.set_cons_succ, i64_w, i32_w]
       rfl
      refine done_ (done_of HT_.out (by kernel_rfl)) ?_
      obtain ⟨Ao54, co54, eo54⟩ := Kd.S_slice HO439.out
      subst eo54
      try go_wp2_with (first | ((with_reducible refine gate_callee (f := 16) rfl ?_); refine goesL_ (some 38) rfl rfl Try.func16 (by kernel_rfl) rfl #[.slice Ao54 y437.length co54, .int .i64 (Int.tmod (Go.bits .and .i64 a2 65535) 6)] rfl (by (try simp only [List.map_toArray, List.map_cons, List.map_nil]); first | done | rfl | (simp only [List.length_drop, List.length_take]; rfl)) ?_; (with_reducible refine (ashlarref09_Right.calls k _ _ y437 (Int.tmod (Go.bits .and .i64 a2 65535) 6) false _ ?side1 ?side2 A12.out).mono ?_); (case side1 => repeat (first | exact (Kd.S_reads' HO439.out).2.2 | (with_reducible refine Kd.C_alloc ?_ _) | (with_reducible refine Kd.C_drewN ?_ _) | (with_reducible refine Kd.C_drew ?_))); (case side2 => exact (Kd.S_reads' HO439.out).2.1); rintro e w' ⟨rfl, ⟨nd, rfl⟩⟩; refine ⟨_, rfl, ?_⟩))
      go_ret
      exact ⟨by first | rfl | (simp [errW_none, errW_some] <;> rfl) | (simp only [← hji7]; first | rfl | (simp [errW_none, errW_some] <;> rfl)) | (simp [*, errW_none, errW_some] <;> rfl), by repeat (first | (with_reducible first | exact HB.out | apply below_alloc | apply pw_below_drewN | apply below_drew1) | exact HB.out)⟩
    ·rw [if_neg c11] at H
     exact absurd H (by simp)
   ·rw [if_neg c10] at H
    exact absurd H (by simp)
  ·rw [if_neg c9] at H
   exact absurd H (by simp)
 ·rw [if_neg c8] at H
  exact absurd H (by simp)

end Go.Proofs.Ytmdjlhmifhnpdaa.Q
