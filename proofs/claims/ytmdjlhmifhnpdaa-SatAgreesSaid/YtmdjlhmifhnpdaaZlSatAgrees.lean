/- Texts of this seat, joined by a program of this session (wip/tools/pack.py). -/
import Derived.Test.YtmdjlhmifhnpdaaProg
import Derived.Below
import Derived.Deep.Draws
import Derived.Deep.AppendLies
import Derived.Maps.AppendAt
import Derived.OwnWalk
import Derived.Laws.BytesArg
import Derived.Laws.MakeOwn
import Derived.Laws.OwnMore
import Derived.Deep.OwnRows
import Derived.Tactics
import Derived.Lib.ConvBytes
import Derived.Laws.Slices
import Derived.WalkKit
import Derived.KernelRfl
import Derived.RowKit3
import Derived.Deep.LoopGhost
import Derived.Deep.QuietTactic
import Derived.BigQuiet
import Derived.WideLaws
import Derived.Deep.DeepCutAuto
import Derived.Deep.CutBlock
import Derived.Deep.RegionHeld3
import Derived.Laws.Rows
import Derived.Lib.AppendStr
import Derived.ArgAppend
import Derived.Laws.IdiomCopy
import Derived.OrdersHeld
import Derived.Laws.BitsLemmas
import Derived.RowKit
import Derived.ScopeJumps
import Derived.WalkMore
import Derived.Laws.CopyOwn
import Derived.Deep.Slices
import Derived.WalkSpells
import Derived.Outline
import Derived.Test.YtmdjlhmifhnpdaaZd
import Derived.Test.YtmdjlhmifhnpdaaZc
import Derived.Test.YtmdjlhmifhnpdaaZw
import Derived.Test.YtmdjlhmifhnpdaaZf
import Derived.Test.YtmdjlhmifhnpdaaZq1
import Derived.Test.YtmdjlhmifhnpdaaZq2
import Derived.Test.YtmdjlhmifhnpdaaZq3
namespace Go.Proofs.Ytmdjlhmifhnpdaa.Q
open Go.RowKit Go.Proofs.YtmdjlhmifhnpdaaW.PrintWords Go.Proofs.YtmdjlhmifhnpdaaW.PrintLast Go.Proofs.YtmdjlhmifhnpdaaW.PrintMore
attribute [local go_sem] max2_int min2_int max_two min_two max_three min_three max_four min_four   -- for this text's walks alone
set_option linter.unusedVariables false
set_option linter.unusedSimpArgs false

/-! ### ashlarlaw09_SatAgrees: function 9 -/
mutual
def ashlarlaw09_SatAgrees.l0 : Nat → Int → Bool → List Int → Int → List Bool → Int → Option (Bool)
 | 0, _, _, _, _, _, _ => none
 | k + 1, x1, x7, x9, x11, x12, x14 => if x14 ≤ x1 then (ashlarlaw09_SatAgrees.j1 k x1 x7 x9 x11 x12 x14 (x11 == 1)) else (ashlarlaw09_SatAgrees.j1 k x1 x7 x9 x11 x12 x14 false)
def ashlarlaw09_SatAgrees.j1 : Nat → Int → Bool → List Int → Int → List Bool → Int → Bool → Option (Bool)
 | 0, _, _, _, _, _, _, _ => none
 | k + 1, x1, x7, x9, x11, x12, x14, x62 => if x62 = true then (if 0 ≤ x14 then (if x14 < (x9.length : Int) then (if (rd x9 x14) > 0 then (if x14 < (x12.length : Int) then (if rdOf false x12 x14 = true then (if (rd x9 x14) < 0 then (some false) else (ashlarlaw09_SatAgrees.l0 k x1 x7 x9 x11 x12 (wrap64 (x14 + 1)))) else (some false)) else (none)) else (if (rd x9 x14) < 0 then (if x14 < (x12.length : Int) then (if rdOf false x12 x14 = true then (some false) else (ashlarlaw09_SatAgrees.l0 k x1 x7 x9 x11 x12 (wrap64 (x14 + 1)))) else (none)) else (ashlarlaw09_SatAgrees.l0 k x1 x7 x9 x11 x12 (wrap64 (x14 + 1))))) else (none)) else (none)) else (some x7)
end
def ashlarlaw09_SatAgrees.f (k : Nat) (l0 : List (List Int)) (a1 : Int) (a2 : Int) : Option (Bool) := (ashlarlaw09_shown.f k).bind fun t463 => ((ashlarlaw09_few.f k l0).bind fun t464 => ((ashlarref09_Right.f k t464 (Int.tmod (Go.bits .and .i64 a1 65535) 51)).bind fun t467 => (if t467 = true then (if 0 ≤ (wrap64 ((Int.tmod (Go.bits .and .i64 a1 65535) 51) + 1)) then (if (wrap64 ((Int.tmod (Go.bits .and .i64 a1 65535) 51) + 1) : Int).toNat ≤ 281474976710656 then ((ashlarref08_Unit.f k t464 (List.replicate (wrap64 ((Int.tmod (Go.bits .and .i64 a1 65535) 51) + 1) : Int).toNat 0)).bind fun bt471 => ((sat_Solve.f k t464 (Int.tmod (Go.bits .and .i64 a1 65535) 51) (mn a2 500)).bind fun bt475 => (if bt471.2 = true then (if t463 = true then (if bt475.1 = 2 then (some (decide ((bt475.2.2.length : Int) > 0))) else (some false)) else (some false)) else (ashlarlaw09_SatAgrees.l0 k (Int.tmod (Go.bits .and .i64 a1 65535) 51) t463 bt471.1 bt475.1 bt475.2.1 1)))) else (none)) else (none)) else (some t463))))
theorem ashlarlaw09_SatAgrees.mono_l : ∀ k, (∀ y0 y1 y2 y3 y4 y5, LeO (ashlarlaw09_SatAgrees.l0 k y0 y1 y2 y3 y4 y5) (ashlarlaw09_SatAgrees.l0 (k + 1) y0 y1 y2 y3 y4 y5)) ∧ (∀ y0 y1 y2 y3 y4 y5 y6, LeO (ashlarlaw09_SatAgrees.j1 k y0 y1 y2 y3 y4 y5 y6) (ashlarlaw09_SatAgrees.j1 (k + 1) y0 y1 y2 y3 y4 y5 y6))
 | 0 => ⟨fun _ _ _ _ _ _ r h => by simp [ashlarlaw09_SatAgrees.l0] at h, fun _ _ _ _ _ _ _ r h => by simp [ashlarlaw09_SatAgrees.j1] at h⟩
 | k + 1 => by
  obtain ⟨ih0, ih1⟩ := ashlarlaw09_SatAgrees.mono_l k
  refine ⟨?_, ?_⟩
  ·intro y0 y1 y2 y3 y4 y5
   unfold ashlarlaw09_SatAgrees.l0
   repeat' first
   | (with_reducible exact ih0 _ _ _ _ _ _)
   | (with_reducible exact ih1 _ _ _ _ _ _ _)
   | (with_reducible exact ashlarlaw09_few.mono _ _)
   | (with_reducible exact ashlarlaw09_shown.mono _)
   | (with_reducible exact ashlarref08_Unit.mono _ _ _)
   | (with_reducible exact ashlarref09_Right.mono _ _ _)
   | (with_reducible exact sat_Solve.mono _ _ _ _)
   | (with_reducible exact LeO.refl _)
   | (with_reducible exact LeO.none _)
   | (with_reducible refine LeO.ite ?_ ?_)
   | (with_reducible refine LeO.bind ?_ (fun _ => ?_))
   | exact ih0 _ _ _ _ _ _
   | exact ih1 _ _ _ _ _ _ _
   | exact ashlarlaw09_few.mono _ _
   | exact ashlarlaw09_shown.mono _
   | exact ashlarref08_Unit.mono _ _ _
   | exact ashlarref09_Right.mono _ _ _
   | exact sat_Solve.mono _ _ _ _
   | exact LeO.none _
   | refine LeO.ite ?_ ?_
   | refine LeO.bind ?_ (fun _ => ?_)
  ·intro y0 y1 y2 y3 y4 y5 y6
   unfold ashlarlaw09_SatAgrees.j1
   repeat' first
   | (with_reducible exact ih0 _ _ _ _ _ _)
   | (with_reducible exact ih1 _ _ _ _ _ _ _)
   | (with_reducible exact ashlarlaw09_few.mono _ _)
   | (with_reducible exact ashlarlaw09_shown.mono _)
   | (with_reducible exact ashlarref08_Unit.mono _ _ _)
   | (with_reducible exact ashlarref09_Right.mono _ _ _)
   | (with_reducible exact sat_Solve.mono _ _ _ _)
   | (with_reducible exact LeO.refl _)
   | (with_reducible exact LeO.none _)
   | (with_reducible refine LeO.ite ?_ ?_)
   | (with_reducible refine LeO.bind ?_ (fun _ => ?_))
   | exact ih0 _ _ _ _ _ _
   | exact ih1 _ _ _ _ _ _ _
   | exact ashlarlaw09_few.mono _ _
   | exact ashlarlaw09_shown.mono _
   | exact ashlarref08_Unit.mono _ _ _
   | exact ashlarref09_Right.mono _ _ _
   | exact sat_Solve.mono _ _ _ _
   | exact LeO.none _
   | refine LeO.ite ?_ ?_
   | refine LeO.bind ?_ (fun _ => ?_)
theorem ashlarlaw09_SatAgrees.mono : ∀ a0 a1 a2 k, LeO (ashlarlaw09_SatAgrees.f k a0 a1 a2) (ashlarlaw09_SatAgrees.f (k + 1) a0 a1 a2) := by
 intro a0 a1 a2 k
 obtain ⟨ih0, ih1⟩ := ashlarlaw09_SatAgrees.mono_l k
 unfold ashlarlaw09_SatAgrees.f
 repeat' first
   | (with_reducible exact ih0 _ _ _ _ _ _)
   | (with_reducible exact ih1 _ _ _ _ _ _ _)
   | (with_reducible exact ashlarlaw09_few.mono _ _)
   | (with_reducible exact ashlarlaw09_shown.mono _)
   | (with_reducible exact ashlarref08_Unit.mono _ _ _)
   | (with_reducible exact ashlarref09_Right.mono _ _ _)
   | (with_reducible exact sat_Solve.mono _ _ _ _)
   | (with_reducible exact LeO.refl _)
   | (with_reducible exact LeO.none _)
   | (with_reducible refine LeO.ite ?_ ?_)
   | (with_reducible refine LeO.bind ?_ (fun _ => ?_))
   | exact ih0 _ _ _ _ _ _
   | exact ih1 _ _ _ _ _ _ _
   | exact ashlarlaw09_few.mono _ _
   | exact ashlarlaw09_shown.mono _
   | exact ashlarref08_Unit.mono _ _ _
   | exact ashlarref09_Right.mono _ _ _
   | exact sat_Solve.mono _ _ _ _
   | exact LeO.none _
   | refine LeO.ite ?_ ?_
   | refine LeO.bind ?_ (fun _ => ?_)
set_option maxHeartbeats 8000000 in
set_option maxRecDepth 100000 in
theorem ashlarlaw09_SatAgrees.calls (k : Nat) (A0 : Option Addr) (c0 : Nat) (l0 : List (List Int)) (a1 : Int) (a2 : Int) (r : Bool) (w : World) (hr0 : Kd.C (Kd.slice 3 (Kd.int .i64)) w A0 l0.length l0) (hc0 : l0.length ≤ c0) (h : ashlarlaw09_SatAgrees.f k l0 a1 a2 = some r) :
  Calls Try.prog 9 #[.slice A0 l0.length c0, .int .i64 a1, .int .i64 a2] w fun e w' => e = .returned (.bool r) ∧ Below w.heap.size w w' := by
 have HR0 := Aside0.mk hr0
 have HC0 := Aside0.mk hc0
 clear hr0 hc0
 have HB := Aside0.mk (Below.refl w.heap.size w)
 have H : ((ashlarlaw09_shown.f k).bind fun t463 => ((ashlarlaw09_few.f k l0).bind fun t464 => ((ashlarref09_Right.f k t464 (Int.tmod (Go.bits .and .i64 a1 65535) 51)).bind fun t467 => (if t467 = true then (if 0 ≤ (wrap64 ((Int.tmod (Go.bits .and .i64 a1 65535) 51) + 1)) then (if (wrap64 ((Int.tmod (Go.bits .and .i64 a1 65535) 51) + 1) : Int).toNat ≤ 281474976710656 then ((ashlarref08_Unit.f k t464 (List.replicate (wrap64 ((Int.tmod (Go.bits .and .i64 a1 65535) 51) + 1) : Int).toNat 0)).bind fun bt471 => ((sat_Solve.f k t464 (Int.tmod (Go.bits .and .i64 a1 65535) 51) (mn a2 500)).bind fun bt475 => (if bt471.2 = true then (if t463 = true then (if bt475.1 = 2 then (some (decide ((bt475.2.2.length : Int) > 0))) else (some false)) else (some false)) else (ashlarlaw09_SatAgrees.l0 k (Int.tmod (Go.bits .and .i64 a1 65535) 51) t463 bt471.1 bt475.1 bt475.2.1 1)))) else (none)) else (none)) else (some t463))))) = some r := h
 clear h
 replace H := Option.bind_eq_some_iff.mp H
 obtain ⟨t463, A40, H⟩ := H
 replace H : ((ashlarlaw09_few.f k l0).bind fun t464 => ((ashlarref09_Right.f k t464 (Int.tmod (Go.bits .and .i64 a1 65535) 51)).bind fun t467 => (if t467 = true then (if 0 ≤ (wrap64 ((Int.tmod (Go.bits .and .i64 a1 65535) 51) + 1)) then (if (wrap64 ((Int.tmod (Go.bits .and .i64 a1 65535) 51) + 1) : Int).toNat ≤ 281474976710656 then ((ashlarref08_Unit.f k t464 (List.replicate (wrap64 ((Int.tmod (Go.bits .and .i64 a1 65535) 51) + 1) : Int).toNat 0)).bind fun bt471 => ((sat_Solve.f k t464 (Int.tmod (Go.bits .and .i64 a1 65535) 51) (mn a2 500)).bind fun bt475 => (if bt471.2 = true then (if t463 = true then (if bt475.1 = 2 then (some (decide ((bt475.2.2.length : Int) > 0))) else (some false)) else (some false)) else (ashlarlaw09_SatAgrees.l0 k (Int.tmod (Go.bits .and .i64 a1 65535) 51) t463 bt471.1 bt475.1 bt475.2.1 1)))) else (none)) else (none)) else (some t463)))) = some r := H
 have A4 := Aside0.mk A40
 clear A40
 replace H := Option.bind_eq_some_iff.mp H
 obtain ⟨t464, A50, H⟩ := H
 replace H : ((ashlarref09_Right.f k t464 (Int.tmod (Go.bits .and .i64 a1 65535) 51)).bind fun t467 => (if t467 = true then (if 0 ≤ (wrap64 ((Int.tmod (Go.bits .and .i64 a1 65535) 51) + 1)) then (if (wrap64 ((Int.tmod (Go.bits .and .i64 a1 65535) 51) + 1) : Int).toNat ≤ 281474976710656 then ((ashlarref08_Unit.f k t464 (List.replicate (wrap64 ((Int.tmod (Go.bits .and .i64 a1 65535) 51) + 1) : Int).toNat 0)).bind fun bt471 => ((sat_Solve.f k t464 (Int.tmod (Go.bits .and .i64 a1 65535) 51) (mn a2 500)).bind fun bt475 => (if bt471.2 = true then (if t463 = true then (if bt475.1 = 2 then (some (decide ((bt475.2.2.length : Int) > 0))) else (some false)) else (some false)) else (ashlarlaw09_SatAgrees.l0 k (Int.tmod (Go.bits .and .i64 a1 65535) 51) t463 bt471.1 bt475.1 bt475.2.1 1)))) else (none)) else (none)) else (some t463))) = some r := H
 have A5 := Aside0.mk A50
 clear A50
 obtain ⟨ji6, hji6⟩ : ∃ j_ : Int, (mn a2 500) = j_ := ⟨_, rfl⟩
 replace H : ((ashlarref09_Right.f k t464 (Int.tmod (Go.bits .and .i64 a1 65535) 51)).bind fun t467 => (if t467 = true then (if 0 ≤ (wrap64 ((Int.tmod (Go.bits .and .i64 a1 65535) 51) + 1)) then (if (wrap64 ((Int.tmod (Go.bits .and .i64 a1 65535) 51) + 1) : Int).toNat ≤ 281474976710656 then ((ashlarref08_Unit.f k t464 (List.replicate (wrap64 ((Int.tmod (Go.bits .and .i64 a1 65535) 51) + 1) : Int).toNat 0)).bind fun bt471 => ((sat_Solve.f k t464 (Int.tmod (Go.bits .and .i64 a1 65535) 51) (ji6)).bind fun bt475 => (if bt471.2 = true then (if t463 = true then (if bt475.1 = 2 then (some (decide ((bt475.2.2.length : Int) > 0))) else (some false)) else (some false)) else (ashlarlaw09_SatAgrees.l0 k (Int.tmod (Go.bits .and .i64 a1 65535) 51) t463 bt471.1 bt475.1 bt475.2.1 1)))) else (none)) else (none)) else (some t463))) = some r := by first | (rw [hji6] at H; exact H) | (simp only [hji6] at H ⊢; exact H)
 (try rw [hji6] at A4)
 (try rw [hji6] at A5)
 (try (have hji6h : ji6 ≤ 500 := by (rw [← hji6]; unfold mn; (repeat' split) <;> omega)))
 (try (have hji6g : ji6 ≤ 64 := by omega))
 have hji6_ : (if 500 < a2 then 500 else a2) = ji6 := hji6
 replace H := Option.bind_eq_some_iff.mp H
 obtain ⟨t467, A70, H⟩ := H
 replace H : (if t467 = true then (if 0 ≤ (wrap64 ((Int.tmod (Go.bits .and .i64 a1 65535) 51) + 1)) then (if (wrap64 ((Int.tmod (Go.bits .and .i64 a1 65535) 51) + 1) : Int).toNat ≤ 281474976710656 then ((ashlarref08_Unit.f k t464 (List.replicate (wrap64 ((Int.tmod (Go.bits .and .i64 a1 65535) 51) + 1) : Int).toNat 0)).bind fun bt471 => ((sat_Solve.f k t464 (Int.tmod (Go.bits .and .i64 a1 65535) 51) (ji6)).bind fun bt475 => (if bt471.2 = true then (if t463 = true then (if bt475.1 = 2 then (some (decide ((bt475.2.2.length : Int) > 0))) else (some false)) else (some false)) else (ashlarlaw09_SatAgrees.l0 k (Int.tmod (Go.bits .and .i64 a1 65535) 51) t463 bt471.1 bt475.1 bt475.2.1 1)))) else (none)) else (none)) else (some t463)) = some r := H
 have A7 := Aside0.mk A70
 clear A70
 by_cases c8 : t467 = true
 ·subst c8
  have H1 : (if 0 ≤ (wrap64 ((Int.tmod (Go.bits .and .i64 a1 65535) 51) + 1)) then (if (wrap64 ((Int.tmod (Go.bits .and .i64 a1 65535) 51) + 1) : Int).toNat ≤ 281474976710656 then ((ashlarref08_Unit.f k t464 (List.replicate (wrap64 ((Int.tmod (Go.bits .and .i64 a1 65535) 51) + 1) : Int).toNat 0)).bind fun bt471 => ((sat_Solve.f k t464 (Int.tmod (Go.bits .and .i64 a1 65535) 51) (ji6)).bind fun bt475 => (if bt471.2 = true then (if t463 = true then (if bt475.1 = 2 then (some (decide ((bt475.2.2.length : Int) > 0))) else (some false)) else (some false)) else (ashlarlaw09_SatAgrees.l0 k (Int.tmod (Go.bits .and .i64 a1 65535) 51) t463 bt471.1 bt475.1 bt475.2.1 1)))) else (none)) else (none)) = some r := by rw [if_pos rfl] at H; exact H
  clear H
  have H := H1
  clear H1
  obtain ⟨ji9, hji9⟩ : ∃ j_ : Int, (wrap64 ((Int.tmod (Go.bits .and .i64 a1 65535) 51) + 1)) = j_ := ⟨_, rfl⟩
  replace H : (if 0 ≤ (ji9) then (if (ji9 : Int).toNat ≤ 281474976710656 then ((ashlarref08_Unit.f k t464 (List.replicate (ji9 : Int).toNat 0)).bind fun bt471 => ((sat_Solve.f k t464 (Int.tmod (Go.bits .and .i64 a1 65535) 51) (ji6)).bind fun bt475 => (if bt471.2 = true then (if t463 = true then (if bt475.1 = 2 then (some (decide ((bt475.2.2.length : Int) > 0))) else (some false)) else (some false)) else (ashlarlaw09_SatAgrees.l0 k (Int.tmod (Go.bits .and .i64 a1 65535) 51) t463 bt471.1 bt475.1 bt475.2.1 1)))) else (none)) else (none)) = some r := by first | (rw [hji9] at H; exact H) | (simp only [hji9] at H ⊢; exact H)
  (try rw [hji9] at A4)
  (try rw [hji9] at A5)
  (try rw [hji9] at A7)
  have hji9w : (IntKind.i64.wrap ((Int.tmod (Go.bits .and .i64 a1 65535) 51) + 1)) = ji9 := (i64_w _).trans hji9
  by_cases c10 : 0 ≤ (ji9)
  ·rw [if_pos c10] at H
   have c10b0 := eq_true c10
   have c10b1 : decide (0 ≤ (ji9)) = true := decide_eq_true c10
   clear c10
   by_cases c11 : (ji9 : Int).toNat ≤ 281474976710656
   ·rw [if_pos c11] at H
    have c11b0 := eq_true c11
    have c11b1 : decide ((ji9 : Int).toNat ≤ 281474976710656) = true := decide_eq_true c11
    clear c11
    obtain ⟨y468, hy468⟩ : ∃ y_ : List Int, y_ = (List.replicate (ji9 : Int).toNat 0) := ⟨_, rfl⟩
    replace H : ((ashlarref08_Unit.f k t464 y468).bind fun bt471 => ((sat_Solve.f k t464 (Int.tmod (Go.bits .and .i64 a1 65535) 51) (ji6)).bind fun bt475 => (if bt471.2 = true then (if t463 = true then (if bt475.1 = 2 then (some (decide ((bt475.2.2.length : Int) > 0))) else (some false)) else (some false)) else (ashlarlaw09_SatAgrees.l0 k (Int.tmod (Go.bits .and .i64 a1 65535) 51) t463 bt471.1 bt475.1 bt475.2.1 1)))) = some r := by first | (rw [hy468]; with_reducible exact H) | (have H2_ := (Option.bind_some _ _).symm.trans H; rw [hy468]; with_reducible exact H2_) | (have H2_ := (Option.bind_some _ _).symm.trans H; with_reducible exact H2_) | with_reducible exact H | (rw [hy468]; exact H) | exact H
    have Ny468 := Aside0.mk hy468
    clear hy468
    replace H := Option.bind_eq_some_iff.mp H
    obtain ⟨⟨t471, t472⟩, A120, H⟩ := H
    replace H : ((sat_Solve.f k t464 (Int.tmod (Go.bits .and .i64 a1 65535) 51) (ji6)).bind fun bt475 => (if t472 = true then (if t463 = true then (if bt475.1 = 2 then (some (decide ((bt475.2.2.length : Int) > 0))) else (some false)) else (some false)) else (ashlarlaw09_SatAgrees.l0 k (Int.tmod (Go.bits .and .i64 a1 65535) 51) t463 t471 bt475.1 bt475.2.1 1))) = some r := H
    have A12 := Aside0.mk A120
    clear A120
    replace H := Option.bind_eq_some_iff.mp H
    obtain ⟨⟨t475, t476, t477⟩, A130, H⟩ := H
    replace H : (if t472 = true then (if t463 = true then (if t475 = 2 then (some (decide ((t477.length : Int) > 0))) else (some false)) else (some false)) else (ashlarlaw09_SatAgrees.l0 k (Int.tmod (Go.bits .and .i64 a1 65535) 51) t463 t471 t475 t476 1)) = some r := H
    have A13 := Aside0.mk A130
    clear A130
    by_cases c14 : t472 = true
    ·subst c14
     have H1 : (if t463 = true then (if t475 = 2 then (some (decide ((t477.length : Int) > 0))) else (some false)) else (some false)) = some r := by rw [if_pos rfl] at H; exact H
     clear H
     have H := H1
     clear H1
     by_cases c15 : t463 = true
     ·subst c15
      have H1 : (if t475 = 2 then (some (decide ((t477.length : Int) > 0))) else (some false)) = some r := by rw [if_pos rfl] at H; exact H
      clear H
      have H := H1
      clear H1
      by_cases c16 : t475 = 2
      ·rw [if_pos c16] at H
       have c16b0 : (t475 == 2) = true := beq_iff_eq.mpr c16
       have c16b1 : (t475 != 2) = false := bne_eq_false_iff_eq.mpr c16
       clear c16
       obtain rfl := Option.some.inj H
       go_enter Try.func9, Try.ntmps9
       go_wp2_with (first | ((with_reducible refine gate_callee (f := 12) rfl ?_); refine goesL_ (some 15) rfl rfl Try.func12 (by kernel_rfl) rfl #[] rfl (by (try simp only [List.map_toArray, List.map_cons, List.map_nil]); first | done | rfl | (simp only [List.length_drop, List.length_take]; rfl)) ?_; (with_reducible refine (ashlarlaw09_shown.calls k  true _ A4.out).mono ?_); rintro e w17 ⟨rfl, hb⟩; refine ⟨_, rfl, ?_⟩; have n0_ := Aside0.mk (below_step (by repeat (first | (with_reducible first | exact HB.out | apply below_alloc | apply pw_below_drewN | apply below_drew1) | exact HB.out)) hb); clear HB; have HB := n0_; clear n0_; (try clear hb); (try clear hb2); (try clear hk); (try clear hi)) | ((with_reducible refine gate_callee (f := 13) rfl ?_); refine goesL_ (some 17) rfl rfl Try.func13 (by kernel_rfl) rfl #[.slice A0 l0.length c0] rfl (by (try simp only [List.map_toArray, List.map_cons, List.map_nil]); first | done | rfl | (simp only [List.length_drop, List.length_take]; rfl)) ?_; (with_reducible refine (ashlarlaw09_few.calls k _ _ l0 t464 _ ?side1 ?side2 A5.out).mono ?_); (case side1 => repeat (first | exact (Kd.C_below HR0.out HB.out) | (with_reducible refine Kd.C_alloc ?_ _) | (with_reducible refine Kd.C_drewN ?_ _) | (with_reducible refine Kd.C_drew ?_))); (case side2 => exact HC0.out); rintro e w18 ⟨v465, rfl, ho0, hb⟩; refine ⟨_, rfl, ?_⟩; have n0_ := Aside0.mk (Kd.S_lower ho0 (below_size (by repeat (first | (with_reducible first | exact HB.out | apply below_alloc | apply pw_below_drewN | apply below_drew1) | exact HB.out)))); have n1_ := Aside0.mk (below_step (by repeat (first | (with_reducible first | exact HB.out | apply below_alloc | apply pw_below_drewN | apply below_drew1) | exact HB.out)) hb); clear HB; have HO466 := n0_; have HB := n1_; clear n0_ n1_; (try clear hb); (try clear hb2); (try clear hk); (try clear hi); (try clear ho0); obtain ⟨Ao19, co19, eo19⟩ := Kd.S_slice HO466.out; subst eo19) | ((with_reducible refine gate_callee (f := 16) rfl ?_); refine goesL_ (some 25) rfl rfl Try.func16 (by kernel_rfl) rfl #[.slice Ao19 t464.length co19, .int .i64 (Int.tmod (Go.bits .and .i64 a1 65535) 51)] rfl (by (try simp only [List.map_toArray, List.map_cons, List.map_nil]); first | done | rfl | (simp only [List.length_drop, List.length_take]; rfl)) ?_; (with_reducible refine (ashlarref09_Right.calls k _ _ t464 (Int.tmod (Go.bits .and .i64 a1 65535) 51) true _ ?side1 ?side2 A7.out).mono ?_); (case side1 => repeat (first | exact (Kd.S_reads' HO466.out).2.2 | (with_reducible refine Kd.C_alloc ?_ _) | (with_reducible refine Kd.C_drewN ?_ _) | (with_reducible refine Kd.C_drew ?_))); (case side2 => exact (Kd.S_reads' HO466.out).2.1); rintro e w' ⟨rfl, ⟨nd, rfl⟩⟩; refine ⟨_, rfl, ?_⟩) | ((with_reducible refine gate_dst (N := 33) rfl ?_); (try (refine gate_guard (by rfl) ?_; dsimp only)); refine Kd.R_make (Kd.int .i8) _ 38 rfl (N := 33) rfl 35 _ _ rfl ji9 rfl rfl Try.underlying35 (.int .i8 0) 1 info38 rfl (by decide) (by omega) 0 (ok := fun _ => True) (okp := fun _ => True) rfl (fun _ hk => hk) trivial (of_decide_eq_true (by first | (with_reducible assumption) | assumption)) (Nat.le_trans (Nat.mul_le_mul_right _ (of_decide_eq_true (by first | (with_reducible assumption) | assumption) : ji9.toNat ≤ 281474976710656)) (by omega)) (Below.refl _ _) (Nat.le_refl _) ?_; intro v469 w20 ho21 hb hg_ hnew_; clear hg_ hnew_; (first | rw [← Ny468.out] at ho21 | (simp only [Int.reduceToNat] at ho21; rw [← Ny468.out] at ho21)); have n0_ := Aside0.mk (Kd.S_below (by (with_reducible repeat (first | apply Kd.S_alloc | apply Kd.S_drewN | apply Kd.S_drew)); exact HO466.out) hb); have n1_ := Aside0.mk (Kd.R_lower ho21 (below_size (by repeat (first | (with_reducible first | exact HB.out | apply below_alloc | apply pw_below_drewN | apply below_drew1) | exact HB.out)))); have n2_ := Aside0.mk (below_step (by repeat (first | (with_reducible first | exact HB.out | apply below_alloc | apply pw_below_drewN | apply below_drew1) | exact HB.out)) hb); clear HO466; clear HB; have HO466 := n0_; have HO470 := n1_; have HB := n2_; clear n0_ n1_ n2_; clear hb ho21; obtain ⟨Ao22, co22, eo22⟩ := Kd.R_slice HO470.out; subst eo22) | ((with_reducible refine gate_callee (f := 19) rfl ?_); refine goesL_ (some 34) rfl rfl Try.func19 (by kernel_rfl) rfl #[.slice Ao19 t464.length co19, .slice Ao22 y468.length co22] rfl (by (try simp only [List.map_toArray, List.map_cons, List.map_nil]); first | done | rfl | (simp only [List.length_drop, List.length_take]; rfl)) ?_; (with_reducible refine (ashlarref08_Unit.calls k _ _ t464 _ _ y468 t471 true _ ?side1 ?side2 ?side3 ?side4 A12.out).mono ?_); (case side1 => repeat (first | exact (Kd.S_reads' HO466.out).2.2 | (with_reducible refine Kd.C_alloc ?_ _) | (with_reducible refine Kd.C_drewN ?_ _) | (with_reducible refine Kd.C_drew ?_))); (case side2 => exact (Kd.S_reads' HO466.out).2.1); (case side3 => repeat (first | exact (Kd.R_reads' HO470.out).2.2 | (with_reducible refine Kd.C_alloc ?_ _) | (with_reducible refine Kd.C_drewN ?_ _) | (with_reducible refine Kd.C_drew ?_))); (case side4 => exact (Kd.R_reads' HO470.out).2.1); rintro e w23 ⟨v473, rfl, ho0, hb⟩; refine ⟨_, rfl, ?_⟩; have n0_ := Aside0.mk (Kd.S_below (by (with_reducible repeat (first | apply Kd.S_alloc | apply Kd.S_drewN | apply Kd.S_drew)); exact HO466.out) hb); have n1_ := Aside0.mk (Kd.R_elder' (by (with_reducible repeat (first | apply Kd.R_alloc | apply Kd.R_drewN | apply Kd.R_drew)); exact HO470.out) (Kd.R_base ho0) hb); have n2_ := Aside0.mk (Kd.R_lower (Kd.R_new' ho0 (Kd.R_lt (by (with_reducible repeat (first | apply Kd.R_alloc | apply Kd.R_drewN | apply Kd.R_drew)); exact HO470.out))) (below_size (by repeat (first | (with_reducible first | exact HB.out | apply below_alloc | apply pw_below_drewN | apply below_drew1) | exact HB.out)))); have n3_ := Aside0.mk (below_step (by repeat (first | (with_reducible first | exact HB.out | apply below_alloc | apply pw_below_drewN | apply below_drew1) | exact HB.out)) hb); clear HO466; clear HO470; clear HB; have HO466 := n0_; have HO470 := n1_; have HO474 := n2_; have HB := n3_; clear n0_ n1_ n2_ n3_; (try clear hb); (try clear hb2); (try clear hk); (try clear hi); (try clear ho0)) | ((with_reducible refine gate_callee (f := 14) rfl ?_); refine goesL_ (some 41) rfl rfl Try.func14 (by kernel_rfl) rfl #[.slice Ao19 t464.length co19, .int .i64 (Int.tmod (Go.bits .and .i64 a1 65535) 51), .int .i64 ji6] rfl (by (try simp only [List.map_toArray, List.map_cons, List.map_nil]); first | done | (simp only [hji6]; rfl) | rfl | (simp only [List.length_drop, List.length_take]; rfl)) ?_; (with_reducible refine (sat_Solve.calls k _ _ t464 (Int.tmod (Go.bits .and .i64 a1 65535) 51) ji6 t475 t476 t477 _ ?side1 ?side2 A13.out).mono ?_); (case side1 => repeat (first | exact (Kd.S_reads' HO466.out).2.2 | (with_reducible refine Kd.C_alloc ?_ _) | (with_reducible refine Kd.C_drewN ?_ _) | (with_reducible refine Kd.C_drew ?_))); (case side2 => exact (Kd.S_reads' HO466.out).2.1); rintro e w24 ⟨v478, v480, rfl, ho0, ho1, hb⟩; refine ⟨_, rfl, ?_⟩; have n0_ := Aside0.mk (Kd.S_elder' (by (with_reducible repeat (first | apply Kd.S_alloc | apply Kd.S_drewN | apply Kd.S_drew)); exact HO466.out) (Kd.S_base ho1) hb); have n1_ := Aside0.mk (Kd.R_below (by (with_reducible repeat (first | apply Kd.R_alloc | apply Kd.R_drewN | apply Kd.R_drew)); exact HO470.out) hb); have n2_ := Aside0.mk (Kd.R_below (by (with_reducible repeat (first | apply Kd.R_alloc | apply Kd.R_drewN | apply Kd.R_drew)); exact HO474.out) hb); have n3_ := Aside0.mk (Kd.R_lower ho0 (below_size (by repeat (first | (with_reducible first | exact HB.out | apply below_alloc | apply pw_below_drewN | apply below_drew1) | exact HB.out)))); have n4_ := Aside0.mk (Kd.S_lower (Kd.S_new' ho1 (Kd.S_lt (by (with_reducible repeat (first | apply Kd.S_alloc | apply Kd.S_drewN | apply Kd.S_drew)); exact HO466.out))) (below_size (by repeat (first | (with_reducible first | exact HB.out | apply below_alloc | apply pw_below_drewN | apply below_drew1) | exact HB.out)))); have n5_ := Aside0.mk (below_step (by repeat (first | (with_reducible first | exact HB.out | apply below_alloc | apply pw_below_drewN | apply below_drew1) | exact HB.out)) hb); clear HO466; clear HO470; clear HO474; clear HB; have HO466 := n0_; have HO470 := n1_; have HO474 := n2_; have HO479 := n3_; have HO481 := n4_; have HB := n5_; clear n0_ n1_ n2_ n3_ n4_ n5_; (try clear hb); (try clear hb2); (try clear hk); (try clear hi); (try clear ho0); (try clear ho1); obtain ⟨Ao25, co25, eo25⟩ := Kd.S_slice HO481.out; subst eo25))
       go_ret
       exact ⟨by first | rfl | (simp [errW_none, errW_some] <;> rfl) | (simp only [← hji6, ← hji9]; first | rfl | (simp [errW_none, errW_some] <;> rfl)) | (simp [*, errW_none, errW_some] <;> rfl), by repeat (first | (with_reducible first | exact HB.out | apply below_alloc | apply pw_below_drewN | apply below_drew1) | exact HB.out)⟩
      ·rw [if_neg c16] at H
       have c16b0 : (t475 == 2) = false := beq_eq_false_iff_ne.mpr c16
       have c16b1 : (t475 != 2) = true := bne_iff_ne.mpr c16
       obtain rfl := Option.some.inj H
       go_enter Try.func9, Try.ntmps9
       go_wp2_with (first | ((with_reducible refine gate_callee (f := 12) rfl ?_); refine goesL_ (some 15) rfl rfl Try.func12 (by kernel_rfl) rfl #[] rfl (by (try simp only [List.map_toArray, List.map_cons, List.map_nil]); first | done | rfl | (simp only [List.length_drop, List.length_take]; rfl)) ?_; (with_reducible refine (ashlarlaw09_shown.calls k  true _ A4.out).mono ?_); rintro e w26 ⟨rfl, hb⟩; refine ⟨_, rfl, ?_⟩; have n0_ := Aside0.mk (below_step (by repeat (first | (with_reducible first | exact HB.out | apply below_alloc | apply pw_below_drewN | apply below_drew1) | exact HB.out)) hb); clear HB; have HB := n0_; clear n0_; (try clear hb); (try clear hb2); (try clear hk); (try clear hi)) | ((with_reducible refine gate_callee (f := 13) rfl ?_); refine goesL_ (some 17) rfl rfl Try.func13 (by kernel_rfl) rfl #[.slice A0 l0.length c0] rfl (by (try simp only [List.map_toArray, List.map_cons, List.map_nil]); first | done | rfl | (simp only [List.length_drop, List.length_take]; rfl)) ?_; (with_reducible refine (ashlarlaw09_few.calls k _ _ l0 t464 _ ?side1 ?side2 A5.out).mono ?_); (case side1 => repeat (first | exact (Kd.C_below HR0.out HB.out) | (with_reducible refine Kd.C_alloc ?_ _) | (with_reducible refine Kd.C_drewN ?_ _) | (with_reducible refine Kd.C_drew ?_))); (case side2 => exact HC0.out); rintro e w27 ⟨v465, rfl, ho0, hb⟩; refine ⟨_, rfl, ?_⟩; have n0_ := Aside0.mk (Kd.S_lower ho0 (below_size (by repeat (first | (with_reducible first | exact HB.out | apply below_alloc | apply pw_below_drewN | apply below_drew1) | exact HB.out)))); have n1_ := Aside0.mk (below_step (by repeat (first | (with_reducible first | exact HB.out | apply below_alloc | apply pw_below_drewN | apply below_drew1) | exact HB.out)) hb); clear HB; have HO466 := n0_; have HB := n1_; clear n0_ n1_; (try clear hb); (try clear hb2); (try clear hk); (try clear hi); (try clear ho0); obtain ⟨Ao28, co28, eo28⟩ := Kd.S_slice HO466.out; subst eo28) | ((with_reducible refine gate_callee (f := 16) rfl ?_); refine goesL_ (some 25) rfl rfl Try.func16 (by kernel_rfl) rfl #[.slice Ao28 t464.length co28, .int .i64 (Int.tmod (Go.bits .and .i64 a1 65535) 51)] rfl (by (try simp only [List.map_toArray, List.map_cons, List.map_nil]); first | done | rfl | (simp only [List.length_drop, List.length_take]; rfl)) ?_; (with_reducible refine (ashlarref09_Right.calls k _ _ t464 (Int.tmod (Go.bits .and .i64 a1 65535) 51) true _ ?side1 ?side2 A7.out).mono ?_); (case side1 => repeat (first | exact (Kd.S_reads' HO466.out).2.2 | (with_reducible refine Kd.C_alloc ?_ _) | (with_reducible refine Kd.C_drewN ?_ _) | (with_reducible refine Kd.C_drew ?_))); (case side2 => exact (Kd.S_reads' HO466.out).2.1); rintro e w' ⟨rfl, ⟨nd, rfl⟩⟩; refine ⟨_, rfl, ?_⟩) | ((with_reducible refine gate_dst (N := 33) rfl ?_); (try (refine gate_guard (by rfl) ?_; dsimp only)); refine Kd.R_make (Kd.int .i8) _ 38 rfl (N := 33) rfl 35 _ _ rfl ji9 rfl rfl Try.underlying35 (.int .i8 0) 1 info38 rfl (by decide) (by omega) 0 (ok := fun _ => True) (okp := fun _ => True) rfl (fun _ hk => hk) trivial (of_decide_eq_true (by first | (with_reducible assumption) | assumption)) (Nat.le_trans (Nat.mul_le_mul_right _ (of_decide_eq_true (by first | (with_reducible assumption) | assumption) : ji9.toNat ≤ 281474976710656)) (by omega)) (Below.refl _ _) (Nat.le_refl _) ?_; intro v469 w29 ho30 hb hg_ hnew_; clear hg_ hnew_; (first | rw [← Ny468.out] at ho30 | (simp only [Int.reduceToNat] at ho30; rw [← Ny468.out] at ho30)); have n0_ := Aside0.mk (Kd.S_below (by (with_reducible repeat (first | apply Kd.S_alloc | apply Kd.S_drewN | apply Kd.S_drew)); exact HO466.out) hb); have n1_ := Aside0.mk (Kd.R_lower ho30 (below_size (by repeat (first | (with_reducible first | exact HB.out | apply below_alloc | apply pw_below_drewN | apply below_drew1) | exact HB.out)))); have n2_ := Aside0.mk (below_step (by repeat (first | (with_reducible first | exact HB.out | apply below_alloc | apply pw_below_drewN | apply below_drew1) | exact HB.out)) hb); clear HO466; clear HB; have HO466 := n0_; have HO470 := n1_; have HB := n2_; clear n0_ n1_ n2_; clear hb ho30; obtain ⟨Ao31, co31, eo31⟩ := Kd.R_slice HO470.out; subst eo31) | ((with_reducible refine gate_callee (f := 19) rfl ?_); refine goesL_ (some 34) rfl rfl Try.func19 (by kernel_rfl) rfl #[.slice Ao28 t464.length co28, .slice Ao31 y468.length co31] rfl (by (try simp only [List.map_toArray, List.map_cons, List.map_nil]); first | done | rfl | (simp only [List.length_drop, List.length_take]; rfl)) ?_; (with_reducible refine (ashlarref08_Unit.calls k _ _ t464 _ _ y468 t471 true _ ?side1 ?side2 ?side3 ?side4 A12.out).mono ?_); (case side1 => repeat (first | exact (Kd.S_reads' HO466.out).2.2 | (with_reducible refine Kd.C_alloc ?_ _) | (with_reducible refine Kd.C_drewN ?_ _) | (with_reducible refine Kd.C_drew ?_))); (case side2 => exact (Kd.S_reads' HO466.out).2.1); (case side3 => repeat (first | exact (Kd.R_reads' HO470.out).2.2 | (with_reducible refine Kd.C_alloc ?_ _) | (with_reducible refine Kd.C_drewN ?_ _) | (with_reducible refine Kd.C_drew ?_))); (case side4 => exact (Kd.R_reads' HO470.out).2.1); rintro e w32 ⟨v473, rfl, ho0, hb⟩; refine ⟨_, rfl, ?_⟩; have n0_ := Aside0.mk (Kd.S_below (by (with_reducible repeat (first | apply Kd.S_alloc | apply Kd.S_drewN | apply Kd.S_drew)); exact HO466.out) hb); have n1_ := Aside0.mk (Kd.R_elder' (by (with_reducible repeat (first | apply Kd.R_alloc | apply Kd.R_drewN | apply Kd.R_drew)); exact HO470.out) (Kd.R_base ho0) hb); have n2_ := Aside0.mk (Kd.R_lower (Kd.R_new' ho0 (Kd.R_lt (by (with_reducible repeat (first | apply Kd.R_alloc | apply Kd.R_drewN | apply Kd.R_drew)); exact HO470.out))) (below_size (by repeat (first | (with_reducible first | exact HB.out | apply below_alloc | apply pw_below_drewN | apply below_drew1) | exact HB.out)))); have n3_ := Aside0.mk (below_step (by repeat (first | (with_reducible first | exact HB.out | apply below_alloc | apply pw_below_drewN | apply below_drew1) | exact HB.out)) hb); clear HO466; clear HO470; clear HB; have HO466 := n0_; have HO470 := n1_; have HO474 := n2_; have HB := n3_; clear n0_ n1_ n2_ n3_; (try clear hb); (try clear hb2); (try clear hk); (try clear hi); (try clear ho0)) | ((with_reducible refine gate_callee (f := 14) rfl ?_); refine goesL_ (some 41) rfl rfl Try.func14 (by kernel_rfl) rfl #[.slice Ao28 t464.length co28, .int .i64 (Int.tmod (Go.bits .and .i64 a1 65535) 51), .int .i64 ji6] rfl (by (try simp only [List.map_toArray, List.map_cons, List.map_nil]); first | done | (simp only [hji6]; rfl) | rfl | (simp only [List.length_drop, List.length_take]; rfl)) ?_; (with_reducible refine (sat_Solve.calls k _ _ t464 (Int.tmod (Go.bits .and .i64 a1 65535) 51) ji6 t475 t476 t477 _ ?side1 ?side2 A13.out).mono ?_); (case side1 => repeat (first | exact (Kd.S_reads' HO466.out).2.2 | (with_reducible refine Kd.C_alloc ?_ _) | (with_reducible refine Kd.C_drewN ?_ _) | (with_reducible refine Kd.C_drew ?_))); (case side2 => exact (Kd.S_reads' HO466.out).2.1); rintro e w33 ⟨v478, v480, rfl, ho0, ho1, hb⟩; refine ⟨_, rfl, ?_⟩; have n0_ := Aside0.mk (Kd.S_elder' (by (with_reducible repeat (first | apply Kd.S_alloc | apply Kd.S_drewN | apply Kd.S_drew)); exact HO466.out) (Kd.S_base ho1) hb); have n1_ := Aside0.mk (Kd.R_below (by (with_reducible repeat (first | apply Kd.R_alloc | apply Kd.R_drewN | apply Kd.R_drew)); exact HO470.out) hb); have n2_ := Aside0.mk (Kd.R_below (by (with_reducible repeat (first | apply Kd.R_alloc | apply Kd.R_drewN | apply Kd.R_drew)); exact HO474.out) hb); have n3_ := Aside0.mk (Kd.R_lower ho0 (below_size (by repeat (first | (with_reducible first | exact HB.out | apply below_alloc | apply pw_below_drewN | apply below_drew1) | exact HB.out)))); have n4_ := Aside0.mk (Kd.S_lower (Kd.S_new' ho1 (Kd.S_lt (by (with_reducible repeat (first | apply Kd.S_alloc | apply Kd.S_drewN | apply Kd.S_drew)); exact HO466.out))) (below_size (by repeat (first | (with_reducible first | exact HB.out | apply below_alloc | apply pw_below_drewN | apply below_drew1) | exact HB.out)))); have n5_ := Aside0.mk (below_step (by repeat (first | (with_reducible first | exact HB.out | apply below_alloc | apply pw_below_drewN | apply below_drew1) | exact HB.out)) hb); clear HO466; clear HO470; clear HO474; clear HB; have HO466 := n0_; have HO470 := n1_; have HO474 := n2_; have HO479 := n3_; have HO481 := n4_; have HB := n5_; clear n0_ n1_ n2_ n3_ n4_ n5_; (try clear hb); (try clear hb2); (try clear hk); (try clear hi); (try clear ho0); (try clear ho1)))
       go_ret
       exact ⟨by first | rfl | (simp [errW_none, errW_some] <;> rfl) | (simp only [← hji6, ← hji9]; first | rfl | (simp [errW_none, errW_some] <;> rfl)) | (simp [*, errW_none, errW_some] <;> rfl), by repeat (first | (with_reducible first | exact HB.out | apply below_alloc | apply pw_below_drewN | apply below_drew1) | exact HB.out)⟩
     ·replace c15 := Bool.eq_false_iff.mpr c15
      subst c15
      have H1 : (some false) = some r := by rw [if_neg (show ¬ (false = true) by decide)] at H; exact H
      clear H
      have H := H1
      clear H1
      obtain rfl := Option.some.inj H
      go_enter Try.func9, Try.ntmps9
      go_wp2_with (first | ((with_reducible refine gate_callee (f := 12) rfl ?_); refine goesL_ (some 15) rfl rfl Try.func12 (by kernel_rfl) rfl #[] rfl (by (try simp only [List.map_toArray, List.map_cons, List.map_nil]); first | done | rfl | (simp only [List.length_drop, List.length_take]; rfl)) ?_; (with_reducible refine (ashlarlaw09_shown.calls k  false _ A4.out).mono ?_); rintro e w34 ⟨rfl, hb⟩; refine ⟨_, rfl, ?_⟩; have n0_ := Aside0.mk (below_step (by repeat (first | (with_reducible first | exact HB.out | apply below_alloc | apply pw_below_drewN | apply below_drew1) | exact HB.out)) hb); clear HB; have HB := n0_; clear n0_; (try clear hb); (try clear hb2); (try clear hk); (try clear hi)) | ((with_reducible refine gate_callee (f := 13) rfl ?_); refine goesL_ (some 17) rfl rfl Try.func13 (by kernel_rfl) rfl #[.slice A0 l0.length c0] rfl (by (try simp only [List.map_toArray, List.map_cons, List.map_nil]); first | done | rfl | (simp only [List.length_drop, List.length_take]; rfl)) ?_; (with_reducible refine (ashlarlaw09_few.calls k _ _ l0 t464 _ ?side1 ?side2 A5.out).mono ?_); (case side1 => repeat (first | exact (Kd.C_below HR0.out HB.out) | (with_reducible refine Kd.C_alloc ?_ _) | (with_reducible refine Kd.C_drewN ?_ _) | (with_reducible refine Kd.C_drew ?_))); (case side2 => exact HC0.out); rintro e w35 ⟨v465, rfl, ho0, hb⟩; refine ⟨_, rfl, ?_⟩; have n0_ := Aside0.mk (Kd.S_lower ho0 (below_size (by repeat (first | (with_reducible first | exact HB.out | apply below_alloc | apply pw_below_drewN | apply below_drew1) | exact HB.out)))); have n1_ := Aside0.mk (below_step (by repeat (first | (with_reducible first | exact HB.out | apply below_alloc | apply pw_below_drewN | apply below_drew1) | exact HB.out)) hb); clear HB; have HO466 := n0_; have HB := n1_; clear n0_ n1_; (try clear hb); (try clear hb2); (try clear hk); (try clear hi); (try clear ho0); obtain ⟨Ao36, co36, eo36⟩ := Kd.S_slice HO466.out; subst eo36) | ((with_reducible refine gate_callee (f := 16) rfl ?_); refine goesL_ (some 25) rfl rfl Try.func16 (by kernel_rfl) rfl #[.slice Ao36 t464.length co36, .int .i64 (Int.tmod (Go.bits .and .i64 a1 65535) 51)] rfl (by (try simp only [List.map_toArray, List.map_cons, List.map_nil]); first | done | rfl | (simp only [List.length_drop, List.length_take]; rfl)) ?_; (with_reducible refine (ashlarref09_Right.calls k _ _ t464 (Int.tmod (Go.bits .and .i64 a1 65535) 51) true _ ?side1 ?side2 A7.out).mono ?_); (case side1 => repeat (first | exact (Kd.S_reads' HO466.out).2.2 | (with_reducible refine Kd.C_alloc ?_ _) | (with_reducible refine Kd.C_drewN ?_ _) | (with_reducible refine Kd.C_drew ?_))); (case side2 => exact (Kd.S_reads' HO466.out).2.1); rintro e w' ⟨rfl, ⟨nd, rfl⟩⟩; refine ⟨_, rfl, ?_⟩) | ((with_reducible refine gate_dst (N := 33) rfl ?_); (try (refine gate_guard (by rfl) ?_; dsimp only)); refine Kd.R_make (Kd.int .i8) _ 38 rfl (N := 33) rfl 35 _ _ rfl ji9 rfl rfl Try.underlying35 (.int .i8 0) 1 info38 rfl (by decide) (by omega) 0 (ok := fun _ => True) (okp := fun _ => True) rfl (fun _ hk => hk) trivial (of_decide_eq_true (by first | (with_reducible assumption) | assumption)) (Nat.le_trans (Nat.mul_le_mul_right _ (of_decide_eq_true (by first | (with_reducible assumption) | assumption) : ji9.toNat ≤ 281474976710656)) (by omega)) (Below.refl _ _) (Nat.le_refl _) ?_; intro v469 w37 ho38 hb hg_ hnew_; clear hg_ hnew_; (first | rw [← Ny468.out] at ho38 | (simp only [Int.reduceToNat] at ho38; rw [← Ny468.out] at ho38)); have n0_ := Aside0.mk (Kd.S_below (by (with_reducible repeat (first | apply Kd.S_alloc | apply Kd.S_drewN | apply Kd.S_drew)); exact HO466.out) hb); have n1_ := Aside0.mk (Kd.R_lower ho38 (below_size (by repeat (first | (with_reducible first | exact HB.out | apply below_alloc | apply pw_below_drewN | apply below_drew1) | exact HB.out)))); have n2_ := Aside0.mk (below_step (by repeat (first | (with_reducible first | exact HB.out | apply below_alloc | apply pw_below_drewN | apply below_drew1) | exact HB.out)) hb); clear HO466; clear HB; have HO466 := n0_; have HO470 := n1_; have HB := n2_; clear n0_ n1_ n2_; clear hb ho38; obtain ⟨Ao39, co39, eo39⟩ := Kd.R_slice HO470.out; subst eo39) | ((with_reducible refine gate_callee (f := 19) rfl ?_); refine goesL_ (some 34) rfl rfl Try.func19 (by kernel_rfl) rfl #[.slice Ao36 t464.length co36, .slice Ao39 y468.length co39] rfl (by (try simp only [List.map_toArray, List.map_cons, List.map_nil]); first | done | rfl | (simp only [List.length_drop, List.length_take]; rfl)) ?_; (with_reducible refine (ashlarref08_Unit.calls k _ _ t464 _ _ y468 t471 true _ ?side1 ?side2 ?side3 ?side4 A12.out).mono ?_); (case side1 => repeat (first | exact (Kd.S_reads' HO466.out).2.2 | (with_reducible refine Kd.C_alloc ?_ _) | (with_reducible refine Kd.C_drewN ?_ _) | (with_reducible refine Kd.C_drew ?_))); (case side2 => exact (Kd.S_reads' HO466.out).2.1); (case side3 => repeat (first | exact (Kd.R_reads' HO470.out).2.2 | (with_reducible refine Kd.C_alloc ?_ _) | (with_reducible refine Kd.C_drewN ?_ _) | (with_reducible refine Kd.C_drew ?_))); (case side4 => exact (Kd.R_reads' HO470.out).2.1); rintro e w40 ⟨v473, rfl, ho0, hb⟩; refine ⟨_, rfl, ?_⟩; have n0_ := Aside0.mk (Kd.S_below (by (with_reducible repeat (first | apply Kd.S_alloc | apply Kd.S_drewN | apply Kd.S_drew)); exact HO466.out) hb); have n1_ := Aside0.mk (Kd.R_elder' (by (with_reducible repeat (first | apply Kd.R_alloc | apply Kd.R_drewN | apply Kd.R_drew)); exact HO470.out) (Kd.R_base ho0) hb); have n2_ := Aside0.mk (Kd.R_lower (Kd.R_new' ho0 (Kd.R_lt (by (with_reducible repeat (first | apply Kd.R_alloc | apply Kd.R_drewN | apply Kd.R_drew)); exact HO470.out))) (below_size (by repeat (first | (with_reducible first | exact HB.out | apply below_alloc | apply pw_below_drewN | apply below_drew1) | exact HB.out)))); have n3_ := Aside0.mk (below_step (by repeat (first | (with_reducible first | exact HB.out | apply below_alloc | apply pw_below_drewN | apply below_drew1) | exact HB.out)) hb); clear HO466; clear HO470; clear HB; have HO466 := n0_; have HO470 := n1_; have HO474 := n2_; have HB := n3_; clear n0_ n1_ n2_ n3_; (try clear hb); (try clear hb2); (try clear hk); (try clear hi); (try clear ho0)) | ((with_reducible refine gate_callee (f := 14) rfl ?_); refine goesL_ (some 41) rfl rfl Try.func14 (by kernel_rfl) rfl #[.slice Ao36 t464.length co36, .int .i64 (Int.tmod (Go.bits .and .i64 a1 65535) 51), .int .i64 ji6] rfl (by (try simp only [List.map_toArray, List.map_cons, List.map_nil]); first | done | (simp only [hji6]; rfl) | rfl | (simp only [List.length_drop, List.length_take]; rfl)) ?_; (with_reducible refine (sat_Solve.calls k _ _ t464 (Int.tmod (Go.bits .and .i64 a1 65535) 51) ji6 t475 t476 t477 _ ?side1 ?side2 A13.out).mono ?_); (case side1 => repeat (first | exact (Kd.S_reads' HO466.out).2.2 | (with_reducible refine Kd.C_alloc ?_ _) | (with_reducible refine Kd.C_drewN ?_ _) | (with_reducible refine Kd.C_drew ?_))); (case side2 => exact (Kd.S_reads' HO466.out).2.1); rintro e w41 ⟨v478, v480, rfl, ho0, ho1, hb⟩; refine ⟨_, rfl, ?_⟩; have n0_ := Aside0.mk (Kd.S_elder' (by (with_reducible repeat (first | apply Kd.S_alloc | apply Kd.S_drewN | apply Kd.S_drew)); exact HO466.out) (Kd.S_base ho1) hb); have n1_ := Aside0.mk (Kd.R_below (by (with_reducible repeat (first | apply Kd.R_alloc | apply Kd.R_drewN | apply Kd.R_drew)); exact HO470.out) hb); have n2_ := Aside0.mk (Kd.R_below (by (with_reducible repeat (first | apply Kd.R_alloc | apply Kd.R_drewN | apply Kd.R_drew)); exact HO474.out) hb); have n3_ := Aside0.mk (Kd.R_lower ho0 (below_size (by repeat (first | (with_reducible first | exact HB.out | apply below_alloc | apply pw_below_drewN | apply below_drew1) | exact HB.out)))); have n4_ := Aside0.mk (Kd.S_lower (Kd.S_new' ho1 (Kd.S_lt (by (with_reducible repeat (first | apply Kd.S_alloc | apply Kd.S_drewN | apply Kd.S_drew)); exact HO466.out))) (below_size (by repeat (first | (with_reducible first | exact HB.out | apply below_alloc | apply pw_below_drewN | apply below_drew1) | exact HB.out)))); have n5_ := Aside0.mk (below_step (by repeat (first | (with_reducible first | exact HB.out | apply below_alloc | apply pw_below_drewN | apply below_drew1) | exact HB.out)) hb); clear HO466; clear HO470; clear HO474; clear HB; have HO466 := n0_; have HO470 := n1_; have HO474 := n2_; have HO479 := n3_; have HO481 := n4_; have HB := n5_; clear n0_ n1_ n2_ n3_ n4_ n5_; (try clear hb); (try clear hb2); (try clear hk); (try clear hi); (try clear ho0); (try clear ho1)))
      go_ret
      exact ⟨by first | rfl | (simp [errW_none, errW_some] <;> rfl) | (simp only [← hji6, ← hji9]; first | rfl | (simp [errW_none, errW_some] <;> rfl)) | (simp [*, errW_none, errW_some] <;> rfl), by repeat (first | (with_reducible first | exact HB.out | apply below_alloc | apply pw_below_drewN | apply below_drew1) | exact HB.out)⟩
    ·replace c14 := Bool.eq_false_iff.mpr c14
     subst c14
     have H1 : (ashlarlaw09_SatAgrees.l0 k (Int.tmod (Go.bits .and .i64 a1 65535) 51) t463 t471 t475 t476 1) = some r := by rw [if_neg (show ¬ (false = true) by decide)] at H; exact H
     clear H
     have H := H1
     clear H1
     have H' := Aside0.mk H
     clear H
     go_enter Try.func9, Try.ntmps9
     go_wp2_with (first | ((with_reducible refine gate_callee (f := 12) rfl ?_); refine goesL_ (some 15) rfl rfl Try.func12 (by kernel_rfl) rfl #[] rfl (by (try simp only [List.map_toArray, List.map_cons, List.map_nil]); first | done | rfl | (simp only [List.length_drop, List.length_take]; rfl)) ?_; (with_reducible refine (ashlarlaw09_shown.calls k  t463 _ A4.out).mono ?_); rintro e w42 ⟨rfl, hb⟩; refine ⟨_, rfl, ?_⟩; have n0_ := Aside0.mk (below_step (by repeat (first | (with_reducible first | exact HB.out | apply below_alloc | apply pw_below_drewN | apply below_drew1) | exact HB.out)) hb); clear HB; have HB := n0_; clear n0_; (try clear hb); (try clear hb2); (try clear hk); (try clear hi)) | ((with_reducible refine gate_callee (f := 13) rfl ?_); refine goesL_ (some 17) rfl rfl Try.func13 (by kernel_rfl) rfl #[.slice A0 l0.length c0] rfl (by (try simp only [List.map_toArray, List.map_cons, List.map_nil]); first | done | rfl | (simp only [List.length_drop, List.length_take]; rfl)) ?_; (with_reducible refine (ashlarlaw09_few.calls k _ _ l0 t464 _ ?side1 ?side2 A5.out).mono ?_); (case side1 => repeat (first | exact (Kd.C_below HR0.out HB.out) | (with_reducible refine Kd.C_alloc ?_ _) | (with_reducible refine Kd.C_drewN ?_ _) | (with_reducible refine Kd.C_drew ?_))); (case side2 => exact HC0.out); rintro e w43 ⟨v465, rfl, ho0, hb⟩; refine ⟨_, rfl, ?_⟩; have n0_ := Aside0.mk (Kd.S_lower ho0 (below_size (by repeat (first | (with_reducible first | exact HB.out | apply below_alloc | apply pw_below_drewN | apply below_drew1) | exact HB.out)))); have n1_ := Aside0.mk (below_step (by repeat (first | (with_reducible first | exact HB.out | apply below_alloc | apply pw_below_drewN | apply below_drew1) | exact HB.out)) hb); clear HB; have HO466 := n0_; have HB := n1_; clear n0_ n1_; (try clear hb); (try clear hb2); (try clear hk); (try clear hi); (try clear ho0); obtain ⟨Ao44, co44, eo44⟩ := Kd.S_slice HO466.out; subst eo44) | ((with_reducible refine gate_callee (f := 16) rfl ?_); refine goesL_ (some 25) rfl rfl Try.func16 (by kernel_rfl) rfl #[.slice Ao44 t464.length co44, .int .i64 (Int.tmod (Go.bits .and .i64 a1 65535) 51)] rfl (by (try simp only [List.map_toArray, List.map_cons, List.map_nil]); first | done | rfl | (simp only [List.length_drop, List.length_take]; rfl)) ?_; (with_reducible refine (ashlarref09_Right.calls k _ _ t464 (Int.tmod (Go.bits .and .i64 a1 65535) 51) true _ ?side1 ?side2 A7.out).mono ?_); (case side1 => repeat (first | exact (Kd.S_reads' HO466.out).2.2 | (with_reducible refine Kd.C_alloc ?_ _) | (with_reducible refine Kd.C_drewN ?_ _) | (with_reducible refine Kd.C_drew ?_))); (case side2 => exact (Kd.S_reads' HO466.out).2.1); rintro e w' ⟨rfl, ⟨nd, rfl⟩⟩; refine ⟨_, rfl, ?_⟩) | ((with_reducible refine gate_dst (N := 33) rfl ?_); (try (refine gate_guard (by rfl) ?_; dsimp only)); refine Kd.R_make (Kd.int .i8) _ 38 rfl (N := 33) rfl 35 _ _ rfl ji9 rfl rfl Try.underlying35 (.int .i8 0) 1 info38 rfl (by decide) (by omega) 0 (ok := fun _ => True) (okp := fun _ => True) rfl (fun _ hk => hk) trivial (of_decide_eq_true (by first | (with_reducible assumption) | assumption)) (Nat.le_trans (Nat.mul_le_mul_right _ (of_decide_eq_true (by first | (with_reducible assumption) | assumption) : ji9.toNat ≤ 281474976710656)) (by omega)) (Below.refl _ _) (Nat.le_refl _) ?_; intro v469 w45 ho46 hb hg_ hnew_; clear hg_ hnew_; (first | rw [← Ny468.out] at ho46 | (simp only [Int.reduceToNat] at ho46; rw [← Ny468.out] at ho46)); have n0_ := Aside0.mk (Kd.S_below (by (with_reducible repeat (first | apply Kd.S_alloc | apply Kd.S_drewN | apply Kd.S_drew)); exact HO466.out) hb); have n1_ := Aside0.mk (Kd.R_lower ho46 (below_size (by repeat (first | (with_reducible first | exact HB.out | apply below_alloc | apply pw_below_drewN | apply below_drew1) | exact HB.out)))); have n2_ := Aside0.mk (below_step (by repeat (first | (with_reducible first | exact HB.out | apply below_alloc | apply pw_below_drewN | apply below_drew1) | exact HB.out)) hb); clear HO466; clear HB; have HO466 := n0_; have HO470 := n1_; have HB := n2_; clear n0_ n1_ n2_; clear hb ho46; obtain ⟨Ao47, co47, eo47⟩ := Kd.R_slice HO470.out; subst eo47) | ((with_reducible refine gate_callee (f := 19) rfl ?_); refine goesL_ (some 34) rfl rfl Try.func19 (by kernel_rfl) rfl #[.slice Ao44 t464.length co44, .slice Ao47 y468.length co47] rfl (by (try simp only [List.map_toArray, List.map_cons, List.map_nil]); first | done | rfl | (simp only [List.length_drop, List.length_take]; rfl)) ?_; (with_reducible refine (ashlarref08_Unit.calls k _ _ t464 _ _ y468 t471 false _ ?side1 ?side2 ?side3 ?side4 A12.out).mono ?_); (case side1 => repeat (first | exact (Kd.S_reads' HO466.out).2.2 | (with_reducible refine Kd.C_alloc ?_ _) | (with_reducible refine Kd.C_drewN ?_ _) | (with_reducible refine Kd.C_drew ?_))); (case side2 => exact (Kd.S_reads' HO466.out).2.1); (case side3 => repeat (first | exact (Kd.R_reads' HO470.out).2.2 | (with_reducible refine Kd.C_alloc ?_ _) | (with_reducible refine Kd.C_drewN ?_ _) | (with_reducible refine Kd.C_drew ?_))); (case side4 => exact (Kd.R_reads' HO470.out).2.1); rintro e w48 ⟨v473, rfl, ho0, hb⟩; refine ⟨_, rfl, ?_⟩; have n0_ := Aside0.mk (Kd.S_below (by (with_reducible repeat (first | apply Kd.S_alloc | apply Kd.S_drewN | apply Kd.S_drew)); exact HO466.out) hb); have n1_ := Aside0.mk (Kd.R_elder' (by (with_reducible repeat (first | apply Kd.R_alloc | apply Kd.R_drewN | apply Kd.R_drew)); exact HO470.out) (Kd.R_base ho0) hb); have n2_ := Aside0.mk (Kd.R_lower (Kd.R_new' ho0 (Kd.R_lt (by (with_reducible repeat (first | apply Kd.R_alloc | apply Kd.R_drewN | apply Kd.R_drew)); exact HO470.out))) (below_size (by repeat (first | (with_reducible first | exact HB.out | apply below_alloc | apply pw_below_drewN | apply below_drew1) | exact HB.out)))); have n3_ := Aside0.mk (below_step (by repeat (first | (with_reducible first | exact HB.out | apply below_alloc | apply pw_below_drewN | apply below_drew1) | exact HB.out)) hb); clear HO466; clear HO470; clear HB; have HO466 := n0_; have HO470 := n1_; have HO474 := n2_; have HB := n3_; clear n0_ n1_ n2_ n3_; (try clear hb); (try clear hb2); (try clear hk); (try clear hi); (try clear ho0)) | ((with_reducible refine gate_callee (f := 14) rfl ?_); refine goesL_ (some 41) rfl rfl Try.func14 (by kernel_rfl) rfl #[.slice Ao44 t464.length co44, .int .i64 (Int.tmod (Go.bits .and .i64 a1 65535) 51), .int .i64 ji6] rfl (by (try simp only [List.map_toArray, List.map_cons, List.map_nil]); first | done | (simp only [hji6]; rfl) | rfl | (simp only [List.length_drop, List.length_take]; rfl)) ?_; (with_reducible refine (sat_Solve.calls k _ _ t464 (Int.tmod (Go.bits .and .i64 a1 65535) 51) ji6 t475 t476 t477 _ ?side1 ?side2 A13.out).mono ?_); (case side1 => repeat (first | exact (Kd.S_reads' HO466.out).2.2 | (with_reducible refine Kd.C_alloc ?_ _) | (with_reducible refine Kd.C_drewN ?_ _) | (with_reducible refine Kd.C_drew ?_))); (case side2 => exact (Kd.S_reads' HO466.out).2.1); rintro e w49 ⟨v478, v480, rfl, ho0, ho1, hb⟩; refine ⟨_, rfl, ?_⟩; have n0_ := Aside0.mk (Kd.S_elder' (by (with_reducible repeat (first | apply Kd.S_alloc | apply Kd.S_drewN | apply Kd.S_drew)); exact HO466.out) (Kd.S_base ho1) hb); have n1_ := Aside0.mk (Kd.R_below (by (with_reducible repeat (first | apply Kd.R_alloc | apply Kd.R_drewN | apply Kd.R_drew)); exact HO470.out) hb); have n2_ := Aside0.mk (Kd.R_below (by (with_reducible repeat (first | apply Kd.R_alloc | apply Kd.R_drewN | apply Kd.R_drew)); exact HO474.out) hb); have n3_ := Aside0.mk (Kd.R_lower ho0 (below_size (by repeat (first | (with_reducible first | exact HB.out | apply below_alloc | apply pw_below_drewN | apply below_drew1) | exact HB.out)))); have n4_ := Aside0.mk (Kd.S_lower (Kd.S_new' ho1 (Kd.S_lt (by (with_reducible repeat (first | apply Kd.S_alloc | apply Kd.S_drewN | apply Kd.S_drew)); exact HO466.out))) (below_size (by repeat (first | (with_reducible first | exact HB.out | apply below_alloc | apply pw_below_drewN | apply below_drew1) | exact HB.out)))); have n5_ := Aside0.mk (below_step (by repeat (first | (with_reducible first | exact HB.out | apply below_alloc | apply pw_below_drewN | apply below_drew1) | exact HB.out)) hb); clear HO466; clear HO470; clear HO474; clear HB; have HO466 := n0_; have HO470 := n1_; have HO474 := n2_; have HO479 := n3_; have HO481 := n4_; have HB := n5_; clear n0_ n1_ n2_ n3_ n4_ n5_; (try clear hb); (try clear hb2); (try clear hk); (try clear hi); (try clear ho0); (try clear ho1)))
     go_loopg [14] k (fun kq v14 w' => ∃ (x14_1 : Int), v14 = .int .i64 x14_1 ∧ Aside0 (ashlarlaw09_SatAgrees.l0 kq (Int.tmod (Go.bits .and .i64 a1 65535) 51) t463 t471 t475 t476 x14_1 = some r) ∧ Aside0 (kq ≤ k) ∧ Aside0 (Kd.R (Kd.int .i8) 38 w' w.heap.size (fun _ => True) v473 t471) ∧ Aside0 (Kd.R Kd.bool 4 w' w.heap.size (fun _ => True) v478 t476) ∧ Aside0 (Below w.heap.size w w'))
     case atStart => exact ⟨(1), (by first | rfl | (simp; done) | (simp [*]; done)), H', ⟨Nat.le_refl _⟩, ⟨by (with_reducible repeat (first | apply Kd.R_alloc | apply Kd.R_drewN | apply Kd.R_drew)); exact Kd.R_mono HO474.out (fun _ hk => trivial)⟩, ⟨by (with_reducible repeat (first | apply Kd.R_alloc | apply Kd.R_drewN | apply Kd.R_drew)); exact HO479.out⟩, ⟨by repeat (first | (with_reducible first | exact HB.out | apply below_alloc | apply pw_below_drewN | apply below_drew1) | exact HB.out)⟩⟩
     case round =>
      clear H'
      try clear c1
      try clear p2
      try clear p6
      try clear c8
      try clear c9
      try clear c10
      try clear c10b0
      try clear c10b1
      try clear c11
      try clear c11b0
      try clear c11b1
      try clear c12
      try clear c13
      try clear c14
      try clear c15
      try clear c16
      try clear c16b0
      try clear c16b1
      try clear c19
      obtain ⟨x14_1, rfl, HA, HK1, HO_9, HO_12, HB⟩ := hrel
      cases gk with
      | zero => exact absurd HA.out (by simp [ashlarlaw09_SatAgrees.l0])
      | succ k1 =>
       have H := HA.out
       clear HA
       simp only [ashlarlaw09_SatAgrees.l0] at H
       have HC50 := Aside0.mk H
       clear H
       go_upto_region 13 with (fail)
       go_cut [62] (fun v62 wc => ∃ (kq : Nat) (x62_49 : Bool), v62 = .bool x62_49 ∧ Aside0 (ashlarlaw09_SatAgrees.j1 kq (Int.tmod (Go.bits .and .i64 a1 65535) 51) t463 t471 t475 t476 x14_1 x62_49 = some r) ∧ Aside0 (kq ≤ k1) ∧ Aside0 (Kd.R (Kd.int .i8) 38 wc w.heap.size (fun _ => True) v473 t471) ∧ Aside0 (Kd.R Kd.bool 4 wc w.heap.size (fun _ => True) v478 t476) ∧ Aside0 (Below w.heap.size w wc))
       case first =>
        have H := HC50.out
        clear HC50
        by_cases c51 : x14_1 ≤ (Int.tmod (Go.bits .and .i64 a1 65535) 51)
        ·rw [if_pos c51] at H
         have c51b0 : decide (x14_1 ≤ (Int.tmod (Go.bits .and .i64 a1 65535) 51)) = true := decide_eq_true c51
         clear c51
         (first | rw [c51b0] | (simp only [i64_w, i32_w]; rw [c51b0]) | skip)
         have H' := Aside0.mk H
         clear H
         go_wp2
         go_meet
         case rel => exact ⟨_, ((t475 == 1)), (by first | rfl | (simp; done) | (simp [*]; done)), H', ⟨by have := HK1.out; first | omega | exact Nat.le_refl _⟩, ⟨by (with_reducible repeat (first | apply Kd.R_alloc | apply Kd.R_drewN | apply Kd.R_drew)); exact HO_9.out⟩, ⟨by (with_reducible repeat (first | apply Kd.R_alloc | apply Kd.R_drewN | apply Kd.R_drew)); exact HO_12.out⟩, ⟨by repeat (first | (with_reducible first | exact HB.out | apply below_alloc | apply pw_below_drewN | apply below_drew1) | exact HB.out)⟩⟩
        ·rw [if_neg c51] at H
         have c51b0 : decide (x14_1 ≤ (Int.tmod (Go.bits .and .i64 a1 65535) 51)) = false := decide_eq_false c51
         clear c51
         (first | rw [c51b0] | (simp only [i64_w, i32_w]; rw [c51b0]) | skip)
         have H' := Aside0.mk H
         clear H
         go_wp2
         go_meet
         case rel => exact ⟨_, (false), (by first | rfl | (simp; done) | (simp [*]; done)), H', ⟨by have := HK1.out; first | omega | exact Nat.le_refl _⟩, ⟨by (with_reducible repeat (first | apply Kd.R_alloc | apply Kd.R_drewN | apply Kd.R_drew)); exact HO_9.out⟩, ⟨by (with_reducible repeat (first | apply Kd.R_alloc | apply Kd.R_drewN | apply Kd.R_drew)); exact HO_12.out⟩, ⟨by repeat (first | (with_reducible first | exact HB.out | apply below_alloc | apply pw_below_drewN | apply below_drew1) | exact HB.out)⟩⟩
       case rest =>
        clear HC50
        try clear c1
        try clear p2
        try clear c5
        try clear p6
        try clear c8
        try clear c9
        try clear c10
        try clear c10b0
        try clear c10b1
        try clear c11
        try clear c11b0
        try clear c11b1
        try clear c12
        try clear c13
        try clear c14
        try clear c15
        try clear c16
        try clear c16b0
        try clear c16b1
        try clear c19
        try clear c51
        try clear c51b0
        try clear p2
        try clear p6
        obtain ⟨kq, x62_49, rfl, HA, HJ49, HO_9, HO_12, HB⟩ := hcut
        cases kq with
        | zero => exact absurd HA.out (by simp [ashlarlaw09_SatAgrees.j1])
        | succ kj49 =>
         have H := HA.out
         clear HA
         simp only [ashlarlaw09_SatAgrees.j1] at H
         by_cases c52 : x62_49 = true
         ·subst c52
          have H1 : (if 0 ≤ x14_1 then (if x14_1 < (t471.length : Int) then (if (rd t471 x14_1) > 0 then (if x14_1 < (t476.length : Int) then (if rdOf false t476 x14_1 = true then (if (rd t471 x14_1) < 0 then (some false) else (ashlarlaw09_SatAgrees.l0 kj49 (Int.tmod (Go.bits .and .i64 a1 65535) 51) t463 t471 t475 t476 (wrap64 (x14_1 + 1)))) else (some false)) else (none)) else (if (rd t471 x14_1) < 0 then (if x14_1 < (t476.length : Int) then (if rdOf false t476 x14_1 = true then (some false) else (ashlarlaw09_SatAgrees.l0 kj49 (Int.tmod (Go.bits .and .i64 a1 65535) 51) t463 t471 t475 t476 (wrap64 (x14_1 + 1)))) else (none)) else (ashlarlaw09_SatAgrees.l0 kj49 (Int.tmod (Go.bits .and .i64 a1 65535) 51) t463 t471 t475 t476 (wrap64 (x14_1 + 1))))) else (none)) else (none)) = some r := by rw [if_pos rfl] at H; exact H
          clear H
          have H := H1
          clear H1
          by_cases c53 : 0 ≤ x14_1
          ·rw [if_pos c53] at H
           have c53b0 : decide (0 ≤ x14_1) = true := decide_eq_true c53
           clear c53
           by_cases c54 : x14_1 < (t471.length : Int)
           ·rw [if_pos c54] at H
            have c54b0 : decide (x14_1 < (t471.length : Int)) = true := decide_eq_true c54
            clear c54
            by_cases c55 : (rd t471 x14_1) > 0
            ·rw [if_pos c55] at H
             have c55b0 : decide (0 < (rd t471 x14_1)) = true := decide_eq_true c55
             clear c55
             by_cases c56 : x14_1 < (t476.length : Int)
             ·rw [if_pos c56] at H
              have c56b0 : decide (x14_1 < (t476.length : Int)) = true := decide_eq_true c56
              clear c56
              obtain ⟨bq57, hbq57⟩ : ∃ b_ : Bool, b_ = (rdOf false t476 x14_1) := ⟨_, rfl⟩
              replace H : (if bq57 = true then (if (rd t471 x14_1) < 0 then (some false) else (ashlarlaw09_SatAgrees.l0 kj49 (Int.tmod (Go.bits .and .i64 a1 65535) 51) t463 t471 t475 t476 (wrap64 (x14_1 + 1)))) else (some false)) = some r := by rw [← hbq57] at H; exact H
              have Nbq57 := Aside0.mk hbq57
              clear hbq57
              by_cases c58 : bq57 = true
              ·subst c58
               have H1 : (if (rd t471 x14_1) < 0 then (some false) else (ashlarlaw09_SatAgrees.l0 kj49 (Int.tmod (Go.bits .and .i64 a1 65535) 51) t463 t471 t475 t476 (wrap64 (x14_1 + 1)))) = some r := by rw [if_pos rfl] at H; exact H
               clear H
               have H := H1
               clear H1
               by_cases c59 : (rd t471 x14_1) < 0
               ·rw [if_pos c59] at H
                have c59b0 : decide ((rd t471 x14_1) < 0) = true := decide_eq_true c59
                clear c59
                obtain rfl := Option.some.inj H
                obtain ⟨Ao60, co60, eo60⟩ := Kd.R_slice HO_9.out
                subst eo60
                have p482 : 0 ≤ (x14_1 : Int) := of_decide_eq_true (by first | (with_reducible assumption) | assumption)
                have q482 : x14_1 < (t471.length : Int) := of_decide_eq_true (by first | (with_reducible assumption) | assumption)
                obtain ⟨ad482, e482, hx482_0⟩ := Kd.at_int (Kd.R_reads' HO_9.out).2.2 x14_1 p482 q482
                cases e482
                replace p482 := eq_true p482
                replace q482 := eq_true q482
                obtain ⟨Ao61, co61, eo61⟩ := Kd.R_slice HO_12.out
                subst eo61
                have p483 : 0 ≤ (x14_1 : Int) := of_decide_eq_true (by first | (with_reducible assumption) | assumption)
                have q483 : x14_1 < (t476.length : Int) := of_decide_eq_true (by first | (with_reducible assumption) | assumption)
                obtain ⟨ad483, e483, hx483_0⟩ := Kd.at_bool (Kd.R_reads' HO_12.out).2.2 x14_1 p483 q483
                (try rw [← Nbq57.out] at hx483_0)
                cases e483
                replace p483 := eq_true p483
                replace q483 := eq_true q483
                have p484 : 0 ≤ (x14_1 : Int) := of_decide_eq_true (by first | (with_reducible assumption) | assumption)
                have q484 : x14_1 < (t471.length : Int) := of_decide_eq_true (by first | (with_reducible assumption) | assumption)
                obtain ⟨ad484, e484, hx484_0⟩ := Kd.at_int (Kd.R_reads' HO_9.out).2.2 x14_1 p484 q484
                obtain rfl : ad482 = ad484 := (by injection e484)
                replace p484 := eq_true p484
                replace q484 := eq_true q484
                have p485 : 0 ≤ (x14_1 : Int) := of_decide_eq_true (by first | (with_reducible assumption) | assumption)
                have q485 : x14_1 < (t476.length : Int) := of_decide_eq_true (by first | (with_reducible assumption) | assumption)
                obtain ⟨ad485, e485, hx485_0⟩ := Kd.at_bool (Kd.R_reads' HO_12.out).2.2 x14_1 p485 q485
                (try rw [← Nbq57.out] at hx485_0)
                obtain rfl : ad483 = ad485 := (by injection e485)
                replace p485 := eq_true p485
                replace q485 := eq_true q485
                go_wp2
                go_ret
                exact ⟨by first | rfl | (simp [errW_none, errW_some] <;> rfl) | (simp only [← hji6, ← hji9]; first | rfl | (simp [errW_none, errW_some] <;> rfl)) | (simp [*, errW_none, errW_some] <;> rfl), by repeat (first | (with_reducible first | exact HB.out | apply below_alloc | apply pw_below_drewN | apply below_drew1) | exact HB.out)⟩
               ·rw [if_neg c59] at H
                have c59b0 : decide ((rd t471 x14_1) < 0) = false := decide_eq_false c59
                clear c59
                have H' := Aside0.mk H
                clear H
                obtain ⟨Ao62, co62, eo62⟩ := Kd.R_slice HO_9.out
                subst eo62
                have p482 : 0 ≤ (x14_1 : Int) := of_decide_eq_true (by first | (with_reducible assumption) | assumption)
                have q482 : x14_1 < (t471.length : Int) := of_decide_eq_true (by first | (with_reducible assumption) | assumption)
                obtain ⟨ad482, e482, hx482_0⟩ := Kd.at_int (Kd.R_reads' HO_9.out).2.2 x14_1 p482 q482
                cases e482
                replace p482 := eq_true p482
                replace q482 := eq_true q482
                obtain ⟨Ao63, co63, eo63⟩ := Kd.R_slice HO_12.out
                subst eo63
                have p483 : 0 ≤ (x14_1 : Int) := of_decide_eq_true (by first | (with_reducible assumption) | assumption)
                have q483 : x14_1 < (t476.length : Int) := of_decide_eq_true (by first | (with_reducible assumption) | assumption)
                obtain ⟨ad483, e483, hx483_0⟩ := Kd.at_bool (Kd.R_reads' HO_12.out).2.2 x14_1 p483 q483
                (try rw [← Nbq57.out] at hx483_0)
                cases e483
                replace p483 := eq_true p483
                replace q483 := eq_true q483
                have p484 : 0 ≤ (x14_1 : Int) := of_decide_eq_true (by first | (with_reducible assumption) | assumption)
                have q484 : x14_1 < (t471.length : Int) := of_decide_eq_true (by first | (with_reducible assumption) | assumption)
                obtain ⟨ad484, e484, hx484_0⟩ := Kd.at_int (Kd.R_reads' HO_9.out).2.2 x14_1 p484 q484
                obtain rfl : ad482 = ad484 := (by injection e484)
                replace p484 := eq_true p484
                replace q484 := eq_true q484
                go_wp2
                go_roundg kj49
                case measure => have := HK1.out; have := HJ49.out; omega
                case rel => exact ⟨(wrap64 (x14_1 + 1)), (by first | rfl | (simp; done) | (simp [*]; done)), H', ⟨by have := HK1.out; have := HJ49.out; omega⟩, ⟨by (with_reducible repeat (first | apply Kd.R_alloc | apply Kd.R_drewN | apply Kd.R_drew)); exact HO_9.out⟩, ⟨by (with_reducible repeat (first | apply Kd.R_alloc | apply Kd.R_drewN | apply Kd.R_drew)); exact HO_12.out⟩, ⟨by repeat (first | (with_reducible first | exact HB.out | apply below_alloc | apply pw_below_drewN | apply below_drew1) | exact HB.out)⟩⟩
              ·replace c58 := Bool.eq_false_iff.mpr c58
               subst c58
               have H1 : (some false) = some r := by rw [if_neg (show ¬ (false = true) by decide)] at H; exact H
               clear H
               have H := H1
               clear H1
               obtain rfl := Option.some.inj H
               obtain ⟨Ao64, co64, eo64⟩ := Kd.R_slice HO_9.out
               subst eo64
               have p482 : 0 ≤ (x14_1 : Int) := of_decide_eq_true (by first | (with_reducible assumption) | assumption)
               have q482 : x14_1 < (t471.length : Int) := of_decide_eq_true (by first | (with_reducible assumption) | assumption)
               obtain ⟨ad482, e482, hx482_0⟩ := Kd.at_int (Kd.R_reads' HO_9.out).2.2 x14_1 p482 q482
               cases e482
               replace p482 := eq_true p482
               replace q482 := eq_true q482
               obtain ⟨Ao65, co65, eo65⟩ := Kd.R_slice HO_12.out
               subst eo65
               have p483 : 0 ≤ (x14_1 : Int) := of_decide_eq_true (by first | (with_reducible assumption) | assumption)
               have q483 : x14_1 < (t476.length : Int) := of_decide_eq_true (by first | (with_reducible assumption) | assumption)
               obtain ⟨ad483, e483, hx483_0⟩ := Kd.at_bool (Kd.R_reads' HO_12.out).2.2 x14_1 p483 q483
               (try rw [← Nbq57.out] at hx483_0)
               cases e483
               replace p483 := eq_true p483
               replace q483 := eq_true q483
               go_wp2
               go_ret
               exact ⟨by first | rfl | (simp [errW_none, errW_some] <;> rfl) | (simp only [← hji6, ← hji9]; first | rfl | (simp [errW_none, errW_some] <;> rfl)) | (simp [*, errW_none, errW_some] <;> rfl), by repeat (first | (with_reducible first | exact HB.out | apply below_alloc | apply pw_below_drewN | apply below_drew1) | exact HB.out)⟩
             ·rw [if_neg c56] at H
              exact absurd H (by simp)
            ·rw [if_neg c55] at H
             have c55b0 : decide (0 < (rd t471 x14_1)) = false := decide_eq_false c55
             clear c55
             by_cases c66 : (rd t471 x14_1) < 0
             ·rw [if_pos c66] at H
              have c66b0 : decide ((rd t471 x14_1) < 0) = true := decide_eq_true c66
              clear c66
              by_cases c67 : x14_1 < (t476.length : Int)
              ·rw [if_pos c67] at H
               have c67b0 : decide (x14_1 < (t476.length : Int)) = true := decide_eq_true c67
               clear c67
               obtain ⟨bq68, hbq68⟩ : ∃ b_ : Bool, b_ = (rdOf false t476 x14_1) := ⟨_, rfl⟩
               replace H : (if bq68 = true then (some false) else (ashlarlaw09_SatAgrees.l0 kj49 (Int.tmod (Go.bits .and .i64 a1 65535) 51) t463 t471 t475 t476 (wrap64 (x14_1 + 1)))) = some r := by rw [← hbq68] at H; exact H
               have Nbq68 := Aside0.mk hbq68
               clear hbq68
               by_cases c69 : bq68 = true
               ·subst c69
                have H1 : (some false) = some r := by rw [if_pos rfl] at H; exact H
                clear H
                have H := H1
                clear H1
                obtain rfl := Option.some.inj H
                obtain ⟨Ao70, co70, eo70⟩ := Kd.R_slice HO_9.out
                subst eo70
                have p482 : 0 ≤ (x14_1 : Int) := of_decide_eq_true (by first | (with_reducible assumption) | assumption)
                have q482 : x14_1 < (t471.length : Int) := of_decide_eq_true (by first | (with_reducible assumption) | assumption)
                obtain ⟨ad482, e482, hx482_0⟩ := Kd.at_int (Kd.R_reads' HO_9.out).2.2 x14_1 p482 q482
                cases e482
                replace p482 := eq_true p482
                replace q482 := eq_true q482
                have p486 : 0 ≤ (x14_1 : Int) := of_decide_eq_true (by first | (with_reducible assumption) | assumption)
                have q486 : x14_1 < (t471.length : Int) := of_decide_eq_true (by first | (with_reducible assumption) | assumption)
                obtain ⟨ad486, e486, hx486_0⟩ := Kd.at_int (Kd.R_reads' HO_9.out).2.2 x14_1 p486 q486
                obtain rfl : ad482 = ad486 := (by injection e486)
                replace p486 := eq_true p486
                replace q486 := eq_true q486
                obtain ⟨Ao71, co71, eo71⟩ := Kd.R_slice HO_12.out
                subst eo71
                have p487 : 0 ≤ (x14_1 : Int) := of_decide_eq_true (by first | (with_reducible assumption) | assumption)
                have q487 : x14_1 < (t476.length : Int) := of_decide_eq_true (by first | (with_reducible assumption) | assumption)
                obtain ⟨ad487, e487, hx487_0⟩ := Kd.at_bool (Kd.R_reads' HO_12.out).2.2 x14_1 p487 q487
                (try rw [← Nbq68.out] at hx487_0)
                cases e487
                replace p487 := eq_true p487
                replace q487 := eq_true q487
                go_wp2
                go_ret
                exact ⟨by first | rfl | (simp [errW_none, errW_some] <;> rfl) | (simp only [← hji6, ← hji9]; first | rfl | (simp [errW_none, errW_some] <;> rfl)) | (simp [*, errW_none, errW_some] <;> rfl), by repeat (first | (with_reducible first | exact HB.out | apply below_alloc | apply pw_below_drewN | apply below_drew1) | exact HB.out)⟩
               ·replace c69 := Bool.eq_false_iff.mpr c69
                subst c69
                have H1 : (ashlarlaw09_SatAgrees.l0 kj49 (Int.tmod (Go.bits .and .i64 a1 65535) 51) t463 t471 t475 t476 (wrap64 (x14_1 + 1))) = some r := by rw [if_neg (show ¬ (false = true) by decide)] at H; exact H
                clear H
                have H := H1
                clear H1
                have H' := Aside0.mk H
                clear H
                obtain ⟨Ao72, co72, eo72⟩ := Kd.R_slice HO_9.out
                subst eo72
                have p482 : 0 ≤ (x14_1 : Int) := of_decide_eq_true (by first | (with_reducible assumption) | assumption)
                have q482 : x14_1 < (t471.length : Int) := of_decide_eq_true (by first | (with_reducible assumption) | assumption)
                obtain ⟨ad482, e482, hx482_0⟩ := Kd.at_int (Kd.R_reads' HO_9.out).2.2 x14_1 p482 q482
                cases e482
                replace p482 := eq_true p482
                replace q482 := eq_true q482
                have p486 : 0 ≤ (x14_1 : Int) := of_decide_eq_true (by first | (with_reducible assumption) | assumption)
                have q486 : x14_1 < (t471.length : Int) := of_decide_eq_true (by first | (with_reducible assumption) | assumption)
                obtain ⟨ad486, e486, hx486_0⟩ := Kd.at_int (Kd.R_reads' HO_9.out).2.2 x14_1 p486 q486
                obtain rfl : ad482 = ad486 := (by injection e486)
                replace p486 := eq_true p486
                replace q486 := eq_true q486
                obtain ⟨Ao73, co73, eo73⟩ := Kd.R_slice HO_12.out
                subst eo73
                have p487 : 0 ≤ (x14_1 : Int) := of_decide_eq_true (by first | (with_reducible assumption) | assumption)
                have q487 : x14_1 < (t476.length : Int) := of_decide_eq_true (by first | (with_reducible assumption) | assumption)
                obtain ⟨ad487, e487, hx487_0⟩ := Kd.at_bool (Kd.R_reads' HO_12.out).2.2 x14_1 p487 q487
                (try rw [← Nbq68.out] at hx487_0)
                cases e487
                replace p487 := eq_true p487
                replace q487 := eq_true q487
                go_wp2
                go_roundg kj49
                case measure => have := HK1.out; have := HJ49.out; omega
                case rel => exact ⟨(wrap64 (x14_1 + 1)), (by first | rfl | (simp; done) | (simp [*]; done)), H', ⟨by have := HK1.out; have := HJ49.out; omega⟩, ⟨by (with_reducible repeat (first | apply Kd.R_alloc | apply Kd.R_drewN | apply Kd.R_drew)); exact HO_9.out⟩, ⟨by (with_reducible repeat (first | apply Kd.R_alloc | apply Kd.R_drewN | apply Kd.R_drew)); exact HO_12.out⟩, ⟨by repeat (first | (with_reducible first | exact HB.out | apply below_alloc | apply pw_below_drewN | apply below_drew1) | exact HB.out)⟩⟩
              ·rw [if_neg c67] at H
               exact absurd H (by simp)
             ·rw [if_neg c66] at H
              have c66b0 : decide ((rd t471 x14_1) < 0) = false := decide_eq_false c66
              clear c66
              have H' := Aside0.mk H
              clear H
              obtain ⟨Ao74, co74, eo74⟩ := Kd.R_slice HO_9.out
              subst eo74
              have p482 : 0 ≤ (x14_1 : Int) := of_decide_eq_true (by first | (with_reducible assumption) | assumption)
              have q482 : x14_1 < (t471.length : Int) := of_decide_eq_true (by first | (with_reducible assumption) | assumption)
              obtain ⟨ad482, e482, hx482_0⟩ := Kd.at_int (Kd.R_reads' HO_9.out).2.2 x14_1 p482 q482
              cases e482
              replace p482 := eq_true p482
              replace q482 := eq_true q482
              have p486 : 0 ≤ (x14_1 : Int) := of_decide_eq_true (by first | (with_reducible assumption) | assumption)
              have q486 : x14_1 < (t471.length : Int) := of_decide_eq_true (by first | (with_reducible assumption) | assumption)
              obtain ⟨ad486, e486, hx486_0⟩ := Kd.at_int (Kd.R_reads' HO_9.out).2.2 x14_1 p486 q486
              obtain rfl : ad482 = ad486 := (by injection e486)
              replace p486 := eq_true p486
              replace q486 := eq_true q486
              go_wp2
              go_roundg kj49
              case measure => have := HK1.out; have := HJ49.out; omega
              case rel => exact ⟨(wrap64 (x14_1 + 1)), (by first | rfl | (simp; done) | (simp [*]; done)), H', ⟨by have := HK1.out; have := HJ49.out; omega⟩, ⟨by (with_reducible repeat (first | apply Kd.R_alloc | apply Kd.R_drewN | apply Kd.R_drew)); exact HO_9.out⟩, ⟨by (with_reducible repeat (first | apply Kd.R_alloc | apply Kd.R_drewN | apply Kd.R_drew)); exact HO_12.out⟩, ⟨by repeat (first | (with_reducible first | exact HB.out | apply below_alloc | apply pw_below_drewN | apply below_drew1) | exact HB.out)⟩⟩
           ·rw [if_neg c54] at H
            exact absurd H (by simp)
          ·rw [if_neg c53] at H
           exact absurd H (by simp)
         ·replace c52 := Bool.eq_false_iff.mpr c52
          subst c52
          have H1 : (some t463) = some r := by rw [if_neg (show ¬ (false = true) by decide)] at H; exact H
          clear H
          have H := H1
          clear H1
          obtain rfl := Option.some.inj H
          go_wp2
          go_ret
          exact ⟨by first | rfl | (simp [errW_none, errW_some] <;> rfl) | (simp only [← hji6, ← hji9]; first | rfl | (simp [errW_none, errW_some] <;> rfl)) | (simp [*, errW_none, errW_some] <;> rfl), by repeat (first | (with_reducible first | exact HB.out | apply below_alloc | apply pw_below_drewN | apply below_drew1) | exact HB.out)⟩
   ·rw [if_neg c11] at H
    exact absurd H (by simp)
  ·rw [if_neg c10] at H
   exact absurd H (by simp)
 ·replace c8 := Bool.eq_false_iff.mpr c8
  subst c8
  have H1 : (some t463) = some r := by rw [if_neg (show ¬ (false = true) by decide)] at H; exact H
  clear H
  have H := H1
  clear H1
  obtain rfl := Option.some.inj H
  go_enter Try.func9, Try.ntmps9
  go_wp2_with (first | ((with_reducible refine gate_callee (f := 12) rfl ?_); refine goesL_ (some 15) rfl rfl Try.func12 (by kernel_rfl) rfl #[] rfl (by (try simp only [List.map_toArray, List.map_cons, List.map_nil]); first | done | rfl | (simp only [List.length_drop, List.length_take]; rfl)) ?_; (with_reducible refine (ashlarlaw09_shown.calls k  t463 _ A4.out).mono ?_); rintro e w75 ⟨rfl, hb⟩; refine ⟨_, rfl, ?_⟩; have n0_ := Aside0.mk (below_step (by repeat (first | (with_reducible first | exact HB.out | apply below_alloc | apply pw_below_drewN | apply below_drew1) | exact HB.out)) hb); clear HB; have HB := n0_; clear n0_; (try clear hb); (try clear hb2); (try clear hk); (try clear hi)) | ((with_reducible refine gate_callee (f := 13) rfl ?_); refine goesL_ (some 17) rfl rfl Try.func13 (by kernel_rfl) rfl #[.slice A0 l0.length c0] rfl (by (try simp only [List.map_toArray, List.map_cons, List.map_nil]); first | done | rfl | (simp only [List.length_drop, List.length_take]; rfl)) ?_; (with_reducible refine (ashlarlaw09_few.calls k _ _ l0 t464 _ ?side1 ?side2 A5.out).mono ?_); (case side1 => repeat (first | exact (Kd.C_below HR0.out HB.out) | (with_reducible refine Kd.C_alloc ?_ _) | (with_reducible refine Kd.C_drewN ?_ _) | (with_reducible refine Kd.C_drew ?_))); (case side2 => exact HC0.out); rintro e w76 ⟨v465, rfl, ho0, hb⟩; refine ⟨_, rfl, ?_⟩; have n0_ := Aside0.mk (Kd.S_lower ho0 (below_size (by repeat (first | (with_reducible first | exact HB.out | apply below_alloc | apply pw_below_drewN | apply below_drew1) | exact HB.out)))); have n1_ := Aside0.mk (below_step (by repeat (first | (with_reducible first | exact HB.out | apply below_alloc | apply pw_below_drewN | apply below_drew1) | exact HB.out)) hb); clear HB; have HO466 := n0_; have HB := n1_; clear n0_ n1_; (try clear hb); (try clear hb2); (try clear hk); (try clear hi); (try clear ho0); obtain ⟨Ao77, co77, eo77⟩ := Kd.S_slice HO466.out; subst eo77) | ((with_reducible refine gate_callee (f := 16) rfl ?_); refine goesL_ (some 25) rfl rfl Try.func16 (by kernel_rfl) rfl #[.slice Ao77 t464.length co77, .int .i64 (Int.tmod (Go.bits .and .i64 a1 65535) 51)] rfl (by (try simp only [List.map_toArray, List.map_cons, List.map_nil]); first | done | rfl | (simp only [List.length_drop, List.length_take]; rfl)) ?_; (with_reducible refine (ashlarref09_Right.calls k _ _ t464 (Int.tmod (Go.bits .and .i64 a1 65535) 51) false _ ?side1 ?side2 A7.out).mono ?_); (case side1 => repeat (first | exact (Kd.S_reads' HO466.out).2.2 | (with_reducible refine Kd.C_alloc ?_ _) | (with_reducible refine Kd.C_drewN ?_ _) | (with_reducible refine Kd.C_drew ?_))); (case side2 => exact (Kd.S_reads' HO466.out).2.1); rintro e w' ⟨rfl, ⟨nd, rfl⟩⟩; refine ⟨_, rfl, ?_⟩))
  go_ret
  exact ⟨by first | rfl | (simp [errW_none, errW_some] <;> rfl) | (simp only [← hji6]; first | rfl | (simp [errW_none, errW_some] <;> rfl)) | (simp [*, errW_none, errW_some] <;> rfl), by repeat (first | (with_reducible first | exact HB.out | apply below_alloc | apply pw_below_drewN | apply below_drew1) | exact HB.out)⟩

end Go.Proofs.Ytmdjlhmifhnpdaa.Q
