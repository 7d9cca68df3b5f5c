/- Texts of this seat, joined by a program of this session (wip/tools/pack.py). -/
import Derived.Test.YtmdjlhmifhnpdaaProg
import Derived.Below
import Derived.Deep.Draws
import Derived.Deep.AppendLies
import Derived.Maps.AppendAt
import Derived.OwnWalk
import Derived.Laws.BytesArg
import Derived.Laws.MakeOwn
import Derived.Laws.OwnMore
import Derived.Deep.OwnRows
import Derived.Tactics
import Derived.Lib.ConvBytes
import Derived.Laws.Slices
import Derived.WalkKit
import Derived.KernelRfl
import Derived.RowKit3
import Derived.Deep.LoopGhost
import Derived.Deep.QuietTactic
import Derived.BigQuiet
import Derived.WideLaws
import Derived.Deep.DeepCutAuto
import Derived.Deep.CutBlock
import Derived.Deep.RegionHeld3
import Derived.Laws.Rows
import Derived.Lib.AppendStr
import Derived.ArgAppend
import Derived.Laws.IdiomCopy
import Derived.OrdersHeld
import Derived.Laws.BitsLemmas
import Derived.RowKit
import Derived.ScopeJumps
import Derived.WalkMore
import Derived.Laws.CopyOwn
import Derived.Deep.Slices
import Derived.WalkSpells
import Derived.Outline
import Derived.Test.YtmdjlhmifhnpdaaZd
import Derived.Test.YtmdjlhmifhnpdaaZc
import Derived.Test.YtmdjlhmifhnpdaaZw
import Derived.Test.YtmdjlhmifhnpdaaZf
namespace Go.Proofs.Ytmdjlhmifhnpdaa.Q
open Go.RowKit Go.Proofs.YtmdjlhmifhnpdaaW.PrintWords Go.Proofs.YtmdjlhmifhnpdaaW.PrintLast Go.Proofs.YtmdjlhmifhnpdaaW.PrintMore
attribute [local go_sem] max2_int min2_int max_two min_two max_three min_three max_four min_four   -- for this text's walks alone
set_option linter.unusedVariables false
set_option linter.unusedSimpArgs false



def errW : Option Int → Value
  | none => .nilIface
  | some c => .iface 0 (.int .i64 c)
theorem errW_none : errW none = .nilIface := rfl
theorem errW_some (c : Int) : errW (some c) = .iface 0 (.int .i64 c) := rfl

theorem info3 : (Try.prog.info? 3).map (fun i => (i.zero, i.size, i.bytes)) = some (some (.int .i64 0), 1, 8) := by kernel_rfl
theorem info4 : (Try.prog.info? 4).map (fun i => (i.zero, i.size, i.bytes)) = some (some (.bool false), 1, 1) := by kernel_rfl
theorem info32 : (Try.prog.info? 32).map (fun i => (i.zero, i.size, i.bytes)) = some (some (.slice none 0 0), 1, 24) := by kernel_rfl
theorem info38 : (Try.prog.info? 38).map (fun i => (i.zero, i.size, i.bytes)) = some (some (.int .i8 0), 1, 1) := by kernel_rfl
-- the values' own types
def rd_L2 (xs : List (List Int)) (i : Int) : (List Int) := xs.getD i.toNat ([] : List Int)
theorem at_L2 {w : World} {A : Option Addr} {n : Nat} {xs : List (List Int)} (h : Kd.C (Kd.slice 3 (Kd.int .i64)) w A n xs) (i : Int) (h0 : 0 ≤ i) (h1 : i < n) : ∃ ad A0 c0, A = some ad ∧ w.cell? (ad.add i.toNat) = some (.slice A0 (rd_L2 xs i).length c0) ∧ (rd_L2 xs i).length ≤ c0 ∧ (Kd.int .i64).C w A0 (rd_L2 xs i).length (rd_L2 xs i) := by
  obtain ⟨ad, c, e, _, hK, hc0⟩ := Kd.C_get h ([] : List Int) i h0 h1
  have hc : ∀ j u, c[j]? = some u → w.cell? (ad.add (i.toNat * 1 + j)) = some u := hc0
  obtain ⟨A0, c0, rfl, l0, g0⟩ := hK
  exact ⟨ad, A0, c0, e, by have hq := hc 0 _ rfl; rwa [Nat.mul_one, Nat.add_zero] at hq, l0, g0⟩

end Go.Proofs.Ytmdjlhmifhnpdaa.Q
namespace Go.Proofs.Ytmdjlhmifhnpdaa.Q
open Go.RowKit Go.Proofs.YtmdjlhmifhnpdaaW.PrintWords Go.Proofs.YtmdjlhmifhnpdaaW.PrintLast Go.Proofs.YtmdjlhmifhnpdaaW.PrintMore
attribute [local go_sem] max2_int min2_int max_two min_two max_three min_three max_four min_four   -- for this text's walks alone
set_option linter.unusedVariables false
set_option linter.unusedSimpArgs false

/-! ### sat_Solve: function 14 -/
/-! ### sat.Solve: walked by hand (SatWalk9), told as solveF. -/
def sat_Solve.f (k : Nat) (l0 : List (List Int)) (a1 : Int) (a2 : Int) : Option (Int × List Bool × (List (List Int))) := Go.Proofs.Ytmdjlhmifhnpdaa.SatW.solveF k l0 a1 a2
theorem sat_Solve.mono : ∀ a0 a1 a2 k, LeO (sat_Solve.f k a0 a1 a2) (sat_Solve.f (k + 1) a0 a1 a2) := fun a0 a1 a2 k => Go.Proofs.Ytmdjlhmifhnpdaa.SatW.solve_mono a0 a1 a2 k
theorem sat_Solve.calls (k : Nat) (A0 : Option Addr) (c0 : Nat) (l0 : List (List Int)) (a1 : Int) (a2 : Int) (r1 : Int) (r2 : List Bool) (r3 : List (List Int)) (w : World) (hr0 : Kd.C (Kd.slice 3 (Kd.int .i64)) w A0 l0.length l0) (hc0 : l0.length ≤ c0) (h : sat_Solve.f k l0 a1 a2 = some (r1, r2, r3)) :
  Calls Try.prog 14 #[.slice A0 l0.length c0, .int .i64 a1, .int .i64 a2] w fun e w' => ∃ v1_ v2_ : Value, e = .returned (.tuple #[.int .i64 r1, v1_, v2_]) ∧ Kd.R Kd.bool 4 w' w.heap.size (fun _ => True) v1_ r2 ∧ Kd.S (Kd.slice 3 (Kd.int .i64)) 32 w' w.heap.size (fun _ => True) v2_ r3 ∧ Below w.heap.size w w' :=
 Go.Proofs.Ytmdjlhmifhnpdaa.SatW.solve_calls k A0 c0 l0 a1 a2 r1 r2 r3 w hr0 h

/-! ### ashlarlaw09_shown: function 12 -/
def ashlarlaw09_shown.j0 : Nat → Bool → Option (Bool)
 | 0, _ => none
 | k + 1, x0 => some x0
def ashlarlaw09_shown.f (k : Nat)  : Option (Bool) := (sat_Solve.f k (([(([1, 2] : List Int)), (([(-1)] : List Int))] : List (List Int))) 2 0).bind fun bt116 => ((sat_Solve.f k (([(([1, 2] : List Int)), (([1, (-2)] : List Int)), (([(-1), 2] : List Int)), (([(-1), (-2)] : List Int))] : List (List Int))) 2 100).bind fun bt138 => ((sat_Solve.f k (([(([3] : List Int))] : List (List Int))) 2 100).bind fun bt151 => (if bt116.1 = 1 then (if (bt116.2.1.length : Int) = 3 then (if 1 < (bt116.2.1.length : Int) then (if rdOf false bt116.2.1 1 = true then (ashlarlaw09_shown.j0 k false) else (if 2 < (bt116.2.1.length : Int) then (if rdOf false bt116.2.1 2 = true then (if (bt116.2.2.length : Int) = 0 then (if bt138.1 = 2 then (if (bt138.2.1.length : Int) = 0 then (if (bt138.2.2.length : Int) > 0 then (ashlarlaw09_shown.j0 k (bt151.1 == 0)) else (ashlarlaw09_shown.j0 k false)) else (ashlarlaw09_shown.j0 k false)) else (ashlarlaw09_shown.j0 k false)) else (ashlarlaw09_shown.j0 k false)) else (ashlarlaw09_shown.j0 k false)) else (none))) else (none)) else (ashlarlaw09_shown.j0 k false)) else (ashlarlaw09_shown.j0 k false))))
theorem ashlarlaw09_shown.mono_l : ∀ k, (∀ y0, LeO (ashlarlaw09_shown.j0 k y0) (ashlarlaw09_shown.j0 (k + 1) y0))
 | 0 => fun _ r h => by simp [ashlarlaw09_shown.j0] at h
 | k + 1 => by
  have ih0 := ashlarlaw09_shown.mono_l k
  ·intro y0
   unfold ashlarlaw09_shown.j0
   repeat' first
   | (with_reducible exact ih0 _)
   | (with_reducible exact sat_Solve.mono _ _ _ _)
   | (with_reducible exact LeO.refl _)
   | (with_reducible exact LeO.none _)
   | (with_reducible refine LeO.ite ?_ ?_)
   | (with_reducible refine LeO.bind ?_ (fun _ => ?_))
   | exact ih0 _
   | exact sat_Solve.mono _ _ _ _
   | exact LeO.none _
   | refine LeO.ite ?_ ?_
   | refine LeO.bind ?_ (fun _ => ?_)
theorem ashlarlaw09_shown.mono : ∀ k, LeO (ashlarlaw09_shown.f k ) (ashlarlaw09_shown.f (k + 1) ) := by
 intro  k
 have ih0 := ashlarlaw09_shown.mono_l k
 unfold ashlarlaw09_shown.f
 repeat' first
   | (with_reducible exact ih0 _)
   | (with_reducible exact sat_Solve.mono _ _ _ _)
   | (with_reducible exact LeO.refl _)
   | (with_reducible exact LeO.none _)
   | (with_reducible refine LeO.ite ?_ ?_)
   | (with_reducible refine LeO.bind ?_ (fun _ => ?_))
   | exact ih0 _
   | exact sat_Solve.mono _ _ _ _
   | exact LeO.none _
   | refine LeO.ite ?_ ?_
   | refine LeO.bind ?_ (fun _ => ?_)
set_option maxHeartbeats 8000000 in
set_option maxRecDepth 100000 in
theorem ashlarlaw09_shown.calls (k : Nat)  (r : Bool) (w : World) (h : ashlarlaw09_shown.f k  = some r) :
  Calls Try.prog 12 #[] w fun e w' => e = .returned (.bool r) ∧ Below w.heap.size w w' := by
 have HB := Aside0.mk (Below.refl w.heap.size w)
 have H : ((sat_Solve.f k (([(([1, 2] : List Int)), (([(-1)] : List Int))] : List (List Int))) 2 0).bind fun bt116 => ((sat_Solve.f k (([(([1, 2] : List Int)), (([1, (-2)] : List Int)), (([(-1), 2] : List Int)), (([(-1), (-2)] : List Int))] : List (List Int))) 2 100).bind fun bt138 => ((sat_Solve.f k (([(([3] : List Int))] : List (List Int))) 2 100).bind fun bt151 => (if bt116.1 = 1 then (if (bt116.2.1.length : Int) = 3 then (if 1 < (bt116.2.1.length : Int) then (if rdOf false bt116.2.1 1 = true then (ashlarlaw09_shown.j0 k false) else (if 2 < (bt116.2.1.length : Int) then (if rdOf false bt116.2.1 2 = true then (if (bt116.2.2.length : Int) = 0 then (if bt138.1 = 2 then (if (bt138.2.1.length : Int) = 0 then (if (bt138.2.2.length : Int) > 0 then (ashlarlaw09_shown.j0 k (bt151.1 == 0)) else (ashlarlaw09_shown.j0 k false)) else (ashlarlaw09_shown.j0 k false)) else (ashlarlaw09_shown.j0 k false)) else (ashlarlaw09_shown.j0 k false)) else (ashlarlaw09_shown.j0 k false)) else (none))) else (none)) else (ashlarlaw09_shown.j0 k false)) else (ashlarlaw09_shown.j0 k false))))) = some r := h
 clear h
 obtain ⟨y107, hy107⟩ : ∃ y_ : List Int, y_ = (([1, 2] : List Int)) := ⟨_, rfl⟩
 replace H : ((sat_Solve.f k (([y107, (([(-1)] : List Int))] : List (List Int))) 2 0).bind fun bt116 => ((sat_Solve.f k (([(([1, 2] : List Int)), (([1, (-2)] : List Int)), (([(-1), 2] : List Int)), (([(-1), (-2)] : List Int))] : List (List Int))) 2 100).bind fun bt138 => ((sat_Solve.f k (([(([3] : List Int))] : List (List Int))) 2 100).bind fun bt151 => (if bt116.1 = 1 then (if (bt116.2.1.length : Int) = 3 then (if 1 < (bt116.2.1.length : Int) then (if rdOf false bt116.2.1 1 = true then (ashlarlaw09_shown.j0 k false) else (if 2 < (bt116.2.1.length : Int) then (if rdOf false bt116.2.1 2 = true then (if (bt116.2.2.length : Int) = 0 then (if bt138.1 = 2 then (if (bt138.2.1.length : Int) = 0 then (if (bt138.2.2.length : Int) > 0 then (ashlarlaw09_shown.j0 k (bt151.1 == 0)) else (ashlarlaw09_shown.j0 k false)) else (ashlarlaw09_shown.j0 k false)) else (ashlarlaw09_shown.j0 k false)) else (ashlarlaw09_shown.j0 k false)) else (ashlarlaw09_shown.j0 k false)) else (none))) else (none)) else (ashlarlaw09_shown.j0 k false)) else (ashlarlaw09_shown.j0 k false))))) = some r := by first | (rw [hy107]; with_reducible exact H) | (have H2_ := (Option.bind_some _ _).symm.trans H; rw [hy107]; with_reducible exact H2_) | (have H2_ := (Option.bind_some _ _).symm.trans H; with_reducible exact H2_) | with_reducible exact H | (rw [hy107]; exact H) | exact H
 have Ny107 := Aside0.mk hy107
 clear hy107
 obtain ⟨y110, hy110⟩ : ∃ y_ : List Int, y_ = (([(-1)] : List Int)) := ⟨_, rfl⟩
 replace H : ((sat_Solve.f k (([y107, y110] : List (List Int))) 2 0).bind fun bt116 => ((sat_Solve.f k (([(([1, 2] : List Int)), (([1, (-2)] : List Int)), (([(-1), 2] : List Int)), (([(-1), (-2)] : List Int))] : List (List Int))) 2 100).bind fun bt138 => ((sat_Solve.f k (([(([3] : List Int))] : List (List Int))) 2 100).bind fun bt151 => (if bt116.1 = 1 then (if (bt116.2.1.length : Int) = 3 then (if 1 < (bt116.2.1.length : Int) then (if rdOf false bt116.2.1 1 = true then (ashlarlaw09_shown.j0 k false) else (if 2 < (bt116.2.1.length : Int) then (if rdOf false bt116.2.1 2 = true then (if (bt116.2.2.length : Int) = 0 then (if bt138.1 = 2 then (if (bt138.2.1.length : Int) = 0 then (if (bt138.2.2.length : Int) > 0 then (ashlarlaw09_shown.j0 k (bt151.1 == 0)) else (ashlarlaw09_shown.j0 k false)) else (ashlarlaw09_shown.j0 k false)) else (ashlarlaw09_shown.j0 k false)) else (ashlarlaw09_shown.j0 k false)) else (ashlarlaw09_shown.j0 k false)) else (none))) else (none)) else (ashlarlaw09_shown.j0 k false)) else (ashlarlaw09_shown.j0 k false))))) = some r := by first | (rw [hy110]; with_reducible exact H) | (have H2_ := (Option.bind_some _ _).symm.trans H; rw [hy110]; with_reducible exact H2_) | (have H2_ := (Option.bind_some _ _).symm.trans H; with_reducible exact H2_) | with_reducible exact H | (rw [hy110]; exact H) | exact H
 have Ny110 := Aside0.mk hy110
 clear hy110
 obtain ⟨y113, hy113⟩ : ∃ y_ : List (List Int), y_ = (([y107, y110] : List (List Int))) := ⟨_, rfl⟩
 replace H : ((sat_Solve.f k y113 2 0).bind fun bt116 => ((sat_Solve.f k (([(([1, 2] : List Int)), (([1, (-2)] : List Int)), (([(-1), 2] : List Int)), (([(-1), (-2)] : List Int))] : List (List Int))) 2 100).bind fun bt138 => ((sat_Solve.f k (([(([3] : List Int))] : List (List Int))) 2 100).bind fun bt151 => (if bt116.1 = 1 then (if (bt116.2.1.length : Int) = 3 then (if 1 < (bt116.2.1.length : Int) then (if rdOf false bt116.2.1 1 = true then (ashlarlaw09_shown.j0 k false) else (if 2 < (bt116.2.1.length : Int) then (if rdOf false bt116.2.1 2 = true then (if (bt116.2.2.length : Int) = 0 then (if bt138.1 = 2 then (if (bt138.2.1.length : Int) = 0 then (if (bt138.2.2.length : Int) > 0 then (ashlarlaw09_shown.j0 k (bt151.1 == 0)) else (ashlarlaw09_shown.j0 k false)) else (ashlarlaw09_shown.j0 k false)) else (ashlarlaw09_shown.j0 k false)) else (ashlarlaw09_shown.j0 k false)) else (ashlarlaw09_shown.j0 k false)) else (none))) else (none)) else (ashlarlaw09_shown.j0 k false)) else (ashlarlaw09_shown.j0 k false))))) = some r := by first | (rw [hy113]; with_reducible exact H) | (have H2_ := (Option.bind_some _ _).symm.trans H; rw [hy113]; with_reducible exact H2_) | (have H2_ := (Option.bind_some _ _).symm.trans H; with_reducible exact H2_) | with_reducible exact H | (rw [hy113]; exact H) | exact H
 have Ny113 := Aside0.mk hy113
 clear hy113
 replace H := Option.bind_eq_some_iff.mp H
 obtain ⟨⟨t116, t117, t118⟩, A10, H⟩ := H
 replace H : ((sat_Solve.f k (([(([1, 2] : List Int)), (([1, (-2)] : List Int)), (([(-1), 2] : List Int)), (([(-1), (-2)] : List Int))] : List (List Int))) 2 100).bind fun bt138 => ((sat_Solve.f k (([(([3] : List Int))] : List (List Int))) 2 100).bind fun bt151 => (if t116 = 1 then (if (t117.length : Int) = 3 then (if 1 < (t117.length : Int) then (if rdOf false t117 1 = true then (ashlarlaw09_shown.j0 k false) else (if 2 < (t117.length : Int) then (if rdOf false t117 2 = true then (if (t118.length : Int) = 0 then (if bt138.1 = 2 then (if (bt138.2.1.length : Int) = 0 then (if (bt138.2.2.length : Int) > 0 then (ashlarlaw09_shown.j0 k (bt151.1 == 0)) else (ashlarlaw09_shown.j0 k false)) else (ashlarlaw09_shown.j0 k false)) else (ashlarlaw09_shown.j0 k false)) else (ashlarlaw09_shown.j0 k false)) else (ashlarlaw09_shown.j0 k false)) else (none))) else (none)) else (ashlarlaw09_shown.j0 k false)) else (ashlarlaw09_shown.j0 k false)))) = some r := H
 have A1 := Aside0.mk A10
 clear A10
 obtain ⟨y123, hy123⟩ : ∃ y_ : List Int, y_ = (([1, 2] : List Int)) := ⟨_, rfl⟩
 replace H : ((sat_Solve.f k (([y123, (([1, (-2)] : List Int)), (([(-1), 2] : List Int)), (([(-1), (-2)] : List Int))] : List (List Int))) 2 100).bind fun bt138 => ((sat_Solve.f k (([(([3] : List Int))] : List (List Int))) 2 100).bind fun bt151 => (if t116 = 1 then (if (t117.length : Int) = 3 then (if 1 < (t117.length : Int) then (if rdOf false t117 1 = true then (ashlarlaw09_shown.j0 k false) else (if 2 < (t117.length : Int) then (if rdOf false t117 2 = true then (if (t118.length : Int) = 0 then (if bt138.1 = 2 then (if (bt138.2.1.length : Int) = 0 then (if (bt138.2.2.length : Int) > 0 then (ashlarlaw09_shown.j0 k (bt151.1 == 0)) else (ashlarlaw09_shown.j0 k false)) else (ashlarlaw09_shown.j0 k false)) else (ashlarlaw09_shown.j0 k false)) else (ashlarlaw09_shown.j0 k false)) else (ashlarlaw09_shown.j0 k false)) else (none))) else (none)) else (ashlarlaw09_shown.j0 k false)) else (ashlarlaw09_shown.j0 k false)))) = some r := by first | (rw [hy123]; with_reducible exact H) | (have H2_ := (Option.bind_some _ _).symm.trans H; rw [hy123]; with_reducible exact H2_) | (have H2_ := (Option.bind_some _ _).symm.trans H; with_reducible exact H2_) | with_reducible exact H | (rw [hy123]; exact H) | exact H
 have Ny123 := Aside0.mk hy123
 clear hy123
 obtain ⟨y126, hy126⟩ : ∃ y_ : List Int, y_ = (([1, (-2)] : List Int)) := ⟨_, rfl⟩
 replace H : ((sat_Solve.f k (([y123, y126, (([(-1), 2] : List Int)), (([(-1), (-2)] : List Int))] : List (List Int))) 2 100).bind fun bt138 => ((sat_Solve.f k (([(([3] : List Int))] : List (List Int))) 2 100).bind fun bt151 => (if t116 = 1 then (if (t117.length : Int) = 3 then (if 1 < (t117.length : Int) then (if rdOf false t117 1 = true then (ashlarlaw09_shown.j0 k false) else (if 2 < (t117.length : Int) then (if rdOf false t117 2 = true then (if (t118.length : Int) = 0 then (if bt138.1 = 2 then (if (bt138.2.1.length : Int) = 0 then (if (bt138.2.2.length : Int) > 0 then (ashlarlaw09_shown.j0 k (bt151.1 == 0)) else (ashlarlaw09_shown.j0 k false)) else (ashlarlaw09_shown.j0 k false)) else (ashlarlaw09_shown.j0 k false)) else (ashlarlaw09_shown.j0 k false)) else (ashlarlaw09_shown.j0 k false)) else (none))) else (none)) else (ashlarlaw09_shown.j0 k false)) else (ashlarlaw09_shown.j0 k false)))) = some r := by first | (rw [hy126]; with_reducible exact H) | (have H2_ := (Option.bind_some _ _).symm.trans H; rw [hy126]; with_reducible exact H2_) | (have H2_ := (Option.bind_some _ _).symm.trans H; with_reducible exact H2_) | with_reducible exact H | (rw [hy126]; exact H) | exact H
 have Ny126 := Aside0.mk hy126
 clear hy126
 obtain ⟨y129, hy129⟩ : ∃ y_ : List Int, y_ = (([(-1), 2] : List Int)) := ⟨_, rfl⟩
 replace H : ((sat_Solve.f k (([y123, y126, y129, (([(-1), (-2)] : List Int))] : List (List Int))) 2 100).bind fun bt138 => ((sat_Solve.f k (([(([3] : List Int))] : List (List Int))) 2 100).bind fun bt151 => (if t116 = 1 then (if (t117.length : Int) = 3 then (if 1 < (t117.length : Int) then (if rdOf false t117 1 = true then (ashlarlaw09_shown.j0 k false) else (if 2 < (t117.length : Int) then (if rdOf false t117 2 = true then (if (t118.length : Int) = 0 then (if bt138.1 = 2 then (if (bt138.2.1.length : Int) = 0 then (if (bt138.2.2.length : Int) > 0 then (ashlarlaw09_shown.j0 k (bt151.1 == 0)) else (ashlarlaw09_shown.j0 k false)) else (ashlarlaw09_shown.j0 k false)) else (ashlarlaw09_shown.j0 k false)) else (ashlarlaw09_shown.j0 k false)) else (ashlarlaw09_shown.j0 k false)) else (none))) else (none)) else (ashlarlaw09_shown.j0 k false)) else (ashlarlaw09_shown.j0 k false)))) = some r := by first | (rw [hy129]; with_reducible exact H) | (have H2_ := (Option.bind_some _ _).symm.trans H; rw [hy129]; with_reducible exact H2_) | (have H2_ := (Option.bind_some _ _).symm.trans H; with_reducible exact H2_) | with_reducible exact H | (rw [hy129]; exact H) | exact H
 have Ny129 := Aside0.mk hy129
 clear hy129
 obtain ⟨y132, hy132⟩ : ∃ y_ : List Int, y_ = (([(-1), (-2)] : List Int)) := ⟨_, rfl⟩
 replace H : ((sat_Solve.f k (([y123, y126, y129, y132] : List (List Int))) 2 100).bind fun bt138 => ((sat_Solve.f k (([(([3] : List Int))] : List (List Int))) 2 100).bind fun bt151 => (if t116 = 1 then (if (t117.length : Int) = 3 then (if 1 < (t117.length : Int) then (if rdOf false t117 1 = true then (ashlarlaw09_shown.j0 k false) else (if 2 < (t117.length : Int) then (if rdOf false t117 2 = true then (if (t118.length : Int) = 0 then (if bt138.1 = 2 then (if (bt138.2.1.length : Int) = 0 then (if (bt138.2.2.length : Int) > 0 then (ashlarlaw09_shown.j0 k (bt151.1 == 0)) else (ashlarlaw09_shown.j0 k false)) else (ashlarlaw09_shown.j0 k false)) else (ashlarlaw09_shown.j0 k false)) else (ashlarlaw09_shown.j0 k false)) else (ashlarlaw09_shown.j0 k false)) else (none))) else (none)) else (ashlarlaw09_shown.j0 k false)) else (ashlarlaw09_shown.j0 k false)))) = some r := by first | (rw [hy132]; with_reducible exact H) | (have H2_ := (Option.bind_some _ _).symm.trans H; rw [hy132]; with_reducible exact H2_) | (have H2_ := (Option.bind_some _ _).symm.trans H; with_reducible exact H2_) | with_reducible exact H | (rw [hy132]; exact H) | exact H
 have Ny132 := Aside0.mk hy132
 clear hy132
 obtain ⟨y135, hy135⟩ : ∃ y_ : List (List Int), y_ = (([y123, y126, y129, y132] : List (List Int))) := ⟨_, rfl⟩
 replace H : ((sat_Solve.f k y135 2 100).bind fun bt138 => ((sat_Solve.f k (([(([3] : List Int))] : List (List Int))) 2 100).bind fun bt151 => (if t116 = 1 then (if (t117.length : Int) = 3 then (if 1 < (t117.length : Int) then (if rdOf false t117 1 = true then (ashlarlaw09_shown.j0 k false) else (if 2 < (t117.length : Int) then (if rdOf false t117 2 = true then (if (t118.length : Int) = 0 then (if bt138.1 = 2 then (if (bt138.2.1.length : Int) = 0 then (if (bt138.2.2.length : Int) > 0 then (ashlarlaw09_shown.j0 k (bt151.1 == 0)) else (ashlarlaw09_shown.j0 k false)) else (ashlarlaw09_shown.j0 k false)) else (ashlarlaw09_shown.j0 k false)) else (ashlarlaw09_shown.j0 k false)) else (ashlarlaw09_shown.j0 k false)) else (none))) else (none)) else (ashlarlaw09_shown.j0 k false)) else (ashlarlaw09_shown.j0 k false)))) = some r := by first | (rw [hy135]; with_reducible exact H) | (have H2_ := (Option.bind_some _ _).symm.trans H; rw [hy135]; with_reducible exact H2_) | (have H2_ := (Option.bind_some _ _).symm.trans H; with_reducible exact H2_) | with_reducible exact H | (rw [hy135]; exact H) | exact H
 have Ny135 := Aside0.mk hy135
 clear hy135
 replace H := Option.bind_eq_some_iff.mp H
 obtain ⟨⟨t138, t139, t140⟩, A20, H⟩ := H
 replace H : ((sat_Solve.f k (([(([3] : List Int))] : List (List Int))) 2 100).bind fun bt151 => (if t116 = 1 then (if (t117.length : Int) = 3 then (if 1 < (t117.length : Int) then (if rdOf false t117 1 = true then (ashlarlaw09_shown.j0 k false) else (if 2 < (t117.length : Int) then (if rdOf false t117 2 = true then (if (t118.length : Int) = 0 then (if t138 = 2 then (if (t139.length : Int) = 0 then (if (t140.length : Int) > 0 then (ashlarlaw09_shown.j0 k (bt151.1 == 0)) else (ashlarlaw09_shown.j0 k false)) else (ashlarlaw09_shown.j0 k false)) else (ashlarlaw09_shown.j0 k false)) else (ashlarlaw09_shown.j0 k false)) else (ashlarlaw09_shown.j0 k false)) else (none))) else (none)) else (ashlarlaw09_shown.j0 k false)) else (ashlarlaw09_shown.j0 k false))) = some r := H
 have A2 := Aside0.mk A20
 clear A20
 obtain ⟨y145, hy145⟩ : ∃ y_ : List Int, y_ = (([3] : List Int)) := ⟨_, rfl⟩
 replace H : ((sat_Solve.f k (([y145] : List (List Int))) 2 100).bind fun bt151 => (if t116 = 1 then (if (t117.length : Int) = 3 then (if 1 < (t117.length : Int) then (if rdOf false t117 1 = true then (ashlarlaw09_shown.j0 k false) else (if 2 < (t117.length : Int) then (if rdOf false t117 2 = true then (if (t118.length : Int) = 0 then (if t138 = 2 then (if (t139.length : Int) = 0 then (if (t140.length : Int) > 0 then (ashlarlaw09_shown.j0 k (bt151.1 == 0)) else (ashlarlaw09_shown.j0 k false)) else (ashlarlaw09_shown.j0 k false)) else (ashlarlaw09_shown.j0 k false)) else (ashlarlaw09_shown.j0 k false)) else (ashlarlaw09_shown.j0 k false)) else (none))) else (none)) else (ashlarlaw09_shown.j0 k false)) else (ashlarlaw09_shown.j0 k false))) = some r := by first | (rw [hy145]; with_reducible exact H) | (have H2_ := (Option.bind_some _ _).symm.trans H; rw [hy145]; with_reducible exact H2_) | (have H2_ := (Option.bind_some _ _).symm.trans H; with_reducible exact H2_) | with_reducible exact H | (rw [hy145]; exact H) | exact H
 have Ny145 := Aside0.mk hy145
 clear hy145
 obtain ⟨y148, hy148⟩ : ∃ y_ : List (List Int), y_ = (([y145] : List (List Int))) := ⟨_, rfl⟩
 replace H : ((sat_Solve.f k y148 2 100).bind fun bt151 => (if t116 = 1 then (if (t117.length : Int) = 3 then (if 1 < (t117.length : Int) then (if rdOf false t117 1 = true then (ashlarlaw09_shown.j0 k false) else (if 2 < (t117.length : Int) then (if rdOf false t117 2 = true then (if (t118.length : Int) = 0 then (if t138 = 2 then (if (t139.length : Int) = 0 then (if (t140.length : Int) > 0 then (ashlarlaw09_shown.j0 k (bt151.1 == 0)) else (ashlarlaw09_shown.j0 k false)) else (ashlarlaw09_shown.j0 k false)) else (ashlarlaw09_shown.j0 k false)) else (ashlarlaw09_shown.j0 k false)) else (ashlarlaw09_shown.j0 k false)) else (none))) else (none)) else (ashlarlaw09_shown.j0 k false)) else (ashlarlaw09_shown.j0 k false))) = some r := by first | (rw [hy148]; with_reducible exact H) | (have H2_ := (Option.bind_some _ _).symm.trans H; rw [hy148]; with_reducible exact H2_) | (have H2_ := (Option.bind_some _ _).symm.trans H; with_reducible exact H2_) | with_reducible exact H | (rw [hy148]; exact H) | exact H
 have Ny148 := Aside0.mk hy148
 clear hy148
 replace H := Option.bind_eq_some_iff.mp H
 obtain ⟨⟨t151, t152, t153⟩, A30, H⟩ := H
 replace H : (if t116 = 1 then (if (t117.length : Int) = 3 then (if 1 < (t117.length : Int) then (if rdOf false t117 1 = true then (ashlarlaw09_shown.j0 k false) else (if 2 < (t117.length : Int) then (if rdOf false t117 2 = true then (if (t118.length : Int) = 0 then (if t138 = 2 then (if (t139.length : Int) = 0 then (if (t140.length : Int) > 0 then (ashlarlaw09_shown.j0 k (t151 == 0)) else (ashlarlaw09_shown.j0 k false)) else (ashlarlaw09_shown.j0 k false)) else (ashlarlaw09_shown.j0 k false)) else (ashlarlaw09_shown.j0 k false)) else (ashlarlaw09_shown.j0 k false)) else (none))) else (none)) else (ashlarlaw09_shown.j0 k false)) else (ashlarlaw09_shown.j0 k false)) = some r := H
 have A3 := Aside0.mk A30
 clear A30
 have HC4 := Aside0.mk H
 clear H
 go_enter Try.func12, Try.ntmps12
 go_upto_region 4 with (first | ((with_reducible refine gate_dst (N := 11) rfl ?_); (try (refine gate_guard (by rfl) ?_; dsimp only)); refine Kd.R_lit (Kd.int .i64) _ 3 ?hg (N := 11) ?hd (xs := ([1, 2] : List Int)) (inner := [.int .i64 1, .int .i64 2]) (ok := fun _ => True) (okp := fun _ => True) ?hr ?hp (fun _ hk => hk) trivial (Below.refl _ _) (Nat.le_refl _) (by simp) ?_; (case hd => rfl); (case hg => rfl); (case hr => first | (go_simp; done) | (go_simp; rfl)); (case hp => exact (Reps.one (show Kd.M (Kd.int .i64) _ _ _ 1 [.int .i64 1] from rfl) (Reps.one (show Kd.M (Kd.int .i64) _ _ _ 2 [.int .i64 2] from rfl) (Reps.none _ _)))); intro v108 w5 ho6 hb hg_ hnew_; clear hg_ hnew_; (first | rw [← Ny107.out] at ho6 | (simp only [Int.reduceToNat] at ho6; rw [← Ny107.out] at ho6)); have n0_ := Aside0.mk (Kd.R_lower ho6 (below_size (by repeat (first | (with_reducible first | exact HB.out | apply below_alloc | apply pw_below_drewN | apply below_drew1) | exact HB.out)))); have n1_ := Aside0.mk (below_step (by repeat (first | (with_reducible first | exact HB.out | apply below_alloc | apply pw_below_drewN | apply below_drew1) | exact HB.out)) hb); clear HB; have HO109 := n0_; have HB := n1_; clear n0_ n1_; clear hb ho6) | ((with_reducible refine gate_dst (N := 12) rfl ?_); (try (refine gate_guard (by rfl) ?_; dsimp only)); refine Kd.R_lit (Kd.int .i64) _ 3 ?hg (N := 12) ?hd (xs := ([(-1)] : List Int)) (inner := [.int .i64 (-1)]) (ok := fun _ => True) (okp := fun _ => True) ?hr ?hp (fun _ hk => hk) trivial (Below.refl _ _) (Nat.le_refl _) (by simp) ?_; (case hd => rfl); (case hg => rfl); (case hr => first | (go_simp; done) | (go_simp; rfl)); (case hp => exact (Reps.one (show Kd.M (Kd.int .i64) _ _ _ (-1) [.int .i64 (-1)] from rfl) (Reps.none _ _))); intro v111 w7 ho8 hb hg_ hnew_; clear hg_ hnew_; (first | rw [← Ny110.out] at ho8 | (simp only [Int.reduceToNat] at ho8; rw [← Ny110.out] at ho8)); have n0_ := Aside0.mk (Kd.R_elder' (by (with_reducible repeat (first | apply Kd.R_alloc | apply Kd.R_drewN | apply Kd.R_drew)); exact HO109.out) (Kd.R_base ho8) hb); have n1_ := Aside0.mk (Kd.R_lower (Kd.R_new' ho8 (Kd.R_lt (by (with_reducible repeat (first | apply Kd.R_alloc | apply Kd.R_drewN | apply Kd.R_drew)); exact HO109.out))) (below_size (by repeat (first | (with_reducible first | exact HB.out | apply below_alloc | apply pw_below_drewN | apply below_drew1) | exact HB.out)))); have n2_ := Aside0.mk (below_step (by repeat (first | (with_reducible first | exact HB.out | apply below_alloc | apply pw_below_drewN | apply below_drew1) | exact HB.out)) hb); clear HO109; clear HB; have HO109 := n0_; have HO112 := n1_; have HB := n2_; clear n0_ n1_ n2_; clear hb ho8; obtain ⟨Ao9, co9, eo9⟩ := Kd.R_slice HO109.out; subst eo9; obtain ⟨Ao10, co10, eo10⟩ := Kd.R_slice HO112.out; subst eo10) | ((with_reducible refine gate_dst (N := 13) rfl ?_); (try (refine gate_guard (by rfl) ?_; dsimp only)); refine Kd.N_lit (Kd.slice 3 (Kd.int .i64)) _ 32 ?hg (N' := 13) ?hd (xs := ([y107, y110] : List (List Int))) (inner := [.slice Ao9 y107.length co9, .slice Ao10 y110.length co10]) (ok := (fun _ => True)) (okp := (fun _ => True)) ?hr ?hp (fun _ hk => hk) ((show ∀ k_, w7.heap.size ≤ k_ → (fun _ => True) k_ from fun k_ hk => trivial) _ (Nat.le_refl _)) (Below.refl _ _) (Nat.le_refl _) (by simp) ?_; (case hd => rfl); (case hg => rfl); (case hr => first | (go_simp; done) | (go_simp; rfl)); (case hp => exact (Reps.one (show Kd.FK (Kd.slice 3 (Kd.int .i64)) _ _ y107 [.slice Ao9 y107.length co9] from (Kd.FK_slice_mk (Kd.R_reads' (Kd.R_mono (ok' := (fun _ => True)) (HO109.out) (fun k_ hk => trivial))).2.1 (Kd.R_F (Kd.R_mono (ok' := (fun _ => True)) (HO109.out) (fun k_ hk => trivial))))) (Reps.one (show Kd.FK (Kd.slice 3 (Kd.int .i64)) _ _ y110 [.slice Ao10 y110.length co10] from (Kd.FK_slice_mk (Kd.R_reads' (Kd.R_mono (ok' := (fun _ => True)) (HO112.out) (fun k_ hk => trivial))).2.1 (Kd.R_F (Kd.R_mono (ok' := (fun _ => True)) (HO112.out) (fun k_ hk => trivial))))) (Reps.none _ _)))); intro v114 w11 ho12 hb hg_ hnew_; clear hg_ hnew_; (first | rw [← Ny113.out] at ho12 | (simp only [Int.reduceToNat] at ho12; rw [← Ny113.out] at ho12)); have n0_ := Aside0.mk (Kd.N_lower ho12 (below_size (by repeat (first | (with_reducible first | exact HB.out | apply below_alloc | apply pw_below_drewN | apply below_drew1) | exact HB.out)))); have n1_ := Aside0.mk (below_step (by repeat (first | (with_reducible first | exact HB.out | apply below_alloc | apply pw_below_drewN | apply below_drew1) | exact HB.out)) hb); clear HB; clear HO109; clear HO112; have HO115 := n0_; have HB := n1_; clear n0_ n1_; clear hb ho12; obtain ⟨Ao13, co13, eo13⟩ := Kd.N_slice HO115.out; subst eo13) | ((with_reducible refine gate_callee (f := 14) rfl ?_); refine goesL_ (some 14) rfl rfl Try.func14 (by kernel_rfl) rfl #[.slice Ao13 y113.length co13, .int .i64 2, .int .i64 0] rfl (by (try simp only [List.map_toArray, List.map_cons, List.map_nil]); first | done | rfl | (simp only [List.length_drop, List.length_take]; rfl)) ?_; (with_reducible refine (sat_Solve.calls k _ _ y113 2 0 t116 t117 t118 _ ?side1 ?side2 A1.out).mono ?_); (case side1 => repeat (first | exact (Kd.N_reads' HO115.out).2.2 | (with_reducible refine Kd.C_alloc ?_ _) | (with_reducible refine Kd.C_drewN ?_ _) | (with_reducible refine Kd.C_drew ?_))); (case side2 => exact (Kd.N_reads' HO115.out).2.1); rintro e w14 ⟨v119, v121, rfl, ho0, ho1, hb⟩; refine ⟨_, rfl, ?_⟩; have n0_ := Aside0.mk (Kd.N_mono (Kd.N_told (Kd.N_told (Kd.N_old (by (with_reducible repeat (first | apply Kd.N_alloc | apply Kd.N_drewN | apply Kd.N_drew)); exact HO115.out) hb) (Kd.R_base ho0)) (Kd.N_base (Kd.S_N ho1))) (fun _ h_ => h_.1)); have n1_ := Aside0.mk (Kd.R_lower ho0 (below_size (by repeat (first | (with_reducible first | exact HB.out | apply below_alloc | apply pw_below_drewN | apply below_drew1) | exact HB.out)))); have n2_ := Aside0.mk (Kd.N_lower (Kd.N_mono (ok' := fun k_ => some k_ ≠ (v119 : Value).ownBlock ∧ some k_ ≠ (.slice Ao13 y113.length co13 : Value).ownBlock) (Kd.S_N (Kd.S_bound (Kd.S_apart' ho1 (Kd.R_typed ho0) (by decide)))) (fun k_ hk_ => ⟨hk_.1.2, (Kd.fresh' (Kd.N_lt (by (with_reducible repeat (first | apply Kd.N_alloc | apply Kd.N_drewN | apply Kd.N_drew)); exact HO115.out)) k_ hk_.2.1)⟩)) (below_size (by repeat (first | (with_reducible first | exact HB.out | apply below_alloc | apply pw_below_drewN | apply below_drew1) | exact HB.out)))); have n3_ := Aside0.mk (below_step (by repeat (first | (with_reducible first | exact HB.out | apply below_alloc | apply pw_below_drewN | apply below_drew1) | exact HB.out)) hb); clear HO115; clear HB; have HO115 := n0_; have HO120 := n1_; have HO122 := n2_; have HB := n3_; clear n0_ n1_ n2_ n3_; (try clear hb); (try clear hb2); (try clear hk); (try clear hi); (try clear ho0); (try clear ho1)) | ((with_reducible refine gate_dst (N := 19) rfl ?_); (try (refine gate_guard (by rfl) ?_; dsimp only)); refine Kd.R_lit (Kd.int .i64) _ 3 ?hg (N := 19) ?hd (xs := ([1, 2] : List Int)) (inner := [.int .i64 1, .int .i64 2]) (ok := fun _ => True) (okp := fun _ => True) ?hr ?hp (fun _ hk => hk) trivial (Below.refl _ _) (Nat.le_refl _) (by simp) ?_; (case hd => rfl); (case hg => rfl); (case hr => first | (go_simp; done) | (go_simp; rfl)); (case hp => exact (Reps.one (show Kd.M (Kd.int .i64) _ _ _ 1 [.int .i64 1] from rfl) (Reps.one (show Kd.M (Kd.int .i64) _ _ _ 2 [.int .i64 2] from rfl) (Reps.none _ _)))); intro v124 w15 ho16 hb hg_ hnew_; clear hg_ hnew_; (first | rw [← Ny123.out] at ho16 | (simp only [Int.reduceToNat] at ho16; rw [← Ny123.out] at ho16)); have n0_ := Aside0.mk (Kd.N_elder' (by (with_reducible repeat (first | apply Kd.N_alloc | apply Kd.N_drewN | apply Kd.N_drew)); exact HO115.out) (Kd.R_base ho16) hb); have n1_ := Aside0.mk (Kd.R_below (by (with_reducible repeat (first | apply Kd.R_alloc | apply Kd.R_drewN | apply Kd.R_drew)); exact HO120.out) hb); have n2_ := Aside0.mk (Kd.N_elder' (by (with_reducible repeat (first | apply Kd.N_alloc | apply Kd.N_drewN | apply Kd.N_drew)); exact HO122.out) (Kd.R_base ho16) hb); have n3_ := Aside0.mk (Kd.R_lower ho16 (below_size (by repeat (first | (with_reducible first | exact HB.out | apply below_alloc | apply pw_below_drewN | apply below_drew1) | exact HB.out)))); have n4_ := Aside0.mk (below_step (by repeat (first | (with_reducible first | exact HB.out | apply below_alloc | apply pw_below_drewN | apply below_drew1) | exact HB.out)) hb); clear HO115; clear HO120; clear HO122; clear HB; have HO115 := n0_; have HO120 := n1_; have HO122 := n2_; have HO125 := n3_; have HB := n4_; clear n0_ n1_ n2_ n3_ n4_; clear hb ho16) | ((with_reducible refine gate_dst (N := 20) rfl ?_); (try (refine gate_guard (by rfl) ?_; dsimp only)); refine Kd.R_lit (Kd.int .i64) _ 3 ?hg (N := 20) ?hd (xs := ([1, (-2)] : List Int)) (inner := [.int .i64 1, .int .i64 (-2)]) (ok := fun _ => True) (okp := fun _ => True) ?hr ?hp (fun _ hk => hk) trivial (Below.refl _ _) (Nat.le_refl _) (by simp) ?_; (case hd => rfl); (case hg => rfl); (case hr => first | (go_simp; done) | (go_simp; rfl)); (case hp => exact (Reps.one (show Kd.M (Kd.int .i64) _ _ _ 1 [.int .i64 1] from rfl) (Reps.one (show Kd.M (Kd.int .i64) _ _ _ (-2) [.int .i64 (-2)] from rfl) (Reps.none _ _)))); intro v127 w17 ho18 hb hg_ hnew_; clear hg_ hnew_; (first | rw [← Ny126.out] at ho18 | (simp only [Int.reduceToNat] at ho18; rw [← Ny126.out] at ho18)); have n0_ := Aside0.mk (Kd.N_elder' (by (with_reducible repeat (first | apply Kd.N_alloc | apply Kd.N_drewN | apply Kd.N_drew)); exact HO115.out) (Kd.R_base ho18) hb); have n1_ := Aside0.mk (Kd.R_below (by (with_reducible repeat (first | apply Kd.R_alloc | apply Kd.R_drewN | apply Kd.R_drew)); exact HO120.out) hb); have n2_ := Aside0.mk (Kd.N_elder' (by (with_reducible repeat (first | apply Kd.N_alloc | apply Kd.N_drewN | apply Kd.N_drew)); exact HO122.out) (Kd.R_base ho18) hb); have n3_ := Aside0.mk (Kd.R_elder' (by (with_reducible repeat (first | apply Kd.R_alloc | apply Kd.R_drewN | apply Kd.R_drew)); exact HO125.out) (Kd.R_base ho18) hb); have n4_ := Aside0.mk (Kd.R_lower (Kd.R_new' ho18 (Kd.R_lt (by (with_reducible repeat (first | apply Kd.R_alloc | apply Kd.R_drewN | apply Kd.R_drew)); exact HO125.out))) (below_size (by repeat (first | (with_reducible first | exact HB.out | apply below_alloc | apply pw_below_drewN | apply below_drew1) | exact HB.out)))); have n5_ := Aside0.mk (below_step (by repeat (first | (with_reducible first | exact HB.out | apply below_alloc | apply pw_below_drewN | apply below_drew1) | exact HB.out)) hb); clear HO115; clear HO120; clear HO122; clear HO125; clear HB; have HO115 := n0_; have HO120 := n1_; have HO122 := n2_; have HO125 := n3_; have HO128 := n4_; have HB := n5_; clear n0_ n1_ n2_ n3_ n4_ n5_; clear hb ho18) | ((with_reducible refine gate_dst (N := 21) rfl ?_); (try (refine gate_guard (by rfl) ?_; dsimp only)); refine Kd.R_lit (Kd.int .i64) _ 3 ?hg (N := 21) ?hd (xs := ([(-1), 2] : List Int)) (inner := [.int .i64 (-1), .int .i64 2]) (ok := fun _ => True) (okp := fun _ => True) ?hr ?hp (fun _ hk => hk) trivial (Below.refl _ _) (Nat.le_refl _) (by simp) ?_; (case hd => rfl); (case hg => rfl); (case hr => first | (go_simp; done) | (go_simp; rfl)); (case hp => exact (Reps.one (show Kd.M (Kd.int .i64) _ _ _ (-1) [.int .i64 (-1)] from rfl) (Reps.one (show Kd.M (Kd.int .i64) _ _ _ 2 [.int .i64 2] from rfl) (Reps.none _ _)))); intro v130 w19 ho20 hb hg_ hnew_; clear hg_ hnew_; (first | rw [← Ny129.out] at ho20 | (simp only [Int.reduceToNat] at ho20; rw [← Ny129.out] at ho20)); have n0_ := Aside0.mk (Kd.N_elder' (by (with_reducible repeat (first | apply Kd.N_alloc | apply Kd.N_drewN | apply Kd.N_drew)); exact HO115.out) (Kd.R_base ho20) hb); have n1_ := Aside0.mk (Kd.R_below (by (with_reducible repeat (first | apply Kd.R_alloc | apply Kd.R_drewN | apply Kd.R_drew)); exact HO120.out) hb); have n2_ := Aside0.mk (Kd.N_elder' (by (with_reducible repeat (first | apply Kd.N_alloc | apply Kd.N_drewN | apply Kd.N_drew)); exact HO122.out) (Kd.R_base ho20) hb); have n3_ := Aside0.mk (Kd.R_elder' (by (with_reducible repeat (first | apply Kd.R_alloc | apply Kd.R_drewN | apply Kd.R_drew)); exact HO125.out) (Kd.R_base ho20) hb); have n4_ := Aside0.mk (Kd.R_elder' (by (with_reducible repeat (first | apply Kd.R_alloc | apply Kd.R_drewN | apply Kd.R_drew)); exact HO128.out) (Kd.R_base ho20) hb); have n5_ := Aside0.mk (Kd.R_lower (Kd.R_new' (Kd.R_new' ho20 (Kd.R_lt (by (with_reducible repeat (first | apply Kd.R_alloc | apply Kd.R_drewN | apply Kd.R_drew)); exact HO125.out))) (Kd.R_lt (by (with_reducible repeat (first | apply Kd.R_alloc | apply Kd.R_drewN | apply Kd.R_drew)); exact HO128.out))) (below_size (by repeat (first | (with_reducible first | exact HB.out | apply below_alloc | apply pw_below_drewN | apply below_drew1) | exact HB.out)))); have n6_ := Aside0.mk (below_step (by repeat (first | (with_reducible first | exact HB.out | apply below_alloc | apply pw_below_drewN | apply below_drew1) | exact HB.out)) hb); clear HO115; clear HO120; clear HO122; clear HO125; clear HO128; clear HB; have HO115 := n0_; have HO120 := n1_; have HO122 := n2_; have HO125 := n3_; have HO128 := n4_; have HO131 := n5_; have HB := n6_; clear n0_ n1_ n2_ n3_ n4_ n5_ n6_; clear hb ho20) | ((with_reducible refine gate_dst (N := 22) rfl ?_); (try (refine gate_guard (by rfl) ?_; dsimp only)); refine Kd.R_lit (Kd.int .i64) _ 3 ?hg (N := 22) ?hd (xs := ([(-1), (-2)] : List Int)) (inner := [.int .i64 (-1), .int .i64 (-2)]) (ok := fun _ => True) (okp := fun _ => True) ?hr ?hp (fun _ hk => hk) trivial (Below.refl _ _) (Nat.le_refl _) (by simp) ?_; (case hd => rfl); (case hg => rfl); (case hr => first | (go_simp; done) | (go_simp; rfl)); (case hp => exact (Reps.one (show Kd.M (Kd.int .i64) _ _ _ (-1) [.int .i64 (-1)] from rfl) (Reps.one (show Kd.M (Kd.int .i64) _ _ _ (-2) [.int .i64 (-2)] from rfl) (Reps.none _ _)))); intro v133 w21 ho22 hb hg_ hnew_; clear hg_ hnew_; (first | rw [← Ny132.out] at ho22 | (simp only [Int.reduceToNat] at ho22; rw [← Ny132.out] at ho22)); have n0_ := Aside0.mk (Kd.N_elder' (by (with_reducible repeat (first | apply Kd.N_alloc | apply Kd.N_drewN | apply Kd.N_drew)); exact HO115.out) (Kd.R_base ho22) hb); have n1_ := Aside0.mk (Kd.R_below (by (with_reducible repeat (first | apply Kd.R_alloc | apply Kd.R_drewN | apply Kd.R_drew)); exact HO120.out) hb); have n2_ := Aside0.mk (Kd.N_elder' (by (with_reducible repeat (first | apply Kd.N_alloc | apply Kd.N_drewN | apply Kd.N_drew)); exact HO122.out) (Kd.R_base ho22) hb); have n3_ := Aside0.mk (Kd.R_elder' (by (with_reducible repeat (first | apply Kd.R_alloc | apply Kd.R_drewN | apply Kd.R_drew)); exact HO125.out) (Kd.R_base ho22) hb); have n4_ := Aside0.mk (Kd.R_elder' (by (with_reducible repeat (first | apply Kd.R_alloc | apply Kd.R_drewN | apply Kd.R_drew)); exact HO128.out) (Kd.R_base ho22) hb); have n5_ := Aside0.mk (Kd.R_elder' (by (with_reducible repeat (first | apply Kd.R_alloc | apply Kd.R_drewN | apply Kd.R_drew)); exact HO131.out) (Kd.R_base ho22) hb); have n6_ := Aside0.mk (Kd.R_lower (Kd.R_new' (Kd.R_new' (Kd.R_new' ho22 (Kd.R_lt (by (with_reducible repeat (first | apply Kd.R_alloc | apply Kd.R_drewN | apply Kd.R_drew)); exact HO125.out))) (Kd.R_lt (by (with_reducible repeat (first | apply Kd.R_alloc | apply Kd.R_drewN | apply Kd.R_drew)); exact HO128.out))) (Kd.R_lt (by (with_reducible repeat (first | apply Kd.R_alloc | apply Kd.R_drewN | apply Kd.R_drew)); exact HO131.out))) (below_size (by repeat (first | (with_reducible first | exact HB.out | apply below_alloc | apply pw_below_drewN | apply below_drew1) | exact HB.out)))); have n7_ := Aside0.mk (below_step (by repeat (first | (with_reducible first | exact HB.out | apply below_alloc | apply pw_below_drewN | apply below_drew1) | exact HB.out)) hb); clear HO115; clear HO120; clear HO122; clear HO125; clear HO128; clear HO131; clear HB; have HO115 := n0_; have HO120 := n1_; have HO122 := n2_; have HO125 := n3_; have HO128 := n4_; have HO131 := n5_; have HO134 := n6_; have HB := n7_; clear n0_ n1_ n2_ n3_ n4_ n5_ n6_ n7_; clear hb ho22; obtain ⟨Ao23, co23, eo23⟩ := Kd.R_slice HO125.out; subst eo23; obtain ⟨Ao24, co24, eo24⟩ := Kd.R_slice HO128.out; subst eo24; obtain ⟨Ao25, co25, eo25⟩ := Kd.R_slice HO131.out; subst eo25; obtain ⟨Ao26, co26, eo26⟩ := Kd.R_slice HO134.out; subst eo26) | ((with_reducible refine gate_dst (N := 23) rfl ?_); (try (refine gate_guard (by rfl) ?_; dsimp only)); refine Kd.N_lit (Kd.slice 3 (Kd.int .i64)) _ 32 ?hg (N' := 23) ?hd (xs := ([y123, y126, y129, y132] : List (List Int))) (inner := [.slice Ao23 y123.length co23, .slice Ao24 y126.length co24, .slice Ao25 y129.length co25, .slice Ao26 y132.length co26]) (ok := (fun k_ => some k_ ≠ (.slice Ao13 y113.length co13 : Value).ownBlock ∧ some k_ ≠ (v119 : Value).ownBlock ∧ some k_ ≠ (v121 : Value).ownBlock)) (okp := (fun k_ => some k_ ≠ (.slice Ao13 y113.length co13 : Value).ownBlock ∧ some k_ ≠ (v119 : Value).ownBlock ∧ some k_ ≠ (v121 : Value).ownBlock)) ?hr ?hp (fun _ hk => hk) ((show ∀ k_, w21.heap.size ≤ k_ → (fun k_ => some k_ ≠ (.slice Ao13 y113.length co13 : Value).ownBlock ∧ some k_ ≠ (v119 : Value).ownBlock ∧ some k_ ≠ (v121 : Value).ownBlock) k_ from fun k_ hk => ⟨Kd.fresh' (Kd.N_lt (by (with_reducible repeat (first | apply Kd.N_alloc | apply Kd.N_drewN | apply Kd.N_drew)); exact HO115.out)) k_ hk, Kd.fresh' (Kd.R_lt (by (with_reducible repeat (first | apply Kd.R_alloc | apply Kd.R_drewN | apply Kd.R_drew)); exact HO120.out)) k_ hk, Kd.fresh' (Kd.N_lt (by (with_reducible repeat (first | apply Kd.N_alloc | apply Kd.N_drewN | apply Kd.N_drew)); exact HO122.out)) k_ hk⟩) _ (Nat.le_refl _)) (Below.refl _ _) (Nat.le_refl _) (by simp) ?_; (case hd => rfl); (case hg => rfl); (case hr => first | (go_simp; done) | (go_simp; rfl)); (case hp => exact (Reps.one (show Kd.FK (Kd.slice 3 (Kd.int .i64)) _ _ y123 [.slice Ao23 y123.length co23] from (Kd.FK_slice_mk (Kd.R_reads' (Kd.R_mono (ok' := (fun k_ => some k_ ≠ (.slice Ao13 y113.length co13 : Value).ownBlock ∧ some k_ ≠ (v119 : Value).ownBlock ∧ some k_ ≠ (v121 : Value).ownBlock)) (Kd.R_apart' (Kd.R_apart' (Kd.R_apart' (HO125.out) (Kd.N_typed HO115.out) (by decide)) (Kd.R_typed HO120.out) (by decide)) (Kd.N_typed HO122.out) (by decide)) (fun k_ hk => ⟨hk.1.1.2, ⟨hk.1.2, hk.2⟩⟩))).2.1 (Kd.R_F (Kd.R_mono (ok' := (fun k_ => some k_ ≠ (.slice Ao13 y113.length co13 : Value).ownBlock ∧ some k_ ≠ (v119 : Value).ownBlock ∧ some k_ ≠ (v121 : Value).ownBlock)) (Kd.R_apart' (Kd.R_apart' (Kd.R_apart' (HO125.out) (Kd.N_typed HO115.out) (by decide)) (Kd.R_typed HO120.out) (by decide)) (Kd.N_typed HO122.out) (by decide)) (fun k_ hk => ⟨hk.1.1.2, ⟨hk.1.2, hk.2⟩⟩))))) (Reps.one (show Kd.FK (Kd.slice 3 (Kd.int .i64)) _ _ y126 [.slice Ao24 y126.length co24] from (Kd.FK_slice_mk (Kd.R_reads' (Kd.R_mono (ok' := (fun k_ => some k_ ≠ (.slice Ao13 y113.length co13 : Value).ownBlock ∧ some k_ ≠ (v119 : Value).ownBlock ∧ some k_ ≠ (v121 : Value).ownBlock)) (Kd.R_apart' (Kd.R_apart' (Kd.R_apart' (HO128.out) (Kd.N_typed HO115.out) (by decide)) (Kd.R_typed HO120.out) (by decide)) (Kd.N_typed HO122.out) (by decide)) (fun k_ hk => ⟨hk.1.1.2, ⟨hk.1.2, hk.2⟩⟩))).2.1 (Kd.R_F (Kd.R_mono (ok' := (fun k_ => some k_ ≠ (.slice Ao13 y113.length co13 : Value).ownBlock ∧ some k_ ≠ (v119 : Value).ownBlock ∧ some k_ ≠ (v121 : Value).ownBlock)) (Kd.R_apart' (Kd.R_apart' (Kd.R_apart' (HO128.out) (Kd.N_typed HO115.out) (by decide)) (Kd.R_typed HO120.out) (by decide)) (Kd.N_typed HO122.out) (by decide)) (fun k_ hk => ⟨hk.1.1.2, ⟨hk.1.2, hk.2⟩⟩))))) (Reps.one (show Kd.FK (Kd.slice 3 (Kd.int .i64)) _ _ y129 [.slice Ao25 y129.length co25] from (Kd.FK_slice_mk (Kd.R_reads' (Kd.R_mono (ok' := (fun k_ => some k_ ≠ (.slice Ao13 y113.length co13 : Value).ownBlock ∧ some k_ ≠ (v119 : Value).ownBlock ∧ some k_ ≠ (v121 : Value).ownBlock)) (Kd.R_apart' (Kd.R_apart' (Kd.R_apart' (HO131.out) (Kd.N_typed HO115.out) (by decide)) (Kd.R_typed HO120.out) (by decide)) (Kd.N_typed HO122.out) (by decide)) (fun k_ hk => ⟨hk.1.1.2, ⟨hk.1.2, hk.2⟩⟩))).2.1 (Kd.R_F (Kd.R_mono (ok' := (fun k_ => some k_ ≠ (.slice Ao13 y113.length co13 : Value).ownBlock ∧ some k_ ≠ (v119 : Value).ownBlock ∧ some k_ ≠ (v121 : Value).ownBlock)) (Kd.R_apart' (Kd.R_apart' (Kd.R_apart' (HO131.out) (Kd.N_typed HO115.out) (by decide)) (Kd.R_typed HO120.out) (by decide)) (Kd.N_typed HO122.out) (by decide)) (fun k_ hk => ⟨hk.1.1.2, ⟨hk.1.2, hk.2⟩⟩))))) (Reps.one (show Kd.FK (Kd.slice 3 (Kd.int .i64)) _ _ y132 [.slice Ao26 y132.length co26] from (Kd.FK_slice_mk (Kd.R_reads' (Kd.R_mono (ok' := (fun k_ => some k_ ≠ (.slice Ao13 y113.length co13 : Value).ownBlock ∧ some k_ ≠ (v119 : Value).ownBlock ∧ some k_ ≠ (v121 : Value).ownBlock)) (Kd.R_apart' (Kd.R_apart' (Kd.R_apart' (HO134.out) (Kd.N_typed HO115.out) (by decide)) (Kd.R_typed HO120.out) (by decide)) (Kd.N_typed HO122.out) (by decide)) (fun k_ hk => ⟨hk.1.1.2, ⟨hk.1.2, hk.2⟩⟩))).2.1 (Kd.R_F (Kd.R_mono (ok' := (fun k_ => some k_ ≠ (.slice Ao13 y113.length co13 : Value).ownBlock ∧ some k_ ≠ (v119 : Value).ownBlock ∧ some k_ ≠ (v121 : Value).ownBlock)) (Kd.R_apart' (Kd.R_apart' (Kd.R_apart' (HO134.out) (Kd.N_typed HO115.out) (by decide)) (Kd.R_typed HO120.out) (by decide)) (Kd.N_typed HO122.out) (by decide)) (fun k_ hk => ⟨hk.1.1.2, ⟨hk.1.2, hk.2⟩⟩))))) (Reps.none _ _)))))); intro v136 w27 ho28 hb hg_ hnew_; clear hg_ hnew_; (first | rw [← Ny135.out] at ho28 | (simp only [Int.reduceToNat] at ho28; rw [← Ny135.out] at ho28)); have n0_ := Aside0.mk (Kd.N_elder' (by (with_reducible repeat (first | apply Kd.N_alloc | apply Kd.N_drewN | apply Kd.N_drew)); exact HO115.out) (Kd.N_base ho28) hb); have n1_ := Aside0.mk (Kd.R_below (by (with_reducible repeat (first | apply Kd.R_alloc | apply Kd.R_drewN | apply Kd.R_drew)); exact HO120.out) hb); have n2_ := Aside0.mk (Kd.N_elder' (by (with_reducible repeat (first | apply Kd.N_alloc | apply Kd.N_drewN | apply Kd.N_drew)); exact HO122.out) (Kd.N_base ho28) hb); have n3_ := Aside0.mk (Kd.N_lower ho28 (below_size (by repeat (first | (with_reducible first | exact HB.out | apply below_alloc | apply pw_below_drewN | apply below_drew1) | exact HB.out)))); have n4_ := Aside0.mk (below_step (by repeat (first | (with_reducible first | exact HB.out | apply below_alloc | apply pw_below_drewN | apply below_drew1) | exact HB.out)) hb); clear HO115; clear HO120; clear HO122; clear HB; clear HO125; clear HO128; clear HO131; clear HO134; have HO115 := n0_; have HO120 := n1_; have HO122 := n2_; have HO137 := n3_; have HB := n4_; clear n0_ n1_ n2_ n3_ n4_; clear hb ho28; obtain ⟨Ao29, co29, eo29⟩ := Kd.N_slice HO137.out; subst eo29) | ((with_reducible refine gate_callee (f := 14) rfl ?_); refine goesL_ (some 24) rfl rfl Try.func14 (by kernel_rfl) rfl #[.slice Ao29 y135.length co29, .int .i64 2, .int .i64 100] rfl (by (try simp only [List.map_toArray, List.map_cons, List.map_nil]); first | done | rfl | (simp only [List.length_drop, List.length_take]; rfl)) ?_; (with_reducible refine (sat_Solve.calls k _ _ y135 2 100 t138 t139 t140 _ ?side1 ?side2 A2.out).mono ?_); (case side1 => repeat (first | exact (Kd.N_reads' HO137.out).2.2 | (with_reducible refine Kd.C_alloc ?_ _) | (with_reducible refine Kd.C_drewN ?_ _) | (with_reducible refine Kd.C_drew ?_))); (case side2 => exact (Kd.N_reads' HO137.out).2.1); rintro e w30 ⟨v141, v143, rfl, ho0, ho1, hb⟩; refine ⟨_, rfl, ?_⟩; have n0_ := Aside0.mk (Kd.N_mono (Kd.N_told (Kd.N_told (Kd.N_old (by (with_reducible repeat (first | apply Kd.N_alloc | apply Kd.N_drewN | apply Kd.N_drew)); exact HO115.out) hb) (Kd.R_base ho0)) (Kd.N_base (Kd.S_N ho1))) (fun _ h_ => h_.1)); have n1_ := Aside0.mk (Kd.R_elder' (by (with_reducible repeat (first | apply Kd.R_alloc | apply Kd.R_drewN | apply Kd.R_drew)); exact HO120.out) (Kd.R_base ho0) hb); have n2_ := Aside0.mk (Kd.N_mono (Kd.N_told (Kd.N_told (Kd.N_old (by (with_reducible repeat (first | apply Kd.N_alloc | apply Kd.N_drewN | apply Kd.N_drew)); exact HO122.out) hb) (Kd.R_base ho0)) (Kd.N_base (Kd.S_N ho1))) (fun _ h_ => h_.1)); have n3_ := Aside0.mk (Kd.N_mono (Kd.N_told (Kd.N_told (Kd.N_old (by (with_reducible repeat (first | apply Kd.N_alloc | apply Kd.N_drewN | apply Kd.N_drew)); exact HO137.out) hb) (Kd.R_base ho0)) (Kd.N_base (Kd.S_N ho1))) (fun _ h_ => h_.1)); have n4_ := Aside0.mk (Kd.R_lower (Kd.R_new' ho0 (Kd.R_lt (by (with_reducible repeat (first | apply Kd.R_alloc | apply Kd.R_drewN | apply Kd.R_drew)); exact HO120.out))) (below_size (by repeat (first | (with_reducible first | exact HB.out | apply below_alloc | apply pw_below_drewN | apply below_drew1) | exact HB.out)))); have n5_ := Aside0.mk (Kd.N_lower (Kd.N_mono (ok' := fun k_ => some k_ ≠ (v141 : Value).ownBlock ∧ some k_ ≠ (.slice Ao13 y113.length co13 : Value).ownBlock ∧ some k_ ≠ (v119 : Value).ownBlock ∧ some k_ ≠ (v121 : Value).ownBlock ∧ some k_ ≠ (.slice Ao29 y135.length co29 : Value).ownBlock) (Kd.S_N (Kd.S_bound (Kd.S_apart' ho1 (Kd.R_typed ho0) (by decide)))) (fun k_ hk_ => ⟨hk_.1.2, (Kd.fresh' (Kd.N_lt (by (with_reducible repeat (first | apply Kd.N_alloc | apply Kd.N_drewN | apply Kd.N_drew)); exact HO115.out)) k_ hk_.2.1), (Kd.fresh' (Kd.R_lt (by (with_reducible repeat (first | apply Kd.R_alloc | apply Kd.R_drewN | apply Kd.R_drew)); exact HO120.out)) k_ hk_.2.1), (Kd.fresh' (Kd.N_lt (by (with_reducible repeat (first | apply Kd.N_alloc | apply Kd.N_drewN | apply Kd.N_drew)); exact HO122.out)) k_ hk_.2.1), (Kd.fresh' (Kd.N_lt (by (with_reducible repeat (first | apply Kd.N_alloc | apply Kd.N_drewN | apply Kd.N_drew)); exact HO137.out)) k_ hk_.2.1)⟩)) (below_size (by repeat (first | (with_reducible first | exact HB.out | apply below_alloc | apply pw_below_drewN | apply below_drew1) | exact HB.out)))); have n6_ := Aside0.mk (below_step (by repeat (first | (with_reducible first | exact HB.out | apply below_alloc | apply pw_below_drewN | apply below_drew1) | exact HB.out)) hb); clear HO115; clear HO120; clear HO122; clear HO137; clear HB; have HO115 := n0_; have HO120 := n1_; have HO122 := n2_; have HO137 := n3_; have HO142 := n4_; have HO144 := n5_; have HB := n6_; clear n0_ n1_ n2_ n3_ n4_ n5_ n6_; (try clear hb); (try clear hb2); (try clear hk); (try clear hi); (try clear ho0); (try clear ho1)) | ((with_reducible refine gate_dst (N := 29) rfl ?_); (try (refine gate_guard (by rfl) ?_; dsimp only)); refine Kd.R_lit (Kd.int .i64) _ 3 ?hg (N := 29) ?hd (xs := ([3] : List Int)) (inner := [.int .i64 3]) (ok := fun _ => True) (okp := fun _ => True) ?hr ?hp (fun _ hk => hk) trivial (Below.refl _ _) (Nat.le_refl _) (by simp) ?_; (case hd => rfl); (case hg => rfl); (case hr => first | (go_simp; done) | (go_simp; rfl)); (case hp => exact (Reps.one (show Kd.M (Kd.int .i64) _ _ _ 3 [.int .i64 3] from rfl) (Reps.none _ _))); intro v146 w31 ho32 hb hg_ hnew_; clear hg_ hnew_; (first | rw [← Ny145.out] at ho32 | (simp only [Int.reduceToNat] at ho32; rw [← Ny145.out] at ho32)); have n0_ := Aside0.mk (Kd.N_elder' (by (with_reducible repeat (first | apply Kd.N_alloc | apply Kd.N_drewN | apply Kd.N_drew)); exact HO115.out) (Kd.R_base ho32) hb); have n1_ := Aside0.mk (Kd.R_below (by (with_reducible repeat (first | apply Kd.R_alloc | apply Kd.R_drewN | apply Kd.R_drew)); exact HO120.out) hb); have n2_ := Aside0.mk (Kd.N_elder' (by (with_reducible repeat (first | apply Kd.N_alloc | apply Kd.N_drewN | apply Kd.N_drew)); exact HO122.out) (Kd.R_base ho32) hb); have n3_ := Aside0.mk (Kd.N_elder' (by (with_reducible repeat (first | apply Kd.N_alloc | apply Kd.N_drewN | apply Kd.N_drew)); exact HO137.out) (Kd.R_base ho32) hb); have n4_ := Aside0.mk (Kd.R_below (by (with_reducible repeat (first | apply Kd.R_alloc | apply Kd.R_drewN | apply Kd.R_drew)); exact HO142.out) hb); have n5_ := Aside0.mk (Kd.N_elder' (by (with_reducible repeat (first | apply Kd.N_alloc | apply Kd.N_drewN | apply Kd.N_drew)); exact HO144.out) (Kd.R_base ho32) hb); have n6_ := Aside0.mk (Kd.R_lower ho32 (below_size (by repeat (first | (with_reducible first | exact HB.out | apply below_alloc | apply pw_below_drewN | apply below_drew1) | exact HB.out)))); have n7_ := Aside0.mk (below_step (by repeat (first | (with_reducible first | exact HB.out | apply below_alloc | apply pw_below_drewN | apply below_drew1) | exact HB.out)) hb); clear HO115; clear HO120; clear HO122; clear HO137; clear HO142; clear HO144; clear HB; have HO115 := n0_; have HO120 := n1_; have HO122 := n2_; have HO137 := n3_; have HO142 := n4_; have HO144 := n5_; have HO147 := n6_; have HB := n7_; clear n0_ n1_ n2_ n3_ n4_ n5_ n6_ n7_; clear hb ho32; obtain ⟨Ao33, co33, eo33⟩ := Kd.R_slice HO147.out; subst eo33) | ((with_reducible refine gate_dst (N := 30) rfl ?_); (try (refine gate_guard (by rfl) ?_; dsimp only)); refine Kd.N_lit (Kd.slice 3 (Kd.int .i64)) _ 32 ?hg (N' := 30) ?hd (xs := ([y145] : List (List Int))) (inner := [.slice Ao33 y145.length co33]) (ok := (fun k_ => some k_ ≠ (.slice Ao13 y113.length co13 : Value).ownBlock ∧ some k_ ≠ (v119 : Value).ownBlock ∧ some k_ ≠ (v121 : Value).ownBlock ∧ some k_ ≠ (.slice Ao29 y135.length co29 : Value).ownBlock ∧ some k_ ≠ (v141 : Value).ownBlock ∧ some k_ ≠ (v143 : Value).ownBlock)) (okp := (fun k_ => some k_ ≠ (.slice Ao13 y113.length co13 : Value).ownBlock ∧ some k_ ≠ (v119 : Value).ownBlock ∧ some k_ ≠ (v121 : Value).ownBlock ∧ some k_ ≠ (.slice Ao29 y135.length co29 : Value).ownBlock ∧ some k_ ≠ (v141 : Value).ownBlock ∧ some k_ ≠ (v143 : Value).ownBlock)) ?hr ?hp (fun _ hk => hk) ((show ∀ k_, w31.heap.size ≤ k_ → (fun k_ => some k_ ≠ (.slice Ao13 y113.length co13 : Value).ownBlock ∧ some k_ ≠ (v119 : Value).ownBlock ∧ some k_ ≠ (v121 : Value).ownBlock ∧ some k_ ≠ (.slice Ao29 y135.length co29 : Value).ownBlock ∧ some k_ ≠ (v141 : Value).ownBlock ∧ some k_ ≠ (v143 : Value).ownBlock) k_ from fun k_ hk => ⟨Kd.fresh' (Kd.N_lt (by (with_reducible repeat (first | apply Kd.N_alloc | apply Kd.N_drewN | apply Kd.N_drew)); exact HO115.out)) k_ hk, Kd.fresh' (Kd.R_lt (by (with_reducible repeat (first | apply Kd.R_alloc | apply Kd.R_drewN | apply Kd.R_drew)); exact HO120.out)) k_ hk, Kd.fresh' (Kd.N_lt (by (with_reducible repeat (first | apply Kd.N_alloc | apply Kd.N_drewN | apply Kd.N_drew)); exact HO122.out)) k_ hk, Kd.fresh' (Kd.N_lt (by (with_reducible repeat (first | apply Kd.N_alloc | apply Kd.N_drewN | apply Kd.N_drew)); exact HO137.out)) k_ hk, Kd.fresh' (Kd.R_lt (by (with_reducible repeat (first | apply Kd.R_alloc | apply Kd.R_drewN | apply Kd.R_drew)); exact HO142.out)) k_ hk, Kd.fresh' (Kd.N_lt (by (with_reducible repeat (first | apply Kd.N_alloc | apply Kd.N_drewN | apply Kd.N_drew)); exact HO144.out)) k_ hk⟩) _ (Nat.le_refl _)) (Below.refl _ _) (Nat.le_refl _) (by simp) ?_; (case hd => rfl); (case hg => rfl); (case hr => first | (go_simp; done) | (go_simp; rfl)); (case hp => exact (Reps.one (show Kd.FK (Kd.slice 3 (Kd.int .i64)) _ _ y145 [.slice Ao33 y145.length co33] from (Kd.FK_slice_mk (Kd.R_reads' (Kd.R_mono (ok' := (fun k_ => some k_ ≠ (.slice Ao13 y113.length co13 : Value).ownBlock ∧ some k_ ≠ (v119 : Value).ownBlock ∧ some k_ ≠ (v121 : Value).ownBlock ∧ some k_ ≠ (.slice Ao29 y135.length co29 : Value).ownBlock ∧ some k_ ≠ (v141 : Value).ownBlock ∧ some k_ ≠ (v143 : Value).ownBlock)) (Kd.R_apart' (Kd.R_apart' (Kd.R_apart' (Kd.R_apart' (Kd.R_apart' (Kd.R_apart' (HO147.out) (Kd.N_typed HO115.out) (by decide)) (Kd.R_typed HO120.out) (by decide)) (Kd.N_typed HO122.out) (by decide)) (Kd.N_typed HO137.out) (by decide)) (Kd.R_typed HO142.out) (by decide)) (Kd.N_typed HO144.out) (by decide)) (fun k_ hk => ⟨hk.1.1.1.1.1.2, ⟨hk.1.1.1.1.2, ⟨hk.1.1.1.2, ⟨hk.1.1.2, ⟨hk.1.2, hk.2⟩⟩⟩⟩⟩))).2.1 (Kd.R_F (Kd.R_mono (ok' := (fun k_ => some k_ ≠ (.slice Ao13 y113.length co13 : Value).ownBlock ∧ some k_ ≠ (v119 : Value).ownBlock ∧ some k_ ≠ (v121 : Value).ownBlock ∧ some k_ ≠ (.slice Ao29 y135.length co29 : Value).ownBlock ∧ some k_ ≠ (v141 : Value).ownBlock ∧ some k_ ≠ (v143 : Value).ownBlock)) (Kd.R_apart' (Kd.R_apart' (Kd.R_apart' (Kd.R_apart' (Kd.R_apart' (Kd.R_apart' (HO147.out) (Kd.N_typed HO115.out) (by decide)) (Kd.R_typed HO120.out) (by decide)) (Kd.N_typed HO122.out) (by decide)) (Kd.N_typed HO137.out) (by decide)) (Kd.R_typed HO142.out) (by decide)) (Kd.N_typed HO144.out) (by decide)) (fun k_ hk => ⟨hk.1.1.1.1.1.2, ⟨hk.1.1.1.1.2, ⟨hk.1.1.1.2, ⟨hk.1.1.2, ⟨hk.1.2, hk.2⟩⟩⟩⟩⟩))))) (Reps.none _ _))); intro v149 w34 ho35 hb hg_ hnew_; clear hg_ hnew_; (first | rw [← Ny148.out] at ho35 | (simp only [Int.reduceToNat] at ho35; rw [← Ny148.out] at ho35)); have n0_ := Aside0.mk (Kd.N_elder' (by (with_reducible repeat (first | apply Kd.N_alloc | apply Kd.N_drewN | apply Kd.N_drew)); exact HO115.out) (Kd.N_base ho35) hb); have n1_ := Aside0.mk (Kd.R_below (by (with_reducible repeat (first | apply Kd.R_alloc | apply Kd.R_drewN | apply Kd.R_drew)); exact HO120.out) hb); have n2_ := Aside0.mk (Kd.N_elder' (by (with_reducible repeat (first | apply Kd.N_alloc | apply Kd.N_drewN | apply Kd.N_drew)); exact HO122.out) (Kd.N_base ho35) hb); have n3_ := Aside0.mk (Kd.N_elder' (by (with_reducible repeat (first | apply Kd.N_alloc | apply Kd.N_drewN | apply Kd.N_drew)); exact HO137.out) (Kd.N_base ho35) hb); have n4_ := Aside0.mk (Kd.R_below (by (with_reducible repeat (first | apply Kd.R_alloc | apply Kd.R_drewN | apply Kd.R_drew)); exact HO142.out) hb); have n5_ := Aside0.mk (Kd.N_elder' (by (with_reducible repeat (first | apply Kd.N_alloc | apply Kd.N_drewN | apply Kd.N_drew)); exact HO144.out) (Kd.N_base ho35) hb); have n6_ := Aside0.mk (Kd.N_lower ho35 (below_size (by repeat (first | (with_reducible first | exact HB.out | apply below_alloc | apply pw_below_drewN | apply below_drew1) | exact HB.out)))); have n7_ := Aside0.mk (below_step (by repeat (first | (with_reducible first | exact HB.out | apply below_alloc | apply pw_below_drewN | apply below_drew1) | exact HB.out)) hb); clear HO115; clear HO120; clear HO122; clear HO137; clear HO142; clear HO144; clear HB; clear HO147; have HO115 := n0_; have HO120 := n1_; have HO122 := n2_; have HO137 := n3_; have HO142 := n4_; have HO144 := n5_; have HO150 := n6_; have HB := n7_; clear n0_ n1_ n2_ n3_ n4_ n5_ n6_ n7_; clear hb ho35; obtain ⟨Ao36, co36, eo36⟩ := Kd.N_slice HO150.out; subst eo36) | ((with_reducible refine gate_callee (f := 14) rfl ?_); refine goesL_ (some 31) rfl rfl Try.func14 (by kernel_rfl) rfl #[.slice Ao36 y148.length co36, .int .i64 2, .int .i64 100] rfl (by (try simp only [List.map_toArray, List.map_cons, List.map_nil]); first | done | rfl | (simp only [List.length_drop, List.length_take]; rfl)) ?_; (with_reducible refine (sat_Solve.calls k _ _ y148 2 100 t151 t152 t153 _ ?side1 ?side2 A3.out).mono ?_); (case side1 => repeat (first | exact (Kd.N_reads' HO150.out).2.2 | (with_reducible refine Kd.C_alloc ?_ _) | (with_reducible refine Kd.C_drewN ?_ _) | (with_reducible refine Kd.C_drew ?_))); (case side2 => exact (Kd.N_reads' HO150.out).2.1); rintro e w37 ⟨v154, v156, rfl, ho0, ho1, hb⟩; refine ⟨_, rfl, ?_⟩; have n0_ := Aside0.mk (Kd.N_mono (Kd.N_told (Kd.N_told (Kd.N_old (by (with_reducible repeat (first | apply Kd.N_alloc | apply Kd.N_drewN | apply Kd.N_drew)); exact HO115.out) hb) (Kd.R_base ho0)) (Kd.N_base (Kd.S_N ho1))) (fun _ h_ => h_.1)); have n1_ := Aside0.mk (Kd.R_elder' (by (with_reducible repeat (first | apply Kd.R_alloc | apply Kd.R_drewN | apply Kd.R_drew)); exact HO120.out) (Kd.R_base ho0) hb); have n2_ := Aside0.mk (Kd.N_mono (Kd.N_told (Kd.N_told (Kd.N_old (by (with_reducible repeat (first | apply Kd.N_alloc | apply Kd.N_drewN | apply Kd.N_drew)); exact HO122.out) hb) (Kd.R_base ho0)) (Kd.N_base (Kd.S_N ho1))) (fun _ h_ => h_.1)); have n3_ := Aside0.mk (Kd.N_mono (Kd.N_told (Kd.N_told (Kd.N_old (by (with_reducible repeat (first | apply Kd.N_alloc | apply Kd.N_drewN | apply Kd.N_drew)); exact HO137.out) hb) (Kd.R_base ho0)) (Kd.N_base (Kd.S_N ho1))) (fun _ h_ => h_.1)); have n4_ := Aside0.mk (Kd.R_elder' (by (with_reducible repeat (first | apply Kd.R_alloc | apply Kd.R_drewN | apply Kd.R_drew)); exact HO142.out) (Kd.R_base ho0) hb); have n5_ := Aside0.mk (Kd.N_mono (Kd.N_told (Kd.N_told (Kd.N_old (by (with_reducible repeat (first | apply Kd.N_alloc | apply Kd.N_drewN | apply Kd.N_drew)); exact HO144.out) hb) (Kd.R_base ho0)) (Kd.N_base (Kd.S_N ho1))) (fun _ h_ => h_.1)); have n6_ := Aside0.mk (Kd.N_mono (Kd.N_told (Kd.N_told (Kd.N_old (by (with_reducible repeat (first | apply Kd.N_alloc | apply Kd.N_drewN | apply Kd.N_drew)); exact HO150.out) hb) (Kd.R_base ho0)) (Kd.N_base (Kd.S_N ho1))) (fun _ h_ => h_.1)); have n7_ := Aside0.mk (Kd.R_lower (Kd.R_new' (Kd.R_new' ho0 (Kd.R_lt (by (with_reducible repeat (first | apply Kd.R_alloc | apply Kd.R_drewN | apply Kd.R_drew)); exact HO120.out))) (Kd.R_lt (by (with_reducible repeat (first | apply Kd.R_alloc | apply Kd.R_drewN | apply Kd.R_drew)); exact HO142.out))) (below_size (by repeat (first | (with_reducible first | exact HB.out | apply below_alloc | apply pw_below_drewN | apply below_drew1) | exact HB.out)))); have n8_ := Aside0.mk (Kd.N_lower (Kd.N_mono (ok' := fun k_ => some k_ ≠ (v154 : Value).ownBlock ∧ some k_ ≠ (.slice Ao13 y113.length co13 : Value).ownBlock ∧ some k_ ≠ (v119 : Value).ownBlock ∧ some k_ ≠ (v121 : Value).ownBlock ∧ some k_ ≠ (.slice Ao29 y135.length co29 : Value).ownBlock ∧ some k_ ≠ (v141 : Value).ownBlock ∧ some k_ ≠ (v143 : Value).ownBlock ∧ some k_ ≠ (.slice Ao36 y148.length co36 : Value).ownBlock) (Kd.S_N (Kd.S_bound (Kd.S_apart' ho1 (Kd.R_typed ho0) (by decide)))) (fun k_ hk_ => ⟨hk_.1.2, (Kd.fresh' (Kd.N_lt (by (with_reducible repeat (first | apply Kd.N_alloc | apply Kd.N_drewN | apply Kd.N_drew)); exact HO115.out)) k_ hk_.2.1), (Kd.fresh' (Kd.R_lt (by (with_reducible repeat (first | apply Kd.R_alloc | apply Kd.R_drewN | apply Kd.R_drew)); exact HO120.out)) k_ hk_.2.1), (Kd.fresh' (Kd.N_lt (by (with_reducible repeat (first | apply Kd.N_alloc | apply Kd.N_drewN | apply Kd.N_drew)); exact HO122.out)) k_ hk_.2.1), (Kd.fresh' (Kd.N_lt (by (with_reducible repeat (first | apply Kd.N_alloc | apply Kd.N_drewN | apply Kd.N_drew)); exact HO137.out)) k_ hk_.2.1), (Kd.fresh' (Kd.R_lt (by (with_reducible repeat (first | apply Kd.R_alloc | apply Kd.R_drewN | apply Kd.R_drew)); exact HO142.out)) k_ hk_.2.1), (Kd.fresh' (Kd.N_lt (by (with_reducible repeat (first | apply Kd.N_alloc | apply Kd.N_drewN | apply Kd.N_drew)); exact HO144.out)) k_ hk_.2.1), (Kd.fresh' (Kd.N_lt (by (with_reducible repeat (first | apply Kd.N_alloc | apply Kd.N_drewN | apply Kd.N_drew)); exact HO150.out)) k_ hk_.2.1)⟩)) (below_size (by repeat (first | (with_reducible first | exact HB.out | apply below_alloc | apply pw_below_drewN | apply below_drew1) | exact HB.out)))); have n9_ := Aside0.mk (below_step (by repeat (first | (with_reducible first | exact HB.out | apply below_alloc | apply pw_below_drewN | apply below_drew1) | exact HB.out)) hb); clear HO115; clear HO120; clear HO122; clear HO137; clear HO142; clear HO144; clear HO150; clear HB; have HO115 := n0_; have HO120 := n1_; have HO122 := n2_; have HO137 := n3_; have HO142 := n4_; have HO144 := n5_; have HO150 := n6_; have HO155 := n7_; have HO157 := n8_; have HB := n9_; clear n0_ n1_ n2_ n3_ n4_ n5_ n6_ n7_ n8_ n9_; (try clear hb); (try clear hb2); (try clear hk); (try clear hi); (try clear ho0); (try clear ho1)))
 (try simp only [Act.put, List.setIfInBounds_toArray, List.set_cons_zero, List.set_cons_succ])
 go_cut [0] (fun v0 wc => ∃ (kq : Nat) (x0_3 : Bool), v0 = .bool x0_3 ∧ Aside0 (ashlarlaw09_shown.j0 kq x0_3 = some r) ∧ Aside0 (kq ≤ k) ∧ Aside0 (Below w.heap.size w wc))
 case first =>
  have H := HC4.out
  clear HC4
  by_cases c38 : t116 = 1
  ·rw [if_pos c38] at H
   have c38b0 : (t116 == 1) = true := beq_iff_eq.mpr c38
   have c38b1 : (t116 != 1) = false := bne_eq_false_iff_eq.mpr c38
   clear c38
   (first | rw [c38b0] | (simp only [i64_w, i32_w]; rw [c38b0]) | skip)
   by_cases c39 : (t117.length : Int) = 3
   ·rw [if_pos c39] at H
    have c39b0 : ((t117.length : Int) == 3) = true := beq_iff_eq.mpr c39
    have c39b1 : ((t117.length : Int) != 3) = false := bne_eq_false_iff_eq.mpr c39
    clear c39
    by_cases c40 : 1 < (t117.length : Int)
    ·rw [if_pos c40] at H
     have c40b0 : decide (1 < (t117.length : Int)) = true := decide_eq_true c40
     have c40b1 : decide (1 < t117.length) = true := decide_eq_true (by omega)
     clear c40
     obtain ⟨bq41, hbq41⟩ : ∃ b_ : Bool, b_ = (rdOf false t117 1) := ⟨_, rfl⟩
     replace H : (if bq41 = true then (ashlarlaw09_shown.j0 k false) else (if 2 < (t117.length : Int) then (if rdOf false t117 2 = true then (if (t118.length : Int) = 0 then (if t138 = 2 then (if (t139.length : Int) = 0 then (if (t140.length : Int) > 0 then (ashlarlaw09_shown.j0 k (t151 == 0)) else (ashlarlaw09_shown.j0 k false)) else (ashlarlaw09_shown.j0 k false)) else (ashlarlaw09_shown.j0 k false)) else (ashlarlaw09_shown.j0 k false)) else (ashlarlaw09_shown.j0 k false)) else (none))) = some r := by rw [← hbq41] at H; exact H
     have Nbq41 := Aside0.mk hbq41
     clear hbq41
     by_cases c42 : bq41 = true
     ·subst c42
      have H1 : (ashlarlaw09_shown.j0 k false) = some r := by rw [if_pos rfl] at H; exact H
      clear H
      have H := H1
      clear H1
      have H' := Aside0.mk H
      clear H
      obtain ⟨Ao43, co43, eo43⟩ := Kd.R_slice HO120.out
      subst eo43
      have p158 : 0 ≤ (1 : Int) := (by omega)
      have q158 : 1 < (t117.length : Int) := of_decide_eq_true (by first | (with_reducible assumption) | assumption)
      obtain ⟨ad158, e158, hx158_0⟩ := Kd.at_bool (Kd.R_reads' HO120.out).2.2 1 p158 q158
      (try rw [← Nbq41.out] at hx158_0)
      cases e158
      (try simp only [show (1 : Int).toNat = 1 from rfl, Nat.reduceMul, Nat.reduceEqDiff, Go.Addr.add, ↓reduceIte] at hx158_0)
      have qi158 : (1 < t117.length) = True := eq_true (by omega)
      (try rw [show ((1 : Int)).toNat = 1 from rfl] at hx158_0)
      replace p158 := eq_true p158
      replace q158 := eq_true q158
      go_wp2
      go_meet
      case rel => exact ⟨_, (false), (by first | rfl | (simp; done) | (simp [*]; done)), H', ⟨by first | omega | exact Nat.le_refl _⟩, ⟨by repeat (first | (with_reducible first | exact HB.out | apply below_alloc | apply pw_below_drewN | apply below_drew1) | exact HB.out)⟩⟩
     ·replace c42 := Bool.eq_false_iff.mpr c42
      subst c42
      have H1 : (if 2 < (t117.length : Int) then (if rdOf false t117 2 = true then (if (t118.length : Int) = 0 then (if t138 = 2 then (if (t139.length : Int) = 0 then (if (t140.length : Int) > 0 then (ashlarlaw09_shown.j0 k (t151 == 0)) else (ashlarlaw09_shown.j0 k false)) else (ashlarlaw09_shown.j0 k false)) else (ashlarlaw09_shown.j0 k false)) else (ashlarlaw09_shown.j0 k false)) else (ashlarlaw09_shown.j0 k false)) else (none)) = some r := by rw [if_neg (show ¬ (false = true) by decide)] at H; exact H
      clear H
      have H := H1
      clear H1
      by_cases c44 : 2 < (t117.length : Int)
      ·rw [if_pos c44] at H
       have c44b0 : decide (2 < (t117.length : Int)) = true := decide_eq_true c44
       have c44b1 : decide (2 < t117.length) = true := decide_eq_true (by omega)
       clear c44
       obtain ⟨bq45, hbq45⟩ : ∃ b_ : Bool, b_ = (rdOf false t117 2) := ⟨_, rfl⟩
       replace H : (if bq45 = true then (if (t118.length : Int) = 0 then (if t138 = 2 then (if (t139.length : Int) = 0 then (if (t140.length : Int) > 0 then (ashlarlaw09_shown.j0 k (t151 == 0)) else (ashlarlaw09_shown.j0 k false)) else (ashlarlaw09_shown.j0 k false)) else (ashlarlaw09_shown.j0 k false)) else (ashlarlaw09_shown.j0 k false)) else (ashlarlaw09_shown.j0 k false)) = some r := by rw [← hbq45] at H; exact H
       have Nbq45 := Aside0.mk hbq45
       clear hbq45
       by_cases c46 : bq45 = true
       ·subst c46
        have H1 : (if (t118.length : Int) = 0 then (if t138 = 2 then (if (t139.length : Int) = 0 then (if (t140.length : Int) > 0 then (ashlarlaw09_shown.j0 k (t151 == 0)) else (ashlarlaw09_shown.j0 k false)) else (ashlarlaw09_shown.j0 k false)) else (ashlarlaw09_shown.j0 k false)) else (ashlarlaw09_shown.j0 k false)) = some r := by rw [if_pos rfl] at H; exact H
        clear H
        have H := H1
        clear H1
        by_cases c47 : (t118.length : Int) = 0
        ·rw [if_pos c47] at H
         have c47b0 : ((t118.length : Int) == 0) = true := beq_iff_eq.mpr c47
         have c47b1 : ((t118.length : Int) != 0) = false := bne_eq_false_iff_eq.mpr c47
         clear c47
         by_cases c48 : t138 = 2
         ·rw [if_pos c48] at H
          have c48b0 : (t138 == 2) = true := beq_iff_eq.mpr c48
          have c48b1 : (t138 != 2) = false := bne_eq_false_iff_eq.mpr c48
          clear c48
          by_cases c49 : (t139.length : Int) = 0
          ·rw [if_pos c49] at H
           have c49b0 : ((t139.length : Int) == 0) = true := beq_iff_eq.mpr c49
           have c49b1 : ((t139.length : Int) != 0) = false := bne_eq_false_iff_eq.mpr c49
           clear c49
           by_cases c50 : (t140.length : Int) > 0
           ·rw [if_pos c50] at H
            have c50b0 : decide (0 < (t140.length : Int)) = true := decide_eq_true c50
            have c50b1 : decide (0 < t140.length) = true := decide_eq_true (by omega)
            clear c50
            have H' := Aside0.mk H
            clear H
            obtain ⟨Ao51, co51, eo51⟩ := Kd.R_slice HO120.out
            subst eo51
            have p158 : 0 ≤ (1 : Int) := (by omega)
            have q158 : 1 < (t117.length : Int) := of_decide_eq_true (by first | (with_reducible assumption) | assumption)
            obtain ⟨ad158, e158, hx158_0⟩ := Kd.at_bool (Kd.R_reads' HO120.out).2.2 1 p158 q158
            (try rw [← Nbq41.out] at hx158_0)
            (try rw [← Nbq45.out] at hx158_0)
            cases e158
            (try simp only [show (1 : Int).toNat = 1 from rfl, Nat.reduceMul, Nat.reduceEqDiff, Go.Addr.add, ↓reduceIte] at hx158_0)
            have qi158 : (1 < t117.length) = True := eq_true (by omega)
            (try rw [show ((1 : Int)).toNat = 1 from rfl] at hx158_0)
            replace p158 := eq_true p158
            replace q158 := eq_true q158
            have p159 : 0 ≤ (2 : Int) := (by omega)
            have q159 : 2 < (t117.length : Int) := of_decide_eq_true (by first | (with_reducible assumption) | assumption)
            obtain ⟨ad159, e159, hx159_0⟩ := Kd.at_bool (Kd.R_reads' HO120.out).2.2 2 p159 q159
            (try rw [← Nbq41.out] at hx159_0)
            (try rw [← Nbq45.out] at hx159_0)
            obtain rfl : ad158 = ad159 := (by injection e159)
            (try simp only [show (2 : Int).toNat = 2 from rfl, Nat.reduceMul, Nat.reduceEqDiff, Go.Addr.add, ↓reduceIte] at hx159_0)
            have qi159 : (2 < t117.length) = True := eq_true (by omega)
            (try rw [show ((2 : Int)).toNat = 2 from rfl] at hx159_0)
            replace p159 := eq_true p159
            replace q159 := eq_true q159
            obtain ⟨Ao52, co52, eo52⟩ := Kd.N_slice HO122.out
            subst eo52
            obtain ⟨Ao53, co53, eo53⟩ := Kd.R_slice HO142.out
            subst eo53
            obtain ⟨Ao54, co54, eo54⟩ := Kd.N_slice HO144.out
            subst eo54
            go_wp2
            go_meet
            case rel => exact ⟨_, ((t151 == 0)), (by first | rfl | (simp; done) | (simp [*]; done)), H', ⟨by first | omega | exact Nat.le_refl _⟩, ⟨by repeat (first | (with_reducible first | exact HB.out | apply below_alloc | apply pw_below_drewN | apply below_drew1) | exact HB.out)⟩⟩
           ·rw [if_neg c50] at H
            have c50b0 : decide (0 < (t140.length : Int)) = false := decide_eq_false c50
            have c50b1 : decide (0 < t140.length) = false := decide_eq_false (by omega)
            clear c50
            have H' := Aside0.mk H
            clear H
            obtain ⟨Ao55, co55, eo55⟩ := Kd.R_slice HO120.out
            subst eo55
            have p158 : 0 ≤ (1 : Int) := (by omega)
            have q158 : 1 < (t117.length : Int) := of_decide_eq_true (by first | (with_reducible assumption) | assumption)
            obtain ⟨ad158, e158, hx158_0⟩ := Kd.at_bool (Kd.R_reads' HO120.out).2.2 1 p158 q158
            (try rw [← Nbq41.out] at hx158_0)
            (try rw [← Nbq45.out] at hx158_0)
            cases e158
            (try simp only [show (1 : Int).toNat = 1 from rfl, Nat.reduceMul, Nat.reduceEqDiff, Go.Addr.add, ↓reduceIte] at hx158_0)
            have qi158 : (1 < t117.length) = True := eq_true (by omega)
            (try rw [show ((1 : Int)).toNat = 1 from rfl] at hx158_0)
            replace p158 := eq_true p158
            replace q158 := eq_true q158
            have p159 : 0 ≤ (2 : Int) := (by omega)
            have q159 : 2 < (t117.length : Int) := of_decide_eq_true (by first | (with_reducible assumption) | assumption)
            obtain ⟨ad159, e159, hx159_0⟩ := Kd.at_bool (Kd.R_reads' HO120.out).2.2 2 p159 q159
            (try rw [← Nbq41.out] at hx159_0)
            (try rw [← Nbq45.out] at hx159_0)
            obtain rfl : ad158 = ad159 := (by injection e159)
            (try simp only [show (2 : Int).toNat = 2 from rfl, Nat.reduceMul, Nat.reduceEqDiff, Go.Addr.add, ↓reduceIte] at hx159_0)
            have qi159 : (2 < t117.length) = True := eq_true (by omega)
            (try rw [show ((2 : Int)).toNat = 2 from rfl] at hx159_0)
            replace p159 := eq_true p159
            replace q159 := eq_true q159
            obtain ⟨Ao56, co56, eo56⟩ := Kd.N_slice HO122.out
            subst eo56
            obtain ⟨Ao57, co57, eo57⟩ := Kd.R_slice HO142.out
            subst eo57
            obtain ⟨Ao58, co58, eo58⟩ := Kd.N_slice HO144.out
            subst eo58
            go_wp2
            go_meet
            case rel => exact ⟨_, (false), (by first | rfl | (simp; done) | (simp [*]; done)), H', ⟨by first | omega | exact Nat.le_refl _⟩, ⟨by repeat (first | (with_reducible first | exact HB.out | apply below_alloc | apply pw_below_drewN | apply below_drew1) | exact HB.out)⟩⟩
          ·rw [if_neg c49] at H
           have c49b0 : ((t139.length : Int) == 0) = false := beq_eq_false_iff_ne.mpr c49
           have c49b1 : ((t139.length : Int) != 0) = true := bne_iff_ne.mpr c49
           have c49b2 : ¬ (t139 = []) := fun h_ => c49 (by rw [h_]; rfl)
           have H' := Aside0.mk H
           clear H
           obtain ⟨Ao59, co59, eo59⟩ := Kd.R_slice HO120.out
           subst eo59
           have p158 : 0 ≤ (1 : Int) := (by omega)
           have q158 : 1 < (t117.length : Int) := of_decide_eq_true (by first | (with_reducible assumption) | assumption)
           obtain ⟨ad158, e158, hx158_0⟩ := Kd.at_bool (Kd.R_reads' HO120.out).2.2 1 p158 q158
           (try rw [← Nbq41.out] at hx158_0)
           (try rw [← Nbq45.out] at hx158_0)
           cases e158
           (try simp only [show (1 : Int).toNat = 1 from rfl, Nat.reduceMul, Nat.reduceEqDiff, Go.Addr.add, ↓reduceIte] at hx158_0)
           have qi158 : (1 < t117.length) = True := eq_true (by omega)
           (try rw [show ((1 : Int)).toNat = 1 from rfl] at hx158_0)
           replace p158 := eq_true p158
           replace q158 := eq_true q158
           have p159 : 0 ≤ (2 : Int) := (by omega)
           have q159 : 2 < (t117.length : Int) := of_decide_eq_true (by first | (with_reducible assumption) | assumption)
           obtain ⟨ad159, e159, hx159_0⟩ := Kd.at_bool (Kd.R_reads' HO120.out).2.2 2 p159 q159
           (try rw [← Nbq41.out] at hx159_0)
           (try rw [← Nbq45.out] at hx159_0)
           obtain rfl : ad158 = ad159 := (by injection e159)
           (try simp only [show (2 : Int).toNat = 2 from rfl, Nat.reduceMul, Nat.reduceEqDiff, Go.Addr.add, ↓reduceIte] at hx159_0)
           have qi159 : (2 < t117.length) = True := eq_true (by omega)
           (try rw [show ((2 : Int)).toNat = 2 from rfl] at hx159_0)
           replace p159 := eq_true p159
           replace q159 := eq_true q159
           obtain ⟨Ao60, co60, eo60⟩ := Kd.N_slice HO122.out
           subst eo60
           obtain ⟨Ao61, co61, eo61⟩ := Kd.R_slice HO142.out
           subst eo61
           go_wp2
           go_meet
           case rel => exact ⟨_, (false), (by first | rfl | (simp; done) | (simp [*]; done)), H', ⟨by first | omega | exact Nat.le_refl _⟩, ⟨by repeat (first | (with_reducible first | exact HB.out | apply below_alloc | apply pw_below_drewN | apply below_drew1) | exact HB.out)⟩⟩
         ·rw [if_neg c48] at H
          have c48b0 : (t138 == 2) = false := beq_eq_false_iff_ne.mpr c48
          have c48b1 : (t138 != 2) = true := bne_iff_ne.mpr c48
          have H' := Aside0.mk H
          clear H
          obtain ⟨Ao62, co62, eo62⟩ := Kd.R_slice HO120.out
          subst eo62
          have p158 : 0 ≤ (1 : Int) := (by omega)
          have q158 : 1 < (t117.length : Int) := of_decide_eq_true (by first | (with_reducible assumption) | assumption)
          obtain ⟨ad158, e158, hx158_0⟩ := Kd.at_bool (Kd.R_reads' HO120.out).2.2 1 p158 q158
          (try rw [← Nbq41.out] at hx158_0)
          (try rw [← Nbq45.out] at hx158_0)
          cases e158
          (try simp only [show (1 : Int).toNat = 1 from rfl, Nat.reduceMul, Nat.reduceEqDiff, Go.Addr.add, ↓reduceIte] at hx158_0)
          have qi158 : (1 < t117.length) = True := eq_true (by omega)
          (try rw [show ((1 : Int)).toNat = 1 from rfl] at hx158_0)
          replace p158 := eq_true p158
          replace q158 := eq_true q158
          have p159 : 0 ≤ (2 : Int) := (by omega)
          have q159 : 2 < (t117.length : Int) := of_decide_eq_true (by first | (with_reducible assumption) | assumption)
          obtain ⟨ad159, e159, hx159_0⟩ := Kd.at_bool (Kd.R_reads' HO120.out).2.2 2 p159 q159
          (try rw [← Nbq41.out] at hx159_0)
          (try rw [← Nbq45.out] at hx159_0)
          obtain rfl : ad158 = ad159 := (by injection e159)
          (try simp only [show (2 : Int).toNat = 2 from rfl, Nat.reduceMul, Nat.reduceEqDiff, Go.Addr.add, ↓reduceIte] at hx159_0)
          have qi159 : (2 < t117.length) = True := eq_true (by omega)
          (try rw [show ((2 : Int)).toNat = 2 from rfl] at hx159_0)
          replace p159 := eq_true p159
          replace q159 := eq_true q159
          obtain ⟨Ao63, co63, eo63⟩ := Kd.N_slice HO122.out
          subst eo63
          go_wp2
          go_meet
          case rel => exact ⟨_, (false), (by first | rfl | (simp; done) | (simp [*]; done)), H', ⟨by first | omega | exact Nat.le_refl _⟩, ⟨by repeat (first | (with_reducible first | exact HB.out | apply below_alloc | apply pw_below_drewN | apply below_drew1) | exact HB.out)⟩⟩
        ·rw [if_neg c47] at H
         have c47b0 : ((t118.length : Int) == 0) = false := beq_eq_false_iff_ne.mpr c47
         have c47b1 : ((t118.length : Int) != 0) = true := bne_iff_ne.mpr c47
         have c47b2 : ¬ (t118 = []) := fun h_ => c47 (by rw [h_]; rfl)
         have H' := Aside0.mk H
         clear H
         obtain ⟨Ao64, co64, eo64⟩ := Kd.R_slice HO120.out
         subst eo64
         have p158 : 0 ≤ (1 : Int) := (by omega)
         have q158 : 1 < (t117.length : Int) := of_decide_eq_true (by first | (with_reducible assumption) | assumption)
         obtain ⟨ad158, e158, hx158_0⟩ := Kd.at_bool (Kd.R_reads' HO120.out).2.2 1 p158 q158
         (try rw [← Nbq41.out] at hx158_0)
         (try rw [← Nbq45.out] at hx158_0)
         cases e158
         (try simp only [show (1 : Int).toNat = 1 from rfl, Nat.reduceMul, Nat.reduceEqDiff, Go.Addr.add, ↓reduceIte] at hx158_0)
         have qi158 : (1 < t117.length) = True := eq_true (by omega)
         (try rw [show ((1 : Int)).toNat = 1 from rfl] at hx158_0)
         replace p158 := eq_true p158
         replace q158 := eq_true q158
         have p159 : 0 ≤ (2 : Int) := (by omega)
         have q159 : 2 < (t117.length : Int) := of_decide_eq_true (by first | (with_reducible assumption) | assumption)
         obtain ⟨ad159, e159, hx159_0⟩ := Kd.at_bool (Kd.R_reads' HO120.out).2.2 2 p159 q159
         (try rw [← Nbq41.out] at hx159_0)
         (try rw [← Nbq45.out] at hx159_0)
         obtain rfl : ad158 = ad159 := (by injection e159)
         (try simp only [show (2 : Int).toNat = 2 from rfl, Nat.reduceMul, Nat.reduceEqDiff, Go.Addr.add, ↓reduceIte] at hx159_0)
         have qi159 : (2 < t117.length) = True := eq_true (by omega)
         (try rw [show ((2 : Int)).toNat = 2 from rfl] at hx159_0)
         replace p159 := eq_true p159
         replace q159 := eq_true q159
         obtain ⟨Ao65, co65, eo65⟩ := Kd.N_slice HO122.out
         subst eo65
         go_wp2
         go_meet
         case rel => exact ⟨_, (false), (by first | rfl | (simp; done) | (simp [*]; done)), H', ⟨by first | omega | exact Nat.le_refl _⟩, ⟨by repeat (first | (with_reducible first | exact HB.out | apply below_alloc | apply pw_below_drewN | apply below_drew1) | exact HB.out)⟩⟩
       ·replace c46 := Bool.eq_false_iff.mpr c46
        subst c46
        have H1 : (ashlarlaw09_shown.j0 k false) = some r := by rw [if_neg (show ¬ (false = true) by decide)] at H; exact H
        clear H
        have H := H1
        clear H1
        have H' := Aside0.mk H
        clear H
        obtain ⟨Ao66, co66, eo66⟩ := Kd.R_slice HO120.out
        subst eo66
        have p158 : 0 ≤ (1 : Int) := (by omega)
        have q158 : 1 < (t117.length : Int) := of_decide_eq_true (by first | (with_reducible assumption) | assumption)
        obtain ⟨ad158, e158, hx158_0⟩ := Kd.at_bool (Kd.R_reads' HO120.out).2.2 1 p158 q158
        (try rw [← Nbq41.out] at hx158_0)
        (try rw [← Nbq45.out] at hx158_0)
        cases e158
        (try simp only [show (1 : Int).toNat = 1 from rfl, Nat.reduceMul, Nat.reduceEqDiff, Go.Addr.add, ↓reduceIte] at hx158_0)
        have qi158 : (1 < t117.length) = True := eq_true (by omega)
        (try rw [show ((1 : Int)).toNat = 1 from rfl] at hx158_0)
        replace p158 := eq_true p158
        replace q158 := eq_true q158
        have p159 : 0 ≤ (2 : Int) := (by omega)
        have q159 : 2 < (t117.length : Int) := of_decide_eq_true (by first | (with_reducible assumption) | assumption)
        obtain ⟨ad159, e159, hx159_0⟩ := Kd.at_bool (Kd.R_reads' HO120.out).2.2 2 p159 q159
        (try rw [← Nbq41.out] at hx159_0)
        (try rw [← Nbq45.out] at hx159_0)
        obtain rfl : ad158 = ad159 := (by injection e159)
        (try simp only [show (2 : Int).toNat = 2 from rfl, Nat.reduceMul, Nat.reduceEqDiff, Go.Addr.add, ↓reduceIte] at hx159_0)
        have qi159 : (2 < t117.length) = True := eq_true (by omega)
        (try rw [show ((2 : Int)).toNat = 2 from rfl] at hx159_0)
        replace p159 := eq_true p159
        replace q159 := eq_true q159
        go_wp2
        go_meet
        case rel => exact ⟨_, (false), (by first | rfl | (simp; done) | (simp [*]; done)), H', ⟨by first | omega | exact Nat.le_refl _⟩, ⟨by repeat (first | (with_reducible first | exact HB.out | apply below_alloc | apply pw_below_drewN | apply below_drew1) | exact HB.out)⟩⟩
      ·rw [if_neg c44] at H
       exact absurd H (by simp)
    ·rw [if_neg c40] at H
     exact absurd H (by simp)
   ·rw [if_neg c39] at H
    have c39b0 : ((t117.length : Int) == 3) = false := beq_eq_false_iff_ne.mpr c39
    have c39b1 : ((t117.length : Int) != 3) = true := bne_iff_ne.mpr c39
    have H' := Aside0.mk H
    clear H
    obtain ⟨Ao67, co67, eo67⟩ := Kd.R_slice HO120.out
    subst eo67
    go_wp2
    go_meet
    case rel => exact ⟨_, (false), (by first | rfl | (simp; done) | (simp [*]; done)), H', ⟨by first | omega | exact Nat.le_refl _⟩, ⟨by repeat (first | (with_reducible first | exact HB.out | apply below_alloc | apply pw_below_drewN | apply below_drew1) | exact HB.out)⟩⟩
  ·rw [if_neg c38] at H
   have c38b0 : (t116 == 1) = false := beq_eq_false_iff_ne.mpr c38
   have c38b1 : (t116 != 1) = true := bne_iff_ne.mpr c38
   (first | rw [c38b0] | (simp only [i64_w, i32_w]; rw [c38b0]) | skip)
   have H' := Aside0.mk H
   clear H
   go_wp2
   go_meet
   case rel => exact ⟨_, (false), (by first | rfl | (simp; done) | (simp [*]; done)), H', ⟨by first | omega | exact Nat.le_refl _⟩, ⟨by repeat (first | (with_reducible first | exact HB.out | apply below_alloc | apply pw_below_drewN | apply below_drew1) | exact HB.out)⟩⟩
 case rest =>
  clear HC4
  try clear c1
  try clear p1
  try clear q1
  try clear hx1
  try clear qi1
  try clear p2
  try clear c3
  try clear c4
  try clear q4
  try clear c5
  try clear c12
  try clear c14
  try clear p15
  try clear q15
  try clear hx15
  try clear qi15
  try clear c38
  try clear c38b0
  try clear c38b1
  try clear c39
  try clear c39b0
  try clear c39b1
  try clear c40
  try clear c40b0
  try clear c40b1
  try clear q41
  try clear c42
  try clear c44
  try clear c44b0
  try clear c44b1
  try clear q45
  try clear c46
  try clear c47
  try clear c47b0
  try clear c47b1
  try clear c47b2
  try clear c48
  try clear c48b0
  try clear c48b1
  try clear c49
  try clear c49b0
  try clear c49b1
  try clear c49b2
  try clear c50
  try clear c50b0
  try clear c50b1
  try clear hx158_0
  try clear hx159_0
  try clear p158
  try clear p159
  try clear q158
  try clear q159
  obtain ⟨kq, x0_3, rfl, HA, HJ3, HB⟩ := hcut
  cases kq with
  | zero => exact absurd HA.out (by simp [ashlarlaw09_shown.j0])
  | succ kj3 =>
   have H := HA.out
   clear HA
   simp only [ashlarlaw09_shown.j0] at H
   obtain rfl := Option.some.inj H
   go_wp2
   go_ret
   exact ⟨by first | rfl | (simp [errW_none, errW_some] <;> rfl) | (simp [*, errW_none, errW_some] <;> rfl), by repeat (first | (with_reducible first | exact HB.out | apply below_alloc | apply pw_below_drewN | apply below_drew1) | exact HB.out)⟩

/-! ### ashlarlaw09_few: function 13 -/
def ashlarlaw09_few.l0 : Nat → List (List Int) → List (List Int) → Int → Option ((List (List Int)))
 | 0, _, _, _ => none
 | k + 1, x0, x3, x4 => if x4 < (x0.length : Int) then (if x4 < 40 then ((some (([] : List Int) : List Int)).bind fun y160 => (if 0 ≤ x4 then (if 0 ≤ (mn ((rd_L2 x0 x4).length : Int) 10) then (if (mn ((rd_L2 x0 x4).length : Int) 10) ≤ ((rd_L2 x0 x4).length : Int) then (if y160.length + ((rd_L2 x0 x4).take ((mn ((rd_L2 x0 x4).length : Int) 10) : Int).toNat).length < 17592186044416 then (if x3.length < 5864062014805 then (ashlarlaw09_few.l0 k x0 (x3 ++ [(y160 ++ ((rd_L2 x0 x4).take ((mn ((rd_L2 x0 x4).length : Int) 10) : Int).toNat))]) (wrap64 (x4 + 1))) else (none)) else (none)) else (none)) else (none)) else (none))) else (some x3)) else (some x3)
def ashlarlaw09_few.f (k : Nat) (l0 : List (List Int)) : Option ((List (List Int))) := ashlarlaw09_few.l0 k l0 ([] : List (List Int)) 0
theorem ashlarlaw09_few.mono_l : ∀ k, (∀ y0 y1 y2, LeO (ashlarlaw09_few.l0 k y0 y1 y2) (ashlarlaw09_few.l0 (k + 1) y0 y1 y2))
 | 0 => fun _ _ _ r h => by simp [ashlarlaw09_few.l0] at h
 | k + 1 => by
  have ih0 := ashlarlaw09_few.mono_l k
  ·intro y0 y1 y2
   unfold ashlarlaw09_few.l0
   repeat' first
   | (with_reducible exact ih0 _ _ _)
   | (with_reducible exact LeO.refl _)
   | (with_reducible exact LeO.none _)
   | (with_reducible refine LeO.ite ?_ ?_)
   | (with_reducible refine LeO.bind ?_ (fun _ => ?_))
   | exact ih0 _ _ _
   | exact LeO.none _
   | refine LeO.ite ?_ ?_
   | refine LeO.bind ?_ (fun _ => ?_)
theorem ashlarlaw09_few.mono : ∀ a0 k, LeO (ashlarlaw09_few.f k a0) (ashlarlaw09_few.f (k + 1) a0) := by
 intro a0 k
 have ih0 := ashlarlaw09_few.mono_l k
 unfold ashlarlaw09_few.f
 repeat' first
   | (with_reducible exact ih0 _ _ _)
   | (with_reducible exact LeO.refl _)
   | (with_reducible exact LeO.none _)
   | (with_reducible refine LeO.ite ?_ ?_)
   | (with_reducible refine LeO.bind ?_ (fun _ => ?_))
   | exact ih0 _ _ _
   | exact LeO.none _
   | refine LeO.ite ?_ ?_
   | refine LeO.bind ?_ (fun _ => ?_)
def ashlarlaw09_few.T5 : Bool × List (List Nat × List Nat) := (true, [([], []), ([], []), ([], []), ([], []), ([2, 3], [2, 3]), ([4], [4]), ([], []), ([], []), ([6, 7], [6, 7]), ([8], [8]), ([9], [9]), ([10], [10]), ([5, 11], [5, 11]), ([1, 12], [1, 12]), ([13], [13]), ([0, 14, 13], [0, 14]), ([15, 15, 0, 1, 2, 3, 4, 5, 6, 7, 8, 9, 10, 11, 12, 13, 14, 15], [0, 15])])
def ashlarlaw09_few.B5 : List Nat := [0, 0, 0, 0, 12, 28, 0, 0, 192, 448, 960, 1984, 4092, 8190, 16382, 32767, 65535]
theorem ashlarlaw09_few.tab5 : rtab .any (opsOf Try.f13 5) = ashlarlaw09_few.T5 := by kernel_rfl
theorem ashlarlaw09_few.bits5 : waitsOk ashlarlaw09_few.T5.2 ashlarlaw09_few.B5 = true := by kernel_rfl
set_option maxHeartbeats 8000000 in
set_option maxRecDepth 100000 in
theorem ashlarlaw09_few.calls (k : Nat) (A0 : Option Addr) (c0 : Nat) (l0 : List (List Int)) (r : List (List Int)) (w : World) (hr0 : Kd.C (Kd.slice 3 (Kd.int .i64)) w A0 l0.length l0) (hc0 : l0.length ≤ c0) (h : ashlarlaw09_few.f k l0 = some r) :
  Calls Try.prog 13 #[.slice A0 l0.length c0] w fun e w' => ∃ v0_ : Value, e = .returned (v0_) ∧ Kd.S (Kd.slice 3 (Kd.int .i64)) 32 w' w.heap.size (fun _ => True) v0_ r ∧ Below w.heap.size w w' := by
 have HR0 := Aside0.mk hr0
 have HC0 := Aside0.mk hc0
 clear hr0 hc0
 have HB := Aside0.mk (Below.refl w.heap.size w)
 have H : (ashlarlaw09_few.l0 k l0 ([] : List (List Int)) 0) = some r := h
 clear h
 have H' := Aside0.mk H
 clear H
 go_enter Try.func13, Try.ntmps13
 go_wp2
 go_loopg [3, 4] k (fun kq v3 v4 w' => ∃ (x3_1 : List (List Int)) (x4_1 : Int), v4 = .int .i64 x4_1 ∧ Aside0 (ashlarlaw09_few.l0 kq l0 x3_1 x4_1 = some r) ∧ Aside0 (kq ≤ k) ∧ Aside0 (Kd.S (Kd.slice 3 (Kd.int .i64)) 32 w' w.heap.size (fun _ => True) v3 x3_1) ∧ Aside0 (Below w.heap.size w w'))
 case atStart => exact ⟨(([] : List (List Int))), (0), (by first | rfl | (simp; done) | (simp [*]; done)), H', ⟨Nat.le_refl _⟩, ⟨by first | exact Kd.S_nil _ _ _ _ _ | exact Kd.N_nil _ _ _ _ _ | exact Kd.V_nil _ _ _ _ _ | exact Kd.Q_nil _ _ _ _ _ | exact Kd.R_nil _ _ _ _ _⟩, ⟨by repeat (first | (with_reducible first | exact HB.out | apply below_alloc | apply pw_below_drewN | apply below_drew1) | exact HB.out)⟩⟩
 case round =>
  clear H'
  try clear c1
  obtain ⟨x3_1, x4_1, rfl, HA, HK1, HO_3, HB⟩ := hrel
  cases gk with
  | zero => exact absurd HA.out (by simp [ashlarlaw09_few.l0])
  | succ k1 =>
   have H := HA.out
   clear HA
   simp only [ashlarlaw09_few.l0] at H
   by_cases c2 : x4_1 < (l0.length : Int)
   ·rw [if_pos c2] at H
    have c2b0 : decide (x4_1 < (l0.length : Int)) = true := decide_eq_true c2
    clear c2
    by_cases c3 : x4_1 < 40
    ·rw [if_pos c3] at H
     have c3b0 : decide (x4_1 < 40) = true := decide_eq_true c3
     clear c3
     obtain ⟨y160, hy160⟩ : ∃ y_ : List Int, y_ = (([] : List Int)) := ⟨_, rfl⟩
     replace H : (if 0 ≤ x4_1 then (if 0 ≤ (mn ((rd_L2 l0 x4_1).length : Int) 10) then (if (mn ((rd_L2 l0 x4_1).length : Int) 10) ≤ ((rd_L2 l0 x4_1).length : Int) then (if y160.length + ((rd_L2 l0 x4_1).take ((mn ((rd_L2 l0 x4_1).length : Int) 10) : Int).toNat).length < 17592186044416 then (if x3_1.length < 5864062014805 then (ashlarlaw09_few.l0 k1 l0 (x3_1 ++ [(y160 ++ ((rd_L2 l0 x4_1).take ((mn ((rd_L2 l0 x4_1).length : Int) 10) : Int).toNat))]) (wrap64 (x4_1 + 1))) else (none)) else (none)) else (none)) else (none)) else (none)) = some r := by first | (rw [hy160]; with_reducible exact H) | (have H2_ := (Option.bind_some _ _).symm.trans H; rw [hy160]; with_reducible exact H2_) | (have H2_ := (Option.bind_some _ _).symm.trans H; with_reducible exact H2_) | with_reducible exact H | (rw [hy160]; exact H) | exact H
     have Ny160 := Aside0.mk hy160
     clear hy160
     by_cases c4 : 0 ≤ x4_1
     ·rw [if_pos c4] at H
      have c4b0 : decide (0 ≤ x4_1) = true := decide_eq_true c4
      clear c4
      obtain ⟨ji5, hji5⟩ : ∃ j_ : Int, (mn ((rd_L2 l0 x4_1).length : Int) 10) = j_ := ⟨_, rfl⟩
      replace H : (if 0 ≤ (ji5) then (if (ji5) ≤ ((rd_L2 l0 x4_1).length : Int) then (if y160.length + ((rd_L2 l0 x4_1).take ((ji5) : Int).toNat).length < 17592186044416 then (if x3_1.length < 5864062014805 then (ashlarlaw09_few.l0 k1 l0 (x3_1 ++ [(y160 ++ ((rd_L2 l0 x4_1).take ((ji5) : Int).toNat))]) (wrap64 (x4_1 + 1))) else (none)) else (none)) else (none)) else (none)) = some r := by first | (rw [hji5] at H; exact H) | (simp only [hji5] at H ⊢; exact H)
      have hji5_ : (if 10 < ((rd_L2 l0 x4_1).length : Int) then 10 else ((rd_L2 l0 x4_1).length : Int)) = ji5 := hji5
      by_cases c6 : 0 ≤ (ji5)
      ·rw [if_pos c6] at H
       have c6b0 := eq_true c6
       have c6b1 : decide (0 ≤ (ji5)) = true := decide_eq_true c6
       clear c6
       by_cases c7 : (ji5) ≤ ((rd_L2 l0 x4_1).length : Int)
       ·rw [if_pos c7] at H
        have c7b0 := eq_true c7
        have c7b1 : decide ((ji5) ≤ ((rd_L2 l0 x4_1).length : Int)) = true := decide_eq_true c7
        clear c7
        by_cases c8 : y160.length + ((rd_L2 l0 x4_1).take ((ji5) : Int).toNat).length < 17592186044416
        ·rw [if_pos c8] at H
         have LMc8 := Aside0.mk c8
         clear c8
         obtain ⟨y166, hy166⟩ : ∃ y_ : List Int, y_ = (y160 ++ ((rd_L2 l0 x4_1).take ((ji5) : Int).toNat)) := ⟨_, rfl⟩
         replace H : (if x3_1.length < 5864062014805 then (ashlarlaw09_few.l0 k1 l0 (x3_1 ++ [y166]) (wrap64 (x4_1 + 1))) else (none)) = some r := by first | (rw [hy166]; with_reducible exact H) | (have H2_ := (Option.bind_some _ _).symm.trans H; rw [hy166]; with_reducible exact H2_) | (have H2_ := (Option.bind_some _ _).symm.trans H; with_reducible exact H2_) | with_reducible exact H | (rw [hy166]; exact H) | exact H
         have Ny166 := Aside0.mk hy166
         clear hy166
         by_cases c9 : x3_1.length < 5864062014805
         ·rw [if_pos c9] at H
          have LMc9 := Aside0.mk c9
          clear c9
          obtain ⟨y169, hy169⟩ : ∃ y_ : List (List Int), y_ = (x3_1 ++ [y166]) := ⟨_, rfl⟩
          replace H : (ashlarlaw09_few.l0 k1 l0 y169 (wrap64 (x4_1 + 1))) = some r := by first | (rw [hy169]; with_reducible exact H) | (have H2_ := (Option.bind_some _ _).symm.trans H; rw [hy169]; with_reducible exact H2_) | (have H2_ := (Option.bind_some _ _).symm.trans H; with_reducible exact H2_) | with_reducible exact H | (rw [hy169]; exact H) | exact H
          have Ny169 := Aside0.mk hy169
          clear hy169
          have H' := Aside0.mk H
          clear H
          try go_wp2
          have n0_ := Aside0.mk (Kd.S_drew HO_3.out)
          have n1_ := Aside0.mk (below_drew1 HB.out)
          clear HO_3
          clear HB
          have HO_3 := n0_
          have HB := n1_
          clear n0_ n1_
          have p163 : 0 ≤ (x4_1 : Int) := of_decide_eq_true (by first | (with_reducible assumption) | assumption)
          have q163 : x4_1 < (l0.length : Int) := of_decide_eq_true (by first | (with_reducible assumption) | assumption)
          obtain ⟨ad163, A163_0, c163_0, e163, hx163_0, hl163_0, hi163_0⟩ := at_L2 HR0.out x4_1 p163 q163
          have hw163_0 := hx163_0
          cases e163
          replace hx163_0 := (HB.out.cell (World.block_lt_of_cell? w _ hx163_0)).trans hx163_0
          have HR163_0 := Aside0.mk hi163_0
          have HC163_0 := Aside0.mk hl163_0
          clear hi163_0 hl163_0
          replace p163 := eq_true p163
          replace q163 := eq_true q163
          have p164 : 0 ≤ (x4_1 : Int) := of_decide_eq_true (by first | (with_reducible assumption) | assumption)
          have q164 : x4_1 < (l0.length : Int) := of_decide_eq_true (by first | (with_reducible assumption) | assumption)
          obtain ⟨ad164, A164_0, c164_0, e164, hx164_0, hl164_0, hi164_0⟩ := at_L2 HR0.out x4_1 p164 q164
          have hw164_0 := hx164_0
          obtain rfl : ad163 = ad164 := (by injection e164)
          replace hx164_0 := (HB.out.cell (World.block_lt_of_cell? w _ hx164_0)).trans hx164_0
          have HR164_0 := Aside0.mk hi164_0
          have HC164_0 := Aside0.mk hl164_0
          clear hi164_0 hl164_0
          replace p164 := eq_true p164
          replace q164 := eq_true q164
          have ea_ := Option.some.inj (hx163_0.symm.trans hx164_0)
          injection ea_ with ea_ en_ ec_
          subst ea_
          subst ec_
          clear en_
          obtain ⟨i011, hi011, _, hsz11, _⟩ := info_parts info3
          obtain ⟨hcut11, hA11, hC11⟩ := print_take_of (P := Try.prog) (Value.int .i64) 0 32 3 .i64 Try.underlying32 hi011 hsz11 A163_0 c163_0 (rd_L2 l0 x4_1) (ji5) (of_decide_eq_true (by first | (with_reducible assumption) | assumption)) (of_decide_eq_true (by first | (with_reducible assumption) | assumption)) HC163_0.out
          have HR165 := Aside0.mk (Kd.C_of_reads (h1 := fun _ => rfl) (hA11 _ (Kd.reads_of_C HR163_0.out)))
          have HC165 := Aside0.mk hC11
          clear hA11 hC11 hi011 hsz11
          refine start_ (n := 17) (S := fun w' => w'.cell? (ad163.add (x4_1).toNat) = some (.slice A163_0 (rd_L2 l0 x4_1).length c163_0) ∧ w'.cell? (ad163.add (x4_1).toNat) = some (.slice A163_0 (rd_L2 l0 x4_1).length c163_0)) (ds := []) #[false, false, false, false, false, false, false, false, false, false, false, false, false, false, false, false, false] (by kernel_rfl) rfl rfl ⟨((HB.out.cell (World.block_lt_of_cell? w _ hw163_0)).trans hw163_0), ((HB.out.cell (World.block_lt_of_cell? w _ hw164_0)).trans hw164_0)⟩ (fun hHeld => ?_); refine with_tabW ashlarlaw09_few.tab5 ashlarlaw09_few.bits5 (fun HT_ HW_ => ?_)
          generalize wr.drew = w10 at HO_3 HB HR163_0 HR164_0 HR165 hx163_0 hx164_0 hHeld ⊢
          refine pure_ (i := 0) (N := some 15) (v := ?_) (a' := ?_) #[true, false, false, false, false, false, false, false, false, false, false, false, false, false, false, false, false] rfl rfl (any_of HT_.out (by kernel_rfl)) (fun _ _ _ h => h) (Or.inl ⟨by rfl, ?_⟩) ?_ ?_
          rotate_left
          ·intro w'
           go_simp
           with_reducible rfl
          rotate_left
          ·simp only [Act.put, List.setIfInBounds_toArray, List.set_cons_zero, List.set_cons_succ, i64_w, i32_w]
           rfl
          refine pure_ (i := 2) (N := some 17) (v := ?_) (a' := ?_) #[true, false, true, false, false, false, false, false, false, false, false, false, false, false, false, false, false] rfl rfl (any_of HT_.out (by kernel_rfl)) (fun _ _ _ h => h) (Or.inl ⟨by rfl, ?_⟩) ?_ ?_
          rotate_left
          ·intro w'
           go_simp
           with_reducible rfl
          rotate_left
          ·simp only [Act.put, List.setIfInBounds_toArray, List.set_cons_zero, List.set_cons_succ, i64_w, i32_w]
           rfl
          refine pure_ (i := 3) (N := some 18) (v := ?_) (a' := ?_) #[true, false, true, true, false, false, false, false, false, false, false, false, false, false, false, false, false] rfl rfl (any_of HT_.out (by kernel_rfl)) (fun _ _ _ h => h) (Or.inl ⟨by rfl, ?_⟩) ?_ ?_
          rotate_left
          ·intro w'
           go_simp
           with_reducible rfl
          rotate_left
          ·simp only [Act.put, List.setIfInBounds_toArray, List.set_cons_zero, List.set_cons_succ, i64_w, i32_w]
           rfl
          refine pure_ (i := 4) (N := some 19) (v := ?_) (a' := ?_) #[true, false, true, true, true, false, false, false, false, false, false, false, false, false, false, false, false] rfl rfl (any_of HT_.out (by kernel_rfl)) (fun _ _ _ h => h) (Or.inl ⟨by rfl, ?_⟩) ?_ ?_
          rotate_left
          ·intro w'
           go_simp
           with_reducible rfl
          rotate_left
          ·simp only [Act.put, List.setIfInBounds_toArray, List.set_cons_zero, List.set_cons_succ, i64_w, i32_w]
           rfl
          refine pure_ (i := 6) (N := some 21) (v := ?_) (a' := ?_) #[true, false, true, true, true, false, true, false, false, false, false, false, false, false, false, false, false] rfl rfl (any_of HT_.out (by kernel_rfl)) (fun _ _ _ h => h) (Or.inl ⟨by rfl, ?_⟩) ?_ ?_
          rotate_left
          ·intro w'
           go_simp
           with_reducible rfl
          rotate_left
          ·simp only [Act.put, List.setIfInBounds_toArray, List.set_cons_zero, List.set_cons_succ, i64_w, i32_w]
           rfl
          refine pure_ (i := 7) (N := some 22) (v := ?_) (a' := ?_) #[true, false, true, true, true, false, true, true, false, false, false, false, false, false, false, false, false] rfl rfl (any_of HT_.out (by kernel_rfl)) (fun _ _ _ h => h) (Or.inl ⟨by rfl, ?_⟩) ?_ ?_
          rotate_left
          ·intro w'
           go_simp
           with_reducible rfl
          rotate_left
          ·simp only [Act.put, List.setIfInBounds_toArray, List.set_cons_zero, List.set_cons_succ, i64_w, i32_w]
           rfl
          refine pure_ (i := 8) (N := some 23) (v := ?_) (a' := ?_) #[true, false, true, true, true, false, true, true, true, false, false, false, false, false, false, false, false] rfl rfl (any_of HT_.out (by kernel_rfl)) (fun _ _ _ h => h) (Or.inl ⟨by rfl, ?_⟩) ?_ ?_
          rotate_left
          ·intro w'
           go_simp
           with_reducible rfl
          rotate_left
          ·simp only [Act.put, List.setIfInBounds_toArray, List.set_cons_zero, List.set_cons_succ, i64_w, i32_w]
           rfl
          refine take_ (i := 5) (N := some 20) (v := ?_) (a' := ?_) #[true, false, true, true, true, true, true, true, true, false, false, false, false, false, false, false, false] rfl rfl (take_ofW HT_.out HW_.out (by kernel_rfl)) (fun _ _ _ h => h) (Or.inl ⟨by rfl, ?_⟩) hHeld ?_ ?_
          rotate_left
          ·rintro w' ⟨s0, s1⟩
           go_simp
           with_reducible rfl
          rotate_left
          ·simp only [Act.put, List.setIfInBounds_toArray, List.set_cons_zero, List.set_cons_succ, i64_w, i32_w]
           rfl
          refine take_ (i := 9) (N := some 24) (v := ?_) (a' := ?_) #[true, false, true, true, true, true, true, true, true, true, false, false, false, false, false, false, false] rfl rfl (take_ofW HT_.out HW_.out (by kernel_rfl)) (fun _ _ _ h => h) (Or.inl ⟨by rfl, ?_⟩) hHeld ?_ ?_
          rotate_left
          ·rintro w' ⟨s0, s1⟩
           go_simp
           with_reducible rfl
          rotate_left
          ·simp only [Act.put, List.setIfInBounds_toArray, List.set_cons_zero, List.set_cons_succ, i64_w, i32_w]
           rfl
          refine pure_ (i := 10) (N := some 25) (v := ?_) (a' := ?_) #[true, false, true, true, true, true, true, true, true, true, true, false, false, false, false, false, false] rfl rfl (any_of HT_.out (by kernel_rfl)) (fun _ _ _ h => h) (Or.inl ⟨by rfl, ?_⟩) ?_ ?_
          rotate_left
          ·intro w'
           go_simp
           with_reducible rfl
          rotate_left
          ·simp only [Act.put, List.setIfInBounds_toArray, List.set_cons_zero, List.set_cons_succ, i64_w, i32_w]
           rfl
          refine pure_ (i := 11) (N := some 26) (v := ?_) (a' := ?_) #[true, false, true, true, true, true, true, true, true, true, true, true, false, false, false, false, false] rfl rfl (any_of HT_.out (by kernel_rfl)) (fun _ _ _ h => h) (Or.inl ⟨by rfl, ?_⟩) ?_ ?_
          rotate_left
          ·intro w'
           go_simp
           with_reducible rfl
          rotate_left
          ·simp only [Act.put, List.setIfInBounds_toArray, List.set_cons_zero, List.set_cons_succ, i64_w, i32_w]
           rfl
          refine pure_ (i := 12) (N := some 27) (v := ?_) (a' := ?_) #[true, false, true, true, true, true, true, true, true, true, true, true, true, false, false, false, false] rfl rfl (any_of HT_.out (by kernel_rfl)) (fun _ _ _ h => h) (Or.inl ⟨by rfl, ?_⟩) ?_ ?_
          rotate_left
          ·intro w'
           go_simp
           with_reducible rfl
          rotate_left
          ·simp only [Act.put, List.setIfInBounds_toArray, List.set_cons_zero, List.set_cons_succ, i64_w, i32_w]
           rfl
          refine one_ (i := 1) (N := some 16) #[true, true, true, true, true, true, true, true, true, true, true, true, true, false, false, false, false] rfl rfl (one_of HT_.out (by kernel_rfl)) (by decide) (fun K hK => ?_)
          refine Kd.R_lit_step (Kd.int .i64) _ 3 ?hg (N := 16) ?hd (xs := ([] : List Int)) (inner := []) (ok := fun _ => True) (okp := fun _ => True) ?hr ?hp (fun _ hk => hk) trivial (Below.refl _ _) (Nat.le_refl _) (by simp) ?_; (case hd => rfl); (case hg => rfl); (case hr => first | (go_simp; done) | (go_simp; rfl)); (case hp => exact (Reps.none _ _))
          intro v161 w12 ho13 hb hg_ hnew_
          clear hg_ hnew_
          (first | rw [← Ny160.out] at ho13 | (simp only [Int.reduceToNat] at ho13; rw [← Ny160.out] at ho13))
          have n0_ := Aside0.mk (Kd.S_elder' (by (with_reducible repeat (first | apply Kd.S_alloc | apply Kd.S_drewN | apply Kd.S_drew)); exact HO_3.out) (Kd.R_base ho13) hb)
          have n1_ := Aside0.mk (Kd.R_lower ho13 (below_size (by repeat (first | (with_reducible first | exact HB.out | apply below_alloc | apply pw_below_drewN | apply below_drew1) | exact HB.out))))
          have n2_ := Aside0.mk (below_step (by repeat (first | (with_reducible first | exact HB.out | apply below_alloc | apply pw_below_drewN | apply below_drew1) | exact HB.out)) hb)
          clear HO_3
          clear HB
          have HO_3 := n0_
          have HO162 := n1_
          have HB := n2_
          clear n0_ n1_ n2_
          clear hb ho13
          refine hK.out _ _ ⟨((HB.out.cell (World.block_lt_of_cell? w _ hw163_0)).trans hw163_0), ((HB.out.cell (World.block_lt_of_cell? w _ hw164_0)).trans hw164_0)⟩ (fun hHeld => ?_)
          clear hK K
          refine norm_ (a' := ?_) ?_ ?_
          rotate_left
          ·show Act.put _ (some 16) _ = _
           simp only [Act.put, List.setIfInBounds_toArray, List.set_cons_zero, List.set_cons_succ, i64_w, i32_w]
           rfl
          refine one_ (i := 13) (N := some 28) #[true, true, true, true, true, true, true, true, true, true, true, true, true, true, false, false, false] rfl rfl (one_of HT_.out (by kernel_rfl)) (by decide) (fun K hK => ?_)
          refine Kd.R_append_rows_step (Kd.int .i64) (w0 := w) w.heap.size (by rfl) (.tmp 16) (.tmp 27) 32 3 (.int .i64 0) 8 rfl Try.underlying32 info3 rfl (by decide) (by omega) v161 y160 ((rd_L2 l0 x4_1).take ((ji5) : Int).toNat) _ _ _ (fun _ => True) (fun _ => False) rfl rfl ?aO ?aR (fun _ _ h => h) (fun _ h => h.elim) ?aF ?aB ?aS ?aL ?_
          (case aR => first | (refine Eq.mp (congrArg (fun n_ => ReadsRow _ _ _ _ n_ _) (show ((rd_L2 l0 x4_1).take ((ji5) : Int).toNat).length = (ji5).toNat from (by rw [List.length_take]; have h_ : ((ji5) : Int) ≤ ((rd_L2 l0 x4_1).length : Int) := of_decide_eq_true (by first | (with_reducible assumption) | assumption); omega))) ?_; repeat (first | exact (Kd.C_below HR165.out HB.out) | (with_reducible refine Kd.C_alloc ?_ _) | (with_reducible refine Kd.C_drewN ?_ _) | (with_reducible refine Kd.C_drew ?_)); done) | (rw [← show ((rd_L2 l0 x4_1).take ((ji5) : Int).toNat).length = (ji5).toNat from (by rw [List.length_take]; have h_ : ((ji5) : Int) ≤ ((rd_L2 l0 x4_1).length : Int) := of_decide_eq_true (by first | (with_reducible assumption) | assumption); omega)]; repeat (first | exact (Kd.C_below HR165.out HB.out) | (with_reducible refine Kd.C_alloc ?_ _) | (with_reducible refine Kd.C_drewN ?_ _) | (with_reducible refine Kd.C_drew ?_))) | (repeat (first | exact (Kd.C_below HR165.out HB.out) | (with_reducible refine Kd.C_alloc ?_ _) | (with_reducible refine Kd.C_drewN ?_ _) | (with_reducible refine Kd.C_drew ?_))))
          (case aB => exact (by repeat (first | (with_reducible first | exact HB.out | apply below_alloc | apply pw_below_drewN | apply below_drew1) | exact HB.out)))
          (case aF => exact (fun _ _ => trivial))
          (case aO => exact (by (with_reducible repeat (first | apply Kd.R_alloc | apply Kd.R_drewN | apply Kd.R_drew)); exact HO162.out))
          (case aS => exact (below_size (by repeat (first | (with_reducible first | exact HB.out | apply below_alloc | apply pw_below_drewN | apply below_drew1) | exact HB.out))))
          (case aL => have := LMc8.out; have hlx_ := (show ((rd_L2 l0 x4_1).take ((ji5) : Int).toNat).length = (ji5).toNat from (by rw [List.length_take]; have h_ : ((ji5) : Int) ≤ ((rd_L2 l0 x4_1).length : Int) := of_decide_eq_true (by first | (with_reducible assumption) | assumption); omega)); omega)
          intro v167 w14 ho hb hg hat
          rw [← Ny166.out] at ho
          have n0_ := Aside0.mk (Kd.S_after (ok := (fun _ => True)) (by (with_reducible repeat (first | apply Kd.S_alloc | apply Kd.S_drewN | apply Kd.S_drew)); exact HO_3.out) hg hat)
          have n1_ := Aside0.mk (hb)
          have n2_ := Aside0.mk (ho)
          clear HO_3
          clear HB
          clear HO162
          have HO_3 := n0_
          have HB := n1_
          have HO168 := n2_
          clear n0_ n1_ n2_
          clear ho hb hg hat
          obtain ⟨Ao16, co16, eo16⟩ := Kd.R_slice HO168.out
          (first | subst eo16 | (injection eo16 with f1_ f2_ f3_; have f4_ := f1_.symm; have f5_ := f3_.symm; clear f1_ f2_ f3_; subst f4_; subst f5_))
          refine hK.out _ _ ⟨((HB.out.cell (World.block_lt_of_cell? w _ hw163_0)).trans hw163_0), ((HB.out.cell (World.block_lt_of_cell? w _ hw164_0)).trans hw164_0)⟩ (fun hHeld => ?_)
          clear hK K
          refine norm_ (a' := ?_) ?_ ?_
          rotate_left
          ·show Act.put _ (some 28) _ = _
           simp only [Act.put, List.setIfInBounds_toArray, List.set_cons_zero, List.set_cons_succ, i64_w, i32_w]
           rfl
          refine one_ (i := 14) (N := some 29) #[true, true, true, true, true, true, true, true, true, true, true, true, true, true, true, false, false] rfl rfl (one_of HT_.out (by kernel_rfl)) (by decide) (fun K hK => ?_)
          refine value_ (w1 := ?_) (v := ?_) (by rfl) rfl ?_ ?_
          rotate_left 2
          ·go_simp
           constructor
           ·rfl
           ·rfl
          refine hK.out _ _ ⟨(World.cell?_alloc_lt _ _ _ (World.block_lt_of_cell? _ _ (((HB.out.cell (World.block_lt_of_cell? w _ hw163_0)).trans hw163_0)))).trans (((HB.out.cell (World.block_lt_of_cell? w _ hw163_0)).trans hw163_0)), (World.cell?_alloc_lt _ _ _ (World.block_lt_of_cell? _ _ (((HB.out.cell (World.block_lt_of_cell? w _ hw164_0)).trans hw164_0)))).trans (((HB.out.cell (World.block_lt_of_cell? w _ hw164_0)).trans hw164_0))⟩ (fun hHeld => ?_)
          clear hK K
          refine norm_ (a' := ?_) ?_ ?_
          rotate_left
          ·show Act.put _ (some 29) _ = _
           simp only [Act.put, List.setIfInBounds_toArray, List.set_cons_zero, List.set_cons_succ, i64_w, i32_w]
           rfl
          refine one_ (i := 15) (N := some 30) #[true, true, true, true, true, true, true, true, true, true, true, true, true, true, true, true, false] rfl rfl (one_of HT_.out (by kernel_rfl)) (by decide) (fun K hK => ?_)
          refine Kd.S_append_step (Kd.slice 3 (Kd.int .i64)) (w0 := w) w.heap.size (by rfl) (.tmp 15) (.tmp 29) 22 32 (.slice none 0 0) 24 rfl Try.underlying22 info32 rfl (by decide) (by omega) u3 x3_1 y166 [.slice Ao16 y166.length co16] (fun _ => True) (fun k_ => some k_ = (.slice Ao16 y166.length co16 : Value).ownBlock) rfl rfl ?aP (fun k_ hk_ => ((Kd.R_mono (ok' := fun k_ => ((fun _ => True)) k_ ∧ some k_ ≠ (u3 : Value).ownBlock) (Kd.R_apart' (HO168.out) (Kd.S_typed HO_3.out) (by decide)) (fun k_ hk => ⟨trivial, hk.2⟩))).1 k_ hk_.symm) ?aF ?aO ?aB ?aS ?aL ?_
          (case aP => exact Kd.M_row (Kd.R_mono (Kd.R_tight rfl (Kd.R_mono (ok' := fun k_ => ((fun _ => True)) k_ ∧ some k_ ≠ (u3 : Value).ownBlock) (Kd.R_apart' (HO168.out) (Kd.S_typed HO_3.out) (by decide)) (fun k_ hk => ⟨trivial, hk.2⟩))) (fun _ h_ => h_)))
          (case aB => exact (by repeat (first | (with_reducible first | exact HB.out | apply below_alloc | apply pw_below_drewN | apply below_drew1) | exact HB.out)))
          (case aF => exact (fun _ _ => trivial))
          (case aO => exact (by (with_reducible repeat (first | apply Kd.S_alloc | apply Kd.S_drewN | apply Kd.S_drew)); exact Kd.S_mono HO_3.out (fun k_ hk => ⟨trivial, fun e_ => hk.2 e_⟩)))
          (case aS => exact (below_size (by repeat (first | (with_reducible first | exact HB.out | apply below_alloc | apply pw_below_drewN | apply below_drew1) | exact HB.out))))
          (case aL => have := LMc9.out; omega)
          intro v170 w15 ho hb hg hat
          rw [← Ny169.out] at ho
          have n0_ := Aside0.mk (hb)
          have n1_ := Aside0.mk (ho)
          clear HB
          clear HO_3
          clear HO168
          have HB := n0_
          have HO171 := n1_
          clear n0_ n1_
          clear ho hb hg hat
          refine hK.out _ _ ⟨((HB.out.cell (World.block_lt_of_cell? w _ hw163_0)).trans hw163_0), ((HB.out.cell (World.block_lt_of_cell? w _ hw164_0)).trans hw164_0)⟩ (fun hHeld => ?_)
          clear hK K
          refine norm_ (a' := ?_) ?_ ?_
          rotate_left
          ·show Act.put _ (some 30) _ = _
           simp only [Act.put, List.setIfInBounds_toArray, List.set_cons_zero, List.set_cons_succ, i64_w, i32_w]
           rfl
          refine pure_ (i := 16) (N := some 3) (v := ?_) (a' := ?_) #[true, true, true, true, true, true, true, true, true, true, true, true, true, true, true, true, true] rfl rfl (any_of HT_.out (by kernel_rfl)) (fun _ _ _ h => h) (Or.inl ⟨by rfl, ?_⟩) ?_ ?_
          rotate_left
          ·intro w'
           go_simp
           with_reducible rfl
          rotate_left
          ·simp only [Act.put, List.setIfInBounds_toArray, List.set_cons_zero, List.set_cons_succ, i64_w, i32_w]
           rfl
          refine done_ (done_of HT_.out (by kernel_rfl)) ?_
          try go_wp2
          go_roundg k1
          case measure => have := HK1.out; omega
          case rel => exact ⟨(y169), (wrap64 (x4_1 + 1)), (by first | rfl | (simp; done) | (simp [*]; done)), H', ⟨by have := HK1.out; omega⟩, ⟨by (with_reducible repeat (first | apply Kd.S_alloc | apply Kd.S_drewN | apply Kd.S_drew)); exact HO171.out⟩, ⟨by repeat (first | (with_reducible first | exact HB.out | apply below_alloc | apply pw_below_drewN | apply below_drew1) | exact HB.out)⟩⟩
         ·rw [if_neg c9] at H
          exact absurd H (by simp)
        ·rw [if_neg c8] at H
         exact absurd H (by simp)
       ·rw [if_neg c7] at H
        exact absurd H (by simp)
      ·rw [if_neg c6] at H
       exact absurd H (by simp)
     ·rw [if_neg c4] at H
      exact absurd H (by simp)
    ·rw [if_neg c3] at H
     have c3b0 : decide (x4_1 < 40) = false := decide_eq_false c3
     clear c3
     obtain rfl := Option.some.inj H
     go_wp2
     go_ret
     exact ⟨_, by first | rfl | (simp [errW_none, errW_some] <;> rfl) | (simp [*, errW_none, errW_some] <;> rfl), by (with_reducible repeat (first | apply Kd.S_alloc | apply Kd.S_drewN | apply Kd.S_drew)); exact HO_3.out, by repeat (first | (with_reducible first | exact HB.out | apply below_alloc | apply pw_below_drewN | apply below_drew1) | exact HB.out)⟩
   ·rw [if_neg c2] at H
    have c2b0 : decide (x4_1 < (l0.length : Int)) = false := decide_eq_false c2
    clear c2
    obtain rfl := Option.some.inj H
    go_wp2
    go_ret
    exact ⟨_, by first | rfl | (simp [errW_none, errW_some] <;> rfl) | (simp [*, errW_none, errW_some] <;> rfl), by (with_reducible repeat (first | apply Kd.S_alloc | apply Kd.S_drewN | apply Kd.S_drew)); exact HO_3.out, by repeat (first | (with_reducible first | exact HB.out | apply below_alloc | apply pw_below_drewN | apply below_drew1) | exact HB.out)⟩

end Go.Proofs.Ytmdjlhmifhnpdaa.Q
