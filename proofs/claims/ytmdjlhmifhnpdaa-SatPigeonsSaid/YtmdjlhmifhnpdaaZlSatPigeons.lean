/- Texts of this seat, joined by a program of this session (wip/tools/pack.py). -/
import Derived.Test.YtmdjlhmifhnpdaaProg
import Derived.Below
import Derived.Deep.Draws
import Derived.Deep.AppendLies
import Derived.Maps.AppendAt
import Derived.OwnWalk
import Derived.Laws.BytesArg
import Derived.Laws.MakeOwn
import Derived.Laws.OwnMore
import Derived.Deep.OwnRows
import Derived.Tactics
import Derived.Lib.ConvBytes
import Derived.Laws.Slices
import Derived.WalkKit
import Derived.KernelRfl
import Derived.RowKit3
import Derived.Deep.LoopGhost
import Derived.Deep.QuietTactic
import Derived.BigQuiet
import Derived.WideLaws
import Derived.Deep.DeepCutAuto
import Derived.Deep.CutBlock
import Derived.Deep.RegionHeld3
import Derived.Laws.Rows
import Derived.Lib.AppendStr
import Derived.ArgAppend
import Derived.Laws.IdiomCopy
import Derived.OrdersHeld
import Derived.Laws.BitsLemmas
import Derived.RowKit
import Derived.ScopeJumps
import Derived.WalkMore
import Derived.Laws.CopyOwn
import Derived.Deep.Slices
import Derived.WalkSpells
import Derived.Outline
import Derived.Test.YtmdjlhmifhnpdaaZd
import Derived.Test.YtmdjlhmifhnpdaaZc
import Derived.Test.YtmdjlhmifhnpdaaZw
import Derived.Test.YtmdjlhmifhnpdaaZf
import Derived.Test.YtmdjlhmifhnpdaaZq1
import Derived.Test.YtmdjlhmifhnpdaaZq2
import Derived.Test.YtmdjlhmifhnpdaaZq3
namespace Go.Proofs.Ytmdjlhmifhnpdaa.Q
open Go.RowKit Go.Proofs.YtmdjlhmifhnpdaaW.PrintWords Go.Proofs.YtmdjlhmifhnpdaaW.PrintLast Go.Proofs.YtmdjlhmifhnpdaaW.PrintMore
attribute [local go_sem] max2_int min2_int max_two min_two max_three min_three max_four min_four   -- for this text's walks alone
set_option linter.unusedVariables false
set_option linter.unusedSimpArgs false

/-! ### ashlarlaw09_SatPigeons: function 5 -/
mutual
def ashlarlaw09_SatPigeons.l0 : Nat → Int → Int → Bool → List (List Int) → Int → Option (Bool)
 | 0, _, _, _, _, _ => none
 | k + 1, x0, x1, x5, x6, x7 => if x7 < x0 then (ashlarlaw09_SatPigeons.l1 k x0 x1 x5 x6 x7 ([] : List Int) 1) else ((sat_Solve.f k x6 (wrap64 (x0 * x1)) 600000).bind fun bt323 => (if x5 = true then ((ashlarref09_Good.f k x6 (wrap64 (x0 * x1)) bt323.1 bt323.2.1 bt323.2.2).bind fun t330 => (if t330 = true then (if ((bt323.1 == 1) == (decide (x0 ≤ x1))) = true then (some (bt323.1 != 0)) else (some false)) else (some false))) else (some false)))
def ashlarlaw09_SatPigeons.l1 : Nat → Int → Int → Bool → List (List Int) → Int → List Int → Int → Option (Bool)
 | 0, _, _, _, _, _, _, _ => none
 | k + 1, x0, x1, x5, x6, x7, x8, x9 => if x9 ≤ x1 then (if x8.length < 17592186044416 then (ashlarlaw09_SatPigeons.l2 k x0 x1 x5 x6 x7 (x8 ++ [wrap64 ((wrap64 (x7 * x1)) + x9)]) x9 0) else (none)) else (if x6.length < 5864062014805 then (ashlarlaw09_SatPigeons.l0 k x0 x1 x5 (x6 ++ [x8]) (wrap64 (x7 + 1))) else (none))
def ashlarlaw09_SatPigeons.l2 : Nat → Int → Int → Bool → List (List Int) → Int → List Int → Int → Int → Option (Bool)
 | 0, _, _, _, _, _, _, _, _ => none
 | k + 1, x0, x1, x5, x6, x7, x8, x9, x10 => if x10 < x7 then (if x6.length < 5864062014805 then (ashlarlaw09_SatPigeons.l2 k x0 x1 x5 (x6 ++ [(([wrap64 (-(wrap64 ((wrap64 (x7 * x1)) + x9))), wrap64 (-(wrap64 ((wrap64 (x10 * x1)) + x9)))] : List Int))]) x7 x8 x9 (wrap64 (x10 + 1))) else (none)) else (ashlarlaw09_SatPigeons.l1 k x0 x1 x5 x6 x7 x8 (wrap64 (x9 + 1)))
end
def ashlarlaw09_SatPigeons.f (k : Nat) (a0 : Int) (a1 : Int) : Option (Bool) := (ashlarlaw09_shown.f k).bind fun t322 => (ashlarlaw09_SatPigeons.l0 k (Int.tmod (Go.bits .and .i64 a0 65535) 5) (wrap64 (1 + (Int.tmod (Go.bits .and .i64 a1 65535) 3))) t322 ([] : List (List Int)) 0)
theorem ashlarlaw09_SatPigeons.mono_l : ∀ k, (∀ y0 y1 y2 y3 y4, LeO (ashlarlaw09_SatPigeons.l0 k y0 y1 y2 y3 y4) (ashlarlaw09_SatPigeons.l0 (k + 1) y0 y1 y2 y3 y4)) ∧ (∀ y0 y1 y2 y3 y4 y5 y6, LeO (ashlarlaw09_SatPigeons.l1 k y0 y1 y2 y3 y4 y5 y6) (ashlarlaw09_SatPigeons.l1 (k + 1) y0 y1 y2 y3 y4 y5 y6)) ∧ (∀ y0 y1 y2 y3 y4 y5 y6 y7, LeO (ashlarlaw09_SatPigeons.l2 k y0 y1 y2 y3 y4 y5 y6 y7) (ashlarlaw09_SatPigeons.l2 (k + 1) y0 y1 y2 y3 y4 y5 y6 y7))
 | 0 => ⟨fun _ _ _ _ _ r h => by simp [ashlarlaw09_SatPigeons.l0] at h, fun _ _ _ _ _ _ _ r h => by simp [ashlarlaw09_SatPigeons.l1] at h, fun _ _ _ _ _ _ _ _ r h => by simp [ashlarlaw09_SatPigeons.l2] at h⟩
 | k + 1 => by
  obtain ⟨ih0, ih1, ih2⟩ := ashlarlaw09_SatPigeons.mono_l k
  refine ⟨?_, ?_, ?_⟩
  ·intro y0 y1 y2 y3 y4
   unfold ashlarlaw09_SatPigeons.l0
   repeat' first
   | (with_reducible exact ih0 _ _ _ _ _)
   | (with_reducible exact ih1 _ _ _ _ _ _ _)
   | (with_reducible exact ih2 _ _ _ _ _ _ _ _)
   | (with_reducible exact ashlarlaw09_shown.mono _)
   | (with_reducible exact ashlarref09_Good.mono _ _ _ _ _ _)
   | (with_reducible exact sat_Solve.mono _ _ _ _)
   | (with_reducible exact LeO.refl _)
   | (with_reducible exact LeO.none _)
   | (with_reducible refine LeO.ite ?_ ?_)
   | (with_reducible refine LeO.bind ?_ (fun _ => ?_))
   | exact ih0 _ _ _ _ _
   | exact ih1 _ _ _ _ _ _ _
   | exact ih2 _ _ _ _ _ _ _ _
   | exact ashlarlaw09_shown.mono _
   | exact ashlarref09_Good.mono _ _ _ _ _ _
   | exact sat_Solve.mono _ _ _ _
   | exact LeO.none _
   | refine LeO.ite ?_ ?_
   | refine LeO.bind ?_ (fun _ => ?_)
  ·intro y0 y1 y2 y3 y4 y5 y6
   unfold ashlarlaw09_SatPigeons.l1
   repeat' first
   | (with_reducible exact ih0 _ _ _ _ _)
   | (with_reducible exact ih1 _ _ _ _ _ _ _)
   | (with_reducible exact ih2 _ _ _ _ _ _ _ _)
   | (with_reducible exact ashlarlaw09_shown.mono _)
   | (with_reducible exact ashlarref09_Good.mono _ _ _ _ _ _)
   | (with_reducible exact sat_Solve.mono _ _ _ _)
   | (with_reducible exact LeO.refl _)
   | (with_reducible exact LeO.none _)
   | (with_reducible refine LeO.ite ?_ ?_)
   | (with_reducible refine LeO.bind ?_ (fun _ => ?_))
   | exact ih0 _ _ _ _ _
   | exact ih1 _ _ _ _ _ _ _
   | exact ih2 _ _ _ _ _ _ _ _
   | exact ashlarlaw09_shown.mono _
   | exact ashlarref09_Good.mono _ _ _ _ _ _
   | exact sat_Solve.mono _ _ _ _
   | exact LeO.none _
   | refine LeO.ite ?_ ?_
   | refine LeO.bind ?_ (fun _ => ?_)
  ·intro y0 y1 y2 y3 y4 y5 y6 y7
   unfold ashlarlaw09_SatPigeons.l2
   repeat' first
   | (with_reducible exact ih0 _ _ _ _ _)
   | (with_reducible exact ih1 _ _ _ _ _ _ _)
   | (with_reducible exact ih2 _ _ _ _ _ _ _ _)
   | (with_reducible exact ashlarlaw09_shown.mono _)
   | (with_reducible exact ashlarref09_Good.mono _ _ _ _ _ _)
   | (with_reducible exact sat_Solve.mono _ _ _ _)
   | (with_reducible exact LeO.refl _)
   | (with_reducible exact LeO.none _)
   | (with_reducible refine LeO.ite ?_ ?_)
   | (with_reducible refine LeO.bind ?_ (fun _ => ?_))
   | exact ih0 _ _ _ _ _
   | exact ih1 _ _ _ _ _ _ _
   | exact ih2 _ _ _ _ _ _ _ _
   | exact ashlarlaw09_shown.mono _
   | exact ashlarref09_Good.mono _ _ _ _ _ _
   | exact sat_Solve.mono _ _ _ _
   | exact LeO.none _
   | refine LeO.ite ?_ ?_
   | refine LeO.bind ?_ (fun _ => ?_)
theorem ashlarlaw09_SatPigeons.mono : ∀ a0 a1 k, LeO (ashlarlaw09_SatPigeons.f k a0 a1) (ashlarlaw09_SatPigeons.f (k + 1) a0 a1) := by
 intro a0 a1 k
 obtain ⟨ih0, ih1, ih2⟩ := ashlarlaw09_SatPigeons.mono_l k
 unfold ashlarlaw09_SatPigeons.f
 repeat' first
   | (with_reducible exact ih0 _ _ _ _ _)
   | (with_reducible exact ih1 _ _ _ _ _ _ _)
   | (with_reducible exact ih2 _ _ _ _ _ _ _ _)
   | (with_reducible exact ashlarlaw09_shown.mono _)
   | (with_reducible exact ashlarref09_Good.mono _ _ _ _ _ _)
   | (with_reducible exact sat_Solve.mono _ _ _ _)
   | (with_reducible exact LeO.refl _)
   | (with_reducible exact LeO.none _)
   | (with_reducible refine LeO.ite ?_ ?_)
   | (with_reducible refine LeO.bind ?_ (fun _ => ?_))
   | exact ih0 _ _ _ _ _
   | exact ih1 _ _ _ _ _ _ _
   | exact ih2 _ _ _ _ _ _ _ _
   | exact ashlarlaw09_shown.mono _
   | exact ashlarref09_Good.mono _ _ _ _ _ _
   | exact sat_Solve.mono _ _ _ _
   | exact LeO.none _
   | refine LeO.ite ?_ ?_
   | refine LeO.bind ?_ (fun _ => ?_)
set_option maxHeartbeats 8000000 in
set_option maxRecDepth 100000 in
theorem ashlarlaw09_SatPigeons.calls (k : Nat) (a0 : Int) (a1 : Int) (r : Bool) (w : World) (h : ashlarlaw09_SatPigeons.f k a0 a1 = some r) :
  Calls Try.prog 5 #[.int .i64 a0, .int .i64 a1] w fun e w' => e = .returned (.bool r) ∧ Below w.heap.size w w' := by
 have HB := Aside0.mk (Below.refl w.heap.size w)
 have H : ((ashlarlaw09_shown.f k).bind fun t322 => (ashlarlaw09_SatPigeons.l0 k (Int.tmod (Go.bits .and .i64 a0 65535) 5) (wrap64 (1 + (Int.tmod (Go.bits .and .i64 a1 65535) 3))) t322 ([] : List (List Int)) 0)) = some r := h
 clear h
 replace H := Option.bind_eq_some_iff.mp H
 obtain ⟨t322, A30, H⟩ := H
 replace H : (ashlarlaw09_SatPigeons.l0 k (Int.tmod (Go.bits .and .i64 a0 65535) 5) (wrap64 (1 + (Int.tmod (Go.bits .and .i64 a1 65535) 3))) t322 ([] : List (List Int)) 0) = some r := H
 have A3 := Aside0.mk A30
 clear A30
 have H' := Aside0.mk H
 clear H
 go_enter Try.func5, Try.ntmps5
 go_wp2_with (first | ((with_reducible refine gate_callee (f := 12) rfl ?_); refine goesL_ (some 14) rfl rfl Try.func12 (by kernel_rfl) rfl #[] rfl (by (try simp only [List.map_toArray, List.map_cons, List.map_nil]); first | done | rfl | (simp only [List.length_drop, List.length_take]; rfl)) ?_; (with_reducible refine (ashlarlaw09_shown.calls k  t322 _ A3.out).mono ?_); rintro e w4 ⟨rfl, hb⟩; refine ⟨_, rfl, ?_⟩; have n0_ := Aside0.mk (below_step (by repeat (first | (with_reducible first | exact HB.out | apply below_alloc | apply pw_below_drewN | apply below_drew1) | exact HB.out)) hb); clear HB; have HB := n0_; clear n0_; (try clear hb); (try clear hb2); (try clear hk); (try clear hi)))
 go_loopg [6, 7] k (fun kq v6 v7 w' => ∃ (x6_1 : List (List Int)) (x7_1 : Int), v7 = .int .i64 x7_1 ∧ Aside0 (ashlarlaw09_SatPigeons.l0 kq (Int.tmod (Go.bits .and .i64 a0 65535) 5) (wrap64 (1 + (Int.tmod (Go.bits .and .i64 a1 65535) 3))) t322 x6_1 x7_1 = some r) ∧ Aside0 (kq ≤ k) ∧ Aside0 (Kd.S (Kd.slice 3 (Kd.int .i64)) 32 w' w.heap.size (fun _ => True) v6 x6_1) ∧ Aside0 (Below w.heap.size w w'))
 case atStart => exact ⟨(([] : List (List Int))), (0), (by first | rfl | (simp; done) | (simp [*]; done)), H', ⟨Nat.le_refl _⟩, ⟨by first | exact Kd.S_nil _ _ _ _ _ | exact Kd.N_nil _ _ _ _ _ | exact Kd.V_nil _ _ _ _ _ | exact Kd.Q_nil _ _ _ _ _ | exact Kd.R_nil _ _ _ _ _⟩, ⟨by repeat (first | (with_reducible first | exact HB.out | apply below_alloc | apply pw_below_drewN | apply below_drew1) | exact HB.out)⟩⟩
 case round =>
  clear H'
  try clear c1
  try clear p2
  obtain ⟨x6_1, x7_1, rfl, HA, HK1, HO_6, HB⟩ := hrel
  cases gk with
  | zero => exact absurd HA.out (by simp [ashlarlaw09_SatPigeons.l0])
  | succ k1 =>
   have H := HA.out
   clear HA
   simp only [ashlarlaw09_SatPigeons.l0] at H
   by_cases c5 : x7_1 < (Int.tmod (Go.bits .and .i64 a0 65535) 5)
   ·rw [if_pos c5] at H
    have c5b0 : decide (x7_1 < (Int.tmod (Go.bits .and .i64 a0 65535) 5)) = true := decide_eq_true c5
    clear c5
    have H' := Aside0.mk H
    clear H
    go_wp2
    go_loopg [6, 8, 9] k1 (fun kq v6 v8 v9 w' => ∃ (x6_2 : List (List Int)) (x8_2 : List Int) (x9_2 : Int), v9 = .int .i64 x9_2 ∧ Aside0 (ashlarlaw09_SatPigeons.l1 kq (Int.tmod (Go.bits .and .i64 a0 65535) 5) (wrap64 (1 + (Int.tmod (Go.bits .and .i64 a1 65535) 3))) t322 x6_2 x7_1 x8_2 x9_2 = some r) ∧ Aside0 (kq ≤ k1) ∧ Aside0 (Kd.S (Kd.slice 3 (Kd.int .i64)) 32 w' w.heap.size (fun k_ => some k_ ≠ (v8 : Value).ownBlock) v6 x6_2) ∧ Aside0 (Kd.R (Kd.int .i64) 3 w' w.heap.size (fun _ => True) v8 x8_2) ∧ Aside0 (Below w.heap.size w w'))
    case atStart => exact ⟨(x6_1), (([] : List Int)), (1), (by first | rfl | (simp; done) | (simp [*]; done)), H', ⟨Nat.le_refl _⟩, ⟨by (with_reducible repeat (first | apply Kd.S_alloc | apply Kd.S_drewN | apply Kd.S_drew)); exact Kd.S_mono HO_6.out (fun _ hk => (by simp [Value.ownBlock]))⟩, ⟨by first | exact Kd.R_nil _ _ _ _ _ | exact Kd.N_nil _ _ _ _ _ | exact Kd.V_nil _ _ _ _ _ | exact Kd.Q_nil _ _ _ _ _ | exact Kd.S_nil _ _ _ _ _⟩, ⟨by repeat (first | (with_reducible first | exact HB.out | apply below_alloc | apply pw_below_drewN | apply below_drew1) | exact HB.out)⟩⟩
    case round =>
     clear H'
     try clear c1
     try clear p2
     try clear c5
     try clear c5b0
     try clear p2
     obtain ⟨x6_2, x8_2, x9_2, rfl, HA, HK2, HO_6, HO_8, HB⟩ := hrel
     cases gk with
     | zero => exact absurd HA.out (by simp [ashlarlaw09_SatPigeons.l1])
     | succ k2 =>
      have H := HA.out
      clear HA
      simp only [ashlarlaw09_SatPigeons.l1] at H
      by_cases c6 : x9_2 ≤ (wrap64 (1 + (Int.tmod (Go.bits .and .i64 a1 65535) 3)))
      ·rw [if_pos c6] at H
       have c6b0 : decide (x9_2 ≤ (wrap64 (1 + (Int.tmod (Go.bits .and .i64 a1 65535) 3)))) = true := decide_eq_true c6
       clear c6
       by_cases c7 : x8_2.length < 17592186044416
       ·rw [if_pos c7] at H
        have LMc7 := Aside0.mk c7
        clear c7
        obtain ⟨y334, hy334⟩ : ∃ y_ : List Int, y_ = (x8_2 ++ [wrap64 ((wrap64 (x7_1 * (wrap64 (1 + (Int.tmod (Go.bits .and .i64 a1 65535) 3))))) + x9_2)]) := ⟨_, rfl⟩
        replace H : (ashlarlaw09_SatPigeons.l2 k2 (Int.tmod (Go.bits .and .i64 a0 65535) 5) (wrap64 (1 + (Int.tmod (Go.bits .and .i64 a1 65535) 3))) t322 x6_2 x7_1 y334 x9_2 0) = some r := by first | (rw [hy334]; with_reducible exact H) | (have H2_ := (Option.bind_some _ _).symm.trans H; rw [hy334]; with_reducible exact H2_) | (have H2_ := (Option.bind_some _ _).symm.trans H; with_reducible exact H2_) | with_reducible exact H | (rw [hy334]; exact H) | exact H
        have Ny334 := Aside0.mk hy334
        clear hy334
        have H' := Aside0.mk H
        clear H
        go_wp2_with (first | ((with_reducible refine gate_builtin (b := .append) (xs := #[.tmp 32, .tmp 38]) rfl ?_); at_builtin; refine Kd.R_append (Kd.int .i64) (w0 := w) w.heap.size rfl (.tmp 32) (.tmp 38) 32 3 (.int .i64 0) 8 rfl Try.underlying32 info3 rfl (by decide) (by omega) u8 x8_2 (wrap64 ((wrap64 (x7_1 * (wrap64 (1 + (Int.tmod (Go.bits .and .i64 a1 65535) 3))))) + x9_2)) [.int .i64 (wrap64 ((wrap64 (x7_1 * (wrap64 (1 + (Int.tmod (Go.bits .and .i64 a1 65535) 3))))) + x9_2))] (fun _ => True) (fun _ => False) rfl rfl ?aP (fun _ hk => hk.elim) ?aF ?aO ?aB ?aS ?aL ?_; (case aP => exact rfl); (case aB => exact (by repeat (first | (with_reducible first | exact HB.out | apply below_alloc | apply pw_below_drewN | apply below_drew1) | exact HB.out))); (case aF => exact (fun _ _ => trivial)); (case aO => exact (by (with_reducible repeat (first | apply Kd.R_alloc | apply Kd.R_drewN | apply Kd.R_drew)); exact HO_8.out)); (case aS => exact (below_size (by repeat (first | (with_reducible first | exact HB.out | apply below_alloc | apply pw_below_drewN | apply below_drew1) | exact HB.out)))); (case aL => have := LMc7.out; omega); intro v335 w8 ho hb hg hat; rw [← Ny334.out] at ho; have n0_ := Aside0.mk (Kd.S_after (ok := (fun _ => True)) (by (with_reducible repeat (first | apply Kd.S_alloc | apply Kd.S_drewN | apply Kd.S_drew)); exact Kd.S_mono HO_6.out (fun _ hk => ⟨trivial, hk⟩)) hg hat); have n1_ := Aside0.mk (hb); have n2_ := Aside0.mk (ho); clear HO_6; clear HB; clear HO_8; have HO_6 := n0_; have HB := n1_; have HO336 := n2_; clear n0_ n1_ n2_; clear ho hb hg hat))
        go_loopg [6, 10] k2 (fun kq v6 v10 w' => ∃ (x6_3 : List (List Int)) (x10_3 : Int), v10 = .int .i64 x10_3 ∧ Aside0 (ashlarlaw09_SatPigeons.l2 kq (Int.tmod (Go.bits .and .i64 a0 65535) 5) (wrap64 (1 + (Int.tmod (Go.bits .and .i64 a1 65535) 3))) t322 x6_3 x7_1 y334 x9_2 x10_3 = some r) ∧ Aside0 (kq ≤ k2) ∧ Aside0 (Kd.S (Kd.slice 3 (Kd.int .i64)) 32 w' w.heap.size (fun k_ => some k_ ≠ (v335 : Value).ownBlock) v6 x6_3) ∧ Aside0 (Kd.R (Kd.int .i64) 3 w' w.heap.size (fun _ => True) v335 y334) ∧ Aside0 (Below w.heap.size w w'))
        case atStart => exact ⟨(x6_2), (0), (by first | rfl | (simp; done) | (simp [*]; done)), H', ⟨Nat.le_refl _⟩, ⟨by (with_reducible repeat (first | apply Kd.S_alloc | apply Kd.S_drewN | apply Kd.S_drew)); exact Kd.S_mono HO_6.out (fun _ hk => hk.2)⟩, ⟨by (with_reducible repeat (first | apply Kd.R_alloc | apply Kd.R_drewN | apply Kd.R_drew)); exact HO336.out⟩, ⟨by repeat (first | (with_reducible first | exact HB.out | apply below_alloc | apply pw_below_drewN | apply below_drew1) | exact HB.out)⟩⟩
        case round =>
         clear H'
         try clear c1
         try clear p2
         try clear c5
         try clear c5b0
         try clear c6
         try clear c6b0
         try clear p6
         try clear c7
         try clear p2
         obtain ⟨x6_3, x10_3, rfl, HA, HK3, HO_6, HO_8, HB⟩ := hrel
         cases gk with
         | zero => exact absurd HA.out (by simp [ashlarlaw09_SatPigeons.l2])
         | succ k3 =>
          have H := HA.out
          clear HA
          simp only [ashlarlaw09_SatPigeons.l2] at H
          by_cases c9 : x10_3 < x7_1
          ·rw [if_pos c9] at H
           have c9b0 : decide (x10_3 < x7_1) = true := decide_eq_true c9
           clear c9
           obtain ⟨y337, hy337⟩ : ∃ y_ : List Int, y_ = (([wrap64 (-(wrap64 ((wrap64 (x7_1 * (wrap64 (1 + (Int.tmod (Go.bits .and .i64 a1 65535) 3))))) + x9_2))), wrap64 (-(wrap64 ((wrap64 (x10_3 * (wrap64 (1 + (Int.tmod (Go.bits .and .i64 a1 65535) 3))))) + x9_2)))] : List Int)) := ⟨_, rfl⟩
           replace H : (if x6_3.length < 5864062014805 then (ashlarlaw09_SatPigeons.l2 k3 (Int.tmod (Go.bits .and .i64 a0 65535) 5) (wrap64 (1 + (Int.tmod (Go.bits .and .i64 a1 65535) 3))) t322 (x6_3 ++ [y337]) x7_1 y334 x9_2 (wrap64 (x10_3 + 1))) else (none)) = some r := by first | (rw [hy337]; with_reducible exact H) | (have H2_ := (Option.bind_some _ _).symm.trans H; rw [hy337]; with_reducible exact H2_) | (have H2_ := (Option.bind_some _ _).symm.trans H; with_reducible exact H2_) | with_reducible exact H | (rw [hy337]; exact H) | exact H
           have Ny337 := Aside0.mk hy337
           clear hy337
           by_cases c10 : x6_3.length < 5864062014805
           ·rw [if_pos c10] at H
            have LMc10 := Aside0.mk c10
            clear c10
            obtain ⟨y340, hy340⟩ : ∃ y_ : List (List Int), y_ = (x6_3 ++ [y337]) := ⟨_, rfl⟩
            replace H : (ashlarlaw09_SatPigeons.l2 k3 (Int.tmod (Go.bits .and .i64 a0 65535) 5) (wrap64 (1 + (Int.tmod (Go.bits .and .i64 a1 65535) 3))) t322 y340 x7_1 y334 x9_2 (wrap64 (x10_3 + 1))) = some r := by first | (rw [hy340]; with_reducible exact H) | (have H2_ := (Option.bind_some _ _).symm.trans H; rw [hy340]; with_reducible exact H2_) | (have H2_ := (Option.bind_some _ _).symm.trans H; with_reducible exact H2_) | with_reducible exact H | (rw [hy340]; exact H) | exact H
            have Ny340 := Aside0.mk hy340
            clear hy340
            have H' := Aside0.mk H
            clear H
            go_wp2_with (first | ((with_reducible refine gate_dst (N := 58) rfl ?_); refine Kd.R_lit (Kd.int .i64) _ 3 ?hg (N := 58) ?hd (xs := ([wrap64 (-(wrap64 ((wrap64 (x7_1 * (wrap64 (1 + (Int.tmod (Go.bits .and .i64 a1 65535) 3))))) + x9_2))), wrap64 (-(wrap64 ((wrap64 (x10_3 * (wrap64 (1 + (Int.tmod (Go.bits .and .i64 a1 65535) 3))))) + x9_2)))] : List Int)) (inner := [.int .i64 (wrap64 (-(wrap64 ((wrap64 (x7_1 * (wrap64 (1 + (Int.tmod (Go.bits .and .i64 a1 65535) 3))))) + x9_2)))), .int .i64 (wrap64 (-(wrap64 ((wrap64 (x10_3 * (wrap64 (1 + (Int.tmod (Go.bits .and .i64 a1 65535) 3))))) + x9_2))))]) (ok := fun _ => True) (okp := fun _ => True) ?hr ?hp (fun _ hk => hk) trivial (Below.refl _ _) (Nat.le_refl _) (by simp) ?_; (case hd => rfl); (case hg => rfl); (case hr => first | (go_simp; done) | (go_simp; rfl)); (case hp => exact (Reps.one (show Kd.M (Kd.int .i64) _ _ _ (wrap64 (-(wrap64 ((wrap64 (x7_1 * (wrap64 (1 + (Int.tmod (Go.bits .and .i64 a1 65535) 3))))) + x9_2)))) [.int .i64 (wrap64 (-(wrap64 ((wrap64 (x7_1 * (wrap64 (1 + (Int.tmod (Go.bits .and .i64 a1 65535) 3))))) + x9_2))))] from rfl) (Reps.one (show Kd.M (Kd.int .i64) _ _ _ (wrap64 (-(wrap64 ((wrap64 (x10_3 * (wrap64 (1 + (Int.tmod (Go.bits .and .i64 a1 65535) 3))))) + x9_2)))) [.int .i64 (wrap64 (-(wrap64 ((wrap64 (x10_3 * (wrap64 (1 + (Int.tmod (Go.bits .and .i64 a1 65535) 3))))) + x9_2))))] from rfl) (Reps.none _ _)))); intro v338 w11 ho12 hb hg_ hnew_; clear hg_ hnew_; (first | rw [← Ny337.out] at ho12 | (simp only [Int.reduceToNat] at ho12; rw [← Ny337.out] at ho12)); have n0_ := Aside0.mk (Kd.S_elder' (by (with_reducible repeat (first | apply Kd.S_alloc | apply Kd.S_drewN | apply Kd.S_drew)); exact HO_6.out) (Kd.R_base ho12) hb); have n1_ := Aside0.mk (Kd.R_elder' (by (with_reducible repeat (first | apply Kd.R_alloc | apply Kd.R_drewN | apply Kd.R_drew)); exact HO_8.out) (Kd.R_base ho12) hb); have n2_ := Aside0.mk (Kd.R_lower (Kd.R_new' ho12 (Kd.R_lt (by (with_reducible repeat (first | apply Kd.R_alloc | apply Kd.R_drewN | apply Kd.R_drew)); exact HO_8.out))) (below_size (by repeat (first | (with_reducible first | exact HB.out | apply below_alloc | apply pw_below_drewN | apply below_drew1) | exact HB.out)))); have n3_ := Aside0.mk (below_step (by repeat (first | (with_reducible first | exact HB.out | apply below_alloc | apply pw_below_drewN | apply below_drew1) | exact HB.out)) hb); clear HO_6; clear HO_8; clear HB; have HO_6 := n0_; have HO_8 := n1_; have HO339 := n2_; have HB := n3_; clear n0_ n1_ n2_ n3_; clear hb ho12; obtain ⟨Ao14, co14, eo14⟩ := Kd.R_slice HO339.out; subst eo14) | ((with_reducible refine gate_builtin (b := .append) (xs := #[.tmp 45, .tmp 59]) rfl ?_); at_builtin; refine Kd.S_append (Kd.slice 3 (Kd.int .i64)) (w0 := w) w.heap.size rfl (.tmp 45) (.tmp 59) 22 32 (.slice none 0 0) 24 rfl Try.underlying22 info32 rfl (by decide) (by omega) u6 x6_3 y337 [.slice Ao14 y337.length co14] (fun k_ => some k_ ≠ (v335 : Value).ownBlock) (fun k_ => some k_ = (.slice Ao14 y337.length co14 : Value).ownBlock) rfl rfl ?aP (fun k_ hk_ => ((Kd.R_mono (ok' := fun k_ => ((fun k_ => some k_ ≠ (v335 : Value).ownBlock)) k_ ∧ some k_ ≠ (u6 : Value).ownBlock) (Kd.R_apart' (HO339.out) (Kd.S_typed HO_6.out) (by decide)) (fun k_ hk => ⟨hk.1.2, hk.2⟩))).1 k_ hk_.symm) ?aF ?aO ?aB ?aS ?aL ?_; (case aP => exact Kd.M_row (Kd.R_mono (Kd.R_tight rfl (Kd.R_mono (ok' := fun k_ => ((fun k_ => some k_ ≠ (v335 : Value).ownBlock)) k_ ∧ some k_ ≠ (u6 : Value).ownBlock) (Kd.R_apart' (HO339.out) (Kd.S_typed HO_6.out) (by decide)) (fun k_ hk => ⟨hk.1.2, hk.2⟩))) (fun _ h_ => h_))); (case aB => exact (by repeat (first | (with_reducible first | exact HB.out | apply below_alloc | apply pw_below_drewN | apply below_drew1) | exact HB.out))); (case aF => exact (fun k_ hk => Kd.fresh' (Kd.R_lt (by (with_reducible repeat (first | apply Kd.R_alloc | apply Kd.R_drewN | apply Kd.R_drew)); exact HO_8.out)) k_ hk)); (case aO => exact (by (with_reducible repeat (first | apply Kd.S_alloc | apply Kd.S_drewN | apply Kd.S_drew)); exact Kd.S_mono HO_6.out (fun k_ hk => ⟨hk.1, fun e_ => hk.2 e_⟩))); (case aS => exact (below_size (by repeat (first | (with_reducible first | exact HB.out | apply below_alloc | apply pw_below_drewN | apply below_drew1) | exact HB.out)))); (case aL => have := LMc10.out; omega); intro v341 w13 ho hb hg hat; rw [← Ny340.out] at ho; have n0_ := Aside0.mk (Kd.R_over' (by (with_reducible repeat (first | apply Kd.R_alloc | apply Kd.R_drewN | apply Kd.R_drew)); exact HO_8.out) (Kd.S_typed (by (with_reducible repeat (first | apply Kd.S_alloc | apply Kd.S_drewN | apply Kd.S_drew)); exact HO_6.out)) (by decide) hg); have n1_ := Aside0.mk (hb); have n2_ := Aside0.mk (ho); clear HO_8; clear HB; clear HO_6; clear HO339; have HO_8 := n0_; have HB := n1_; have HO342 := n2_; clear n0_ n1_ n2_; clear ho hb hg hat))
            go_roundg k3
            case measure => have := HK1.out; have := HK2.out; have := HK3.out; omega
            case rel => exact ⟨(y340), (wrap64 (x10_3 + 1)), (by first | rfl | (simp; done) | (simp [*]; done)), H', ⟨by have := HK1.out; have := HK2.out; have := HK3.out; omega⟩, ⟨by (with_reducible repeat (first | apply Kd.S_alloc | apply Kd.S_drewN | apply Kd.S_drew)); exact HO342.out⟩, ⟨by (with_reducible repeat (first | apply Kd.R_alloc | apply Kd.R_drewN | apply Kd.R_drew)); exact Kd.R_mono HO_8.out (fun _ hk => trivial)⟩, ⟨by repeat (first | (with_reducible first | exact HB.out | apply below_alloc | apply pw_below_drewN | apply below_drew1) | exact HB.out)⟩⟩
           ·rw [if_neg c10] at H
            exact absurd H (by simp)
          ·rw [if_neg c9] at H
           have c9b0 : decide (x10_3 < x7_1) = false := decide_eq_false c9
           clear c9
           have H' := Aside0.mk H
           clear H
           go_wp2
           go_roundg k3
           case measure => have := HK1.out; have := HK2.out; have := HK3.out; omega
           case rel => exact ⟨(x6_3), (y334), (wrap64 (x9_2 + 1)), (by first | rfl | (simp; done) | (simp [*]; done)), H', ⟨by have := HK1.out; have := HK2.out; have := HK3.out; omega⟩, ⟨by (with_reducible repeat (first | apply Kd.S_alloc | apply Kd.S_drewN | apply Kd.S_drew)); exact HO_6.out⟩, ⟨by (with_reducible repeat (first | apply Kd.R_alloc | apply Kd.R_drewN | apply Kd.R_drew)); exact HO_8.out⟩, ⟨by repeat (first | (with_reducible first | exact HB.out | apply below_alloc | apply pw_below_drewN | apply below_drew1) | exact HB.out)⟩⟩
       ·rw [if_neg c7] at H
        exact absurd H (by simp)
      ·rw [if_neg c6] at H
       have c6b0 : decide (x9_2 ≤ (wrap64 (1 + (Int.tmod (Go.bits .and .i64 a1 65535) 3)))) = false := decide_eq_false c6
       clear c6
       by_cases c15 : x6_2.length < 5864062014805
       ·rw [if_pos c15] at H
        have LMc15 := Aside0.mk c15
        clear c15
        obtain ⟨y331, hy331⟩ : ∃ y_ : List (List Int), y_ = (x6_2 ++ [x8_2]) := ⟨_, rfl⟩
        replace H : (ashlarlaw09_SatPigeons.l0 k2 (Int.tmod (Go.bits .and .i64 a0 65535) 5) (wrap64 (1 + (Int.tmod (Go.bits .and .i64 a1 65535) 3))) t322 y331 (wrap64 (x7_1 + 1))) = some r := by first | (rw [hy331]; with_reducible exact H) | (have H2_ := (Option.bind_some _ _).symm.trans H; rw [hy331]; with_reducible exact H2_) | (have H2_ := (Option.bind_some _ _).symm.trans H; with_reducible exact H2_) | with_reducible exact H | (rw [hy331]; exact H) | exact H
        have Ny331 := Aside0.mk hy331
        clear hy331
        have H' := Aside0.mk H
        clear H
        obtain ⟨Ao17, co17, eo17⟩ := Kd.R_slice HO_8.out
        subst eo17
        go_wp2_with (first | ((with_reducible refine gate_builtin (b := .append) (xs := #[.tmp 61, .tmp 63]) rfl ?_); at_builtin; refine Kd.S_append (Kd.slice 3 (Kd.int .i64)) (w0 := w) w.heap.size rfl (.tmp 61) (.tmp 63) 22 32 (.slice none 0 0) 24 rfl Try.underlying22 info32 rfl (by decide) (by omega) u6 x6_2 x8_2 [.slice Ao17 x8_2.length co17] (fun _ => True) (fun k_ => some k_ = (.slice Ao17 x8_2.length co17 : Value).ownBlock) rfl rfl ?aP (fun k_ hk_ => ((Kd.R_mono (ok' := fun k_ => ((fun _ => True)) k_ ∧ some k_ ≠ (u6 : Value).ownBlock) (Kd.R_apart' (HO_8.out) (Kd.S_typed HO_6.out) (by decide)) (fun k_ hk => ⟨trivial, hk.2⟩))).1 k_ hk_.symm) ?aF ?aO ?aB ?aS ?aL ?_; (case aP => exact Kd.M_row (Kd.R_mono (Kd.R_tight rfl (Kd.R_mono (ok' := fun k_ => ((fun _ => True)) k_ ∧ some k_ ≠ (u6 : Value).ownBlock) (Kd.R_apart' (HO_8.out) (Kd.S_typed HO_6.out) (by decide)) (fun k_ hk => ⟨trivial, hk.2⟩))) (fun _ h_ => h_))); (case aB => exact (by repeat (first | (with_reducible first | exact HB.out | apply below_alloc | apply pw_below_drewN | apply below_drew1) | exact HB.out))); (case aF => exact (fun _ _ => trivial)); (case aO => exact (by (with_reducible repeat (first | apply Kd.S_alloc | apply Kd.S_drewN | apply Kd.S_drew)); exact Kd.S_mono HO_6.out (fun k_ hk => ⟨trivial, fun e_ => hk e_⟩))); (case aS => exact (below_size (by repeat (first | (with_reducible first | exact HB.out | apply below_alloc | apply pw_below_drewN | apply below_drew1) | exact HB.out)))); (case aL => have := LMc15.out; omega); intro v332 w16 ho hb hg hat; rw [← Ny331.out] at ho; have n0_ := Aside0.mk (hb); have n1_ := Aside0.mk (ho); clear HB; clear HO_6; clear HO_8; have HB := n0_; have HO333 := n1_; clear n0_ n1_; clear ho hb hg hat))
        go_roundg k2
        case measure => have := HK1.out; have := HK2.out; omega
        case rel => exact ⟨(y331), (wrap64 (x7_1 + 1)), (by first | rfl | (simp; done) | (simp [*]; done)), H', ⟨by have := HK1.out; have := HK2.out; omega⟩, ⟨by (with_reducible repeat (first | apply Kd.S_alloc | apply Kd.S_drewN | apply Kd.S_drew)); exact HO333.out⟩, ⟨by repeat (first | (with_reducible first | exact HB.out | apply below_alloc | apply pw_below_drewN | apply below_drew1) | exact HB.out)⟩⟩
       ·rw [if_neg c15] at H
        exact absurd H (by simp)
   ·rw [if_neg c5] at H
    have c5b0 : decide (x7_1 < (Int.tmod (Go.bits .and .i64 a0 65535) 5)) = false := decide_eq_false c5
    clear c5
    replace H := Option.bind_eq_some_iff.mp H
    obtain ⟨⟨t323, t324, t325⟩, A180, H⟩ := H
    replace H : (if t322 = true then ((ashlarref09_Good.f k1 x6_1 (wrap64 ((Int.tmod (Go.bits .and .i64 a0 65535) 5) * (wrap64 (1 + (Int.tmod (Go.bits .and .i64 a1 65535) 3))))) t323 t324 t325).bind fun t330 => (if t330 = true then (if ((t323 == 1) == (decide ((Int.tmod (Go.bits .and .i64 a0 65535) 5) ≤ (wrap64 (1 + (Int.tmod (Go.bits .and .i64 a1 65535) 3)))))) = true then (some (t323 != 0)) else (some false)) else (some false))) else (some false)) = some r := H
    have A18 := Aside0.mk A180
    clear A180
    by_cases c19 : t322 = true
    ·subst c19
     have H1 : ((ashlarref09_Good.f k1 x6_1 (wrap64 ((Int.tmod (Go.bits .and .i64 a0 65535) 5) * (wrap64 (1 + (Int.tmod (Go.bits .and .i64 a1 65535) 3))))) t323 t324 t325).bind fun t330 => (if t330 = true then (if ((t323 == 1) == (decide ((Int.tmod (Go.bits .and .i64 a0 65535) 5) ≤ (wrap64 (1 + (Int.tmod (Go.bits .and .i64 a1 65535) 3)))))) = true then (some (t323 != 0)) else (some false)) else (some false))) = some r := by rw [if_pos rfl] at H; exact H
     clear H
     have H := H1
     clear H1
     replace H := Option.bind_eq_some_iff.mp H
     obtain ⟨t330, A200, H⟩ := H
     replace H : (if t330 = true then (if ((t323 == 1) == (decide ((Int.tmod (Go.bits .and .i64 a0 65535) 5) ≤ (wrap64 (1 + (Int.tmod (Go.bits .and .i64 a1 65535) 3)))))) = true then (some (t323 != 0)) else (some false)) else (some false)) = some r := H
     have A20 := Aside0.mk A200
     clear A200
     by_cases c21 : t330 = true
     ·subst c21
      have H1 : (if ((t323 == 1) == (decide ((Int.tmod (Go.bits .and .i64 a0 65535) 5) ≤ (wrap64 (1 + (Int.tmod (Go.bits .and .i64 a1 65535) 3)))))) = true then (some (t323 != 0)) else (some false)) = some r := by rw [if_pos rfl] at H; exact H
      clear H
      have H := H1
      clear H1
      by_cases c22 : ((t323 == 1) == (decide ((Int.tmod (Go.bits .and .i64 a0 65535) 5) ≤ (wrap64 (1 + (Int.tmod (Go.bits .and .i64 a1 65535) 3)))))) = true
      ·rw [if_pos c22] at H
       have c22b0 : ((t323 == 1) == (decide ((Int.tmod (Go.bits .and .i64 a0 65535) 5) ≤ (wrap64 (1 + (Int.tmod (Go.bits .and .i64 a1 65535) 3)))))) = true := c22
       (try (have c22b1 : decide ((t323 == 1) = (decide ((Int.tmod (Go.bits .and .i64 a0 65535) 5) ≤ (wrap64 (1 + (Int.tmod (Go.bits .and .i64 a1 65535) 3)))))) = true := by simpa using c22))
       (try (have c22b2 : ((t323 == 1) == (decide ((Int.tmod (Go.bits .and .i64 a0 65535) 5) ≤ (wrap64 (1 + (Int.tmod (Go.bits .and .i64 a1 65535) 3)))))) = true := by simpa using c22))
       clear c22
       obtain rfl := Option.some.inj H
       obtain ⟨Ao23, co23, eo23⟩ := Kd.S_slice HO_6.out
       subst eo23
       go_wp2_with (first | ((with_reducible refine gate_callee (f := 14) rfl ?_); refine goesL_ (some 70) rfl rfl Try.func14 (by kernel_rfl) rfl #[.slice Ao23 x6_1.length co23, .int .i64 (wrap64 ((Int.tmod (Go.bits .and .i64 a0 65535) 5) * (wrap64 (1 + (Int.tmod (Go.bits .and .i64 a1 65535) 3))))), .int .i64 600000] rfl (by (try simp only [List.map_toArray, List.map_cons, List.map_nil]); first | done | rfl | (simp only [List.length_drop, List.length_take]; rfl)) ?_; (with_reducible refine (sat_Solve.calls k1 _ _ x6_1 (wrap64 ((Int.tmod (Go.bits .and .i64 a0 65535) 5) * (wrap64 (1 + (Int.tmod (Go.bits .and .i64 a1 65535) 3))))) 600000 t323 t324 t325 _ ?side1 ?side2 A18.out).mono ?_); (case side1 => repeat (first | exact (Kd.S_reads' HO_6.out).2.2 | (with_reducible refine Kd.C_alloc ?_ _) | (with_reducible refine Kd.C_drewN ?_ _) | (with_reducible refine Kd.C_drew ?_))); (case side2 => exact (Kd.S_reads' HO_6.out).2.1); rintro e w24 ⟨v326, v328, rfl, ho0, ho1, hb⟩; refine ⟨_, rfl, ?_⟩; have n0_ := Aside0.mk (Kd.S_elder' (by (with_reducible repeat (first | apply Kd.S_alloc | apply Kd.S_drewN | apply Kd.S_drew)); exact HO_6.out) (Kd.S_base ho1) hb); have n1_ := Aside0.mk (Kd.R_lower ho0 (below_size (by repeat (first | (with_reducible first | exact HB.out | apply below_alloc | apply pw_below_drewN | apply below_drew1) | exact HB.out)))); have n2_ := Aside0.mk (Kd.S_lower (Kd.S_new' ho1 (Kd.S_lt (by (with_reducible repeat (first | apply Kd.S_alloc | apply Kd.S_drewN | apply Kd.S_drew)); exact HO_6.out))) (below_size (by repeat (first | (with_reducible first | exact HB.out | apply below_alloc | apply pw_below_drewN | apply below_drew1) | exact HB.out)))); have n3_ := Aside0.mk (below_step (by repeat (first | (with_reducible first | exact HB.out | apply below_alloc | apply pw_below_drewN | apply below_drew1) | exact HB.out)) hb); clear HO_6; clear HB; have HO_6 := n0_; have HO327 := n1_; have HO329 := n2_; have HB := n3_; clear n0_ n1_ n2_ n3_; (try clear hb); (try clear hb2); (try clear hk); (try clear hi); (try clear ho0); (try clear ho1); obtain ⟨Ao25, co25, eo25⟩ := Kd.R_slice HO327.out; subst eo25; obtain ⟨Ao26, co26, eo26⟩ := Kd.S_slice HO329.out; subst eo26) | (go_at_call 17; (with_reducible refine (ashlarref09_Good.calls k1 _ _ x6_1 (wrap64 ((Int.tmod (Go.bits .and .i64 a0 65535) 5) * (wrap64 (1 + (Int.tmod (Go.bits .and .i64 a1 65535) 3))))) t323 _ _ t324 _ _ t325 true _ ?side1 ?side2 ?side3 ?side4 ?side5 ?side6 A20.out).mono ?_); (case side1 => repeat (first | exact (Kd.S_reads' HO_6.out).2.2 | (with_reducible refine Kd.C_alloc ?_ _) | (with_reducible refine Kd.C_drewN ?_ _) | (with_reducible refine Kd.C_drew ?_))); (case side2 => exact (Kd.S_reads' HO_6.out).2.1); (case side3 => repeat (first | exact (Kd.R_reads' HO327.out).2.2 | (with_reducible refine Kd.C_alloc ?_ _) | (with_reducible refine Kd.C_drewN ?_ _) | (with_reducible refine Kd.C_drew ?_))); (case side4 => exact (Kd.R_reads' HO327.out).2.1); (case side5 => repeat (first | exact (Kd.S_reads' HO329.out).2.2 | (with_reducible refine Kd.C_alloc ?_ _) | (with_reducible refine Kd.C_drewN ?_ _) | (with_reducible refine Kd.C_drew ?_))); (case side6 => exact (Kd.S_reads' HO329.out).2.1); rintro e w27 ⟨rfl, hb⟩; have n0_ := Aside0.mk (Kd.S_below (by (with_reducible repeat (first | apply Kd.S_alloc | apply Kd.S_drewN | apply Kd.S_drew)); exact HO_6.out) hb); have n1_ := Aside0.mk (Kd.R_below (by (with_reducible repeat (first | apply Kd.R_alloc | apply Kd.R_drewN | apply Kd.R_drew)); exact HO327.out) hb); have n2_ := Aside0.mk (Kd.S_below (by (with_reducible repeat (first | apply Kd.S_alloc | apply Kd.S_drewN | apply Kd.S_drew)); exact HO329.out) hb); have n3_ := Aside0.mk (below_step (by repeat (first | (with_reducible first | exact HB.out | apply below_alloc | apply pw_below_drewN | apply below_drew1) | exact HB.out)) hb); clear HO_6; clear HO327; clear HO329; clear HB; have HO_6 := n0_; have HO327 := n1_; have HO329 := n2_; have HB := n3_; clear n0_ n1_ n2_ n3_; (try clear hb); (try clear hb2); (try clear hk); (try clear hi)))
       go_ret
       exact ⟨by first | rfl | (simp [errW_none, errW_some] <;> rfl) | (simp [*, errW_none, errW_some] <;> rfl), by repeat (first | (with_reducible first | exact HB.out | apply below_alloc | apply pw_below_drewN | apply below_drew1) | exact HB.out)⟩
      ·rw [if_neg c22] at H
       have c22b0 : ((t323 == 1) == (decide ((Int.tmod (Go.bits .and .i64 a0 65535) 5) ≤ (wrap64 (1 + (Int.tmod (Go.bits .and .i64 a1 65535) 3)))))) = false := by simpa using c22
       (try (have c22b1 : decide ((t323 == 1) = (decide ((Int.tmod (Go.bits .and .i64 a0 65535) 5) ≤ (wrap64 (1 + (Int.tmod (Go.bits .and .i64 a1 65535) 3)))))) = false := by simpa using c22))
       (try (have c22b2 : ((t323 == 1) == (decide ((Int.tmod (Go.bits .and .i64 a0 65535) 5) ≤ (wrap64 (1 + (Int.tmod (Go.bits .and .i64 a1 65535) 3)))))) = false := by simpa using c22))
       (try (have c22b3 : ¬ ((t323 == 1) = (decide ((Int.tmod (Go.bits .and .i64 a0 65535) 5) ≤ (wrap64 (1 + (Int.tmod (Go.bits .and .i64 a1 65535) 3)))))) := by simpa using c22))
       clear c22
       obtain rfl := Option.some.inj H
       obtain ⟨Ao28, co28, eo28⟩ := Kd.S_slice HO_6.out
       subst eo28
       go_wp2_with (first | ((with_reducible refine gate_callee (f := 14) rfl ?_); refine goesL_ (some 70) rfl rfl Try.func14 (by kernel_rfl) rfl #[.slice Ao28 x6_1.length co28, .int .i64 (wrap64 ((Int.tmod (Go.bits .and .i64 a0 65535) 5) * (wrap64 (1 + (Int.tmod (Go.bits .and .i64 a1 65535) 3))))), .int .i64 600000] rfl (by (try simp only [List.map_toArray, List.map_cons, List.map_nil]); first | done | rfl | (simp only [List.length_drop, List.length_take]; rfl)) ?_; (with_reducible refine (sat_Solve.calls k1 _ _ x6_1 (wrap64 ((Int.tmod (Go.bits .and .i64 a0 65535) 5) * (wrap64 (1 + (Int.tmod (Go.bits .and .i64 a1 65535) 3))))) 600000 t323 t324 t325 _ ?side1 ?side2 A18.out).mono ?_); (case side1 => repeat (first | exact (Kd.S_reads' HO_6.out).2.2 | (with_reducible refine Kd.C_alloc ?_ _) | (with_reducible refine Kd.C_drewN ?_ _) | (with_reducible refine Kd.C_drew ?_))); (case side2 => exact (Kd.S_reads' HO_6.out).2.1); rintro e w29 ⟨v326, v328, rfl, ho0, ho1, hb⟩; refine ⟨_, rfl, ?_⟩; have n0_ := Aside0.mk (Kd.S_elder' (by (with_reducible repeat (first | apply Kd.S_alloc | apply Kd.S_drewN | apply Kd.S_drew)); exact HO_6.out) (Kd.S_base ho1) hb); have n1_ := Aside0.mk (Kd.R_lower ho0 (below_size (by repeat (first | (with_reducible first | exact HB.out | apply below_alloc | apply pw_below_drewN | apply below_drew1) | exact HB.out)))); have n2_ := Aside0.mk (Kd.S_lower (Kd.S_new' ho1 (Kd.S_lt (by (with_reducible repeat (first | apply Kd.S_alloc | apply Kd.S_drewN | apply Kd.S_drew)); exact HO_6.out))) (below_size (by repeat (first | (with_reducible first | exact HB.out | apply below_alloc | apply pw_below_drewN | apply below_drew1) | exact HB.out)))); have n3_ := Aside0.mk (below_step (by repeat (first | (with_reducible first | exact HB.out | apply below_alloc | apply pw_below_drewN | apply below_drew1) | exact HB.out)) hb); clear HO_6; clear HB; have HO_6 := n0_; have HO327 := n1_; have HO329 := n2_; have HB := n3_; clear n0_ n1_ n2_ n3_; (try clear hb); (try clear hb2); (try clear hk); (try clear hi); (try clear ho0); (try clear ho1); obtain ⟨Ao30, co30, eo30⟩ := Kd.R_slice HO327.out; subst eo30; obtain ⟨Ao31, co31, eo31⟩ := Kd.S_slice HO329.out; subst eo31) | (go_at_call 17; (with_reducible refine (ashlarref09_Good.calls k1 _ _ x6_1 (wrap64 ((Int.tmod (Go.bits .and .i64 a0 65535) 5) * (wrap64 (1 + (Int.tmod (Go.bits .and .i64 a1 65535) 3))))) t323 _ _ t324 _ _ t325 true _ ?side1 ?side2 ?side3 ?side4 ?side5 ?side6 A20.out).mono ?_); (case side1 => repeat (first | exact (Kd.S_reads' HO_6.out).2.2 | (with_reducible refine Kd.C_alloc ?_ _) | (with_reducible refine Kd.C_drewN ?_ _) | (with_reducible refine Kd.C_drew ?_))); (case side2 => exact (Kd.S_reads' HO_6.out).2.1); (case side3 => repeat (first | exact (Kd.R_reads' HO327.out).2.2 | (with_reducible refine Kd.C_alloc ?_ _) | (with_reducible refine Kd.C_drewN ?_ _) | (with_reducible refine Kd.C_drew ?_))); (case side4 => exact (Kd.R_reads' HO327.out).2.1); (case side5 => repeat (first | exact (Kd.S_reads' HO329.out).2.2 | (with_reducible refine Kd.C_alloc ?_ _) | (with_reducible refine Kd.C_drewN ?_ _) | (with_reducible refine Kd.C_drew ?_))); (case side6 => exact (Kd.S_reads' HO329.out).2.1); rintro e w32 ⟨rfl, hb⟩; have n0_ := Aside0.mk (Kd.S_below (by (with_reducible repeat (first | apply Kd.S_alloc | apply Kd.S_drewN | apply Kd.S_drew)); exact HO_6.out) hb); have n1_ := Aside0.mk (Kd.R_below (by (with_reducible repeat (first | apply Kd.R_alloc | apply Kd.R_drewN | apply Kd.R_drew)); exact HO327.out) hb); have n2_ := Aside0.mk (Kd.S_below (by (with_reducible repeat (first | apply Kd.S_alloc | apply Kd.S_drewN | apply Kd.S_drew)); exact HO329.out) hb); have n3_ := Aside0.mk (below_step (by repeat (first | (with_reducible first | exact HB.out | apply below_alloc | apply pw_below_drewN | apply below_drew1) | exact HB.out)) hb); clear HO_6; clear HO327; clear HO329; clear HB; have HO_6 := n0_; have HO327 := n1_; have HO329 := n2_; have HB := n3_; clear n0_ n1_ n2_ n3_; (try clear hb); (try clear hb2); (try clear hk); (try clear hi)))
       go_ret
       exact ⟨by first | rfl | (simp [errW_none, errW_some] <;> rfl) | (simp [*, errW_none, errW_some] <;> rfl), by repeat (first | (with_reducible first | exact HB.out | apply below_alloc | apply pw_below_drewN | apply below_drew1) | exact HB.out)⟩
     ·replace c21 := Bool.eq_false_iff.mpr c21
      subst c21
      have H1 : (some false) = some r := by rw [if_neg (show ¬ (false = true) by decide)] at H; exact H
      clear H
      have H := H1
      clear H1
      obtain rfl := Option.some.inj H
      obtain ⟨Ao33, co33, eo33⟩ := Kd.S_slice HO_6.out
      subst eo33
      go_wp2_with (first | ((with_reducible refine gate_callee (f := 14) rfl ?_); refine goesL_ (some 70) rfl rfl Try.func14 (by kernel_rfl) rfl #[.slice Ao33 x6_1.length co33, .int .i64 (wrap64 ((Int.tmod (Go.bits .and .i64 a0 65535) 5) * (wrap64 (1 + (Int.tmod (Go.bits .and .i64 a1 65535) 3))))), .int .i64 600000] rfl (by (try simp only [List.map_toArray, List.map_cons, List.map_nil]); first | done | rfl | (simp only [List.length_drop, List.length_take]; rfl)) ?_; (with_reducible refine (sat_Solve.calls k1 _ _ x6_1 (wrap64 ((Int.tmod (Go.bits .and .i64 a0 65535) 5) * (wrap64 (1 + (Int.tmod (Go.bits .and .i64 a1 65535) 3))))) 600000 t323 t324 t325 _ ?side1 ?side2 A18.out).mono ?_); (case side1 => repeat (first | exact (Kd.S_reads' HO_6.out).2.2 | (with_reducible refine Kd.C_alloc ?_ _) | (with_reducible refine Kd.C_drewN ?_ _) | (with_reducible refine Kd.C_drew ?_))); (case side2 => exact (Kd.S_reads' HO_6.out).2.1); rintro e w34 ⟨v326, v328, rfl, ho0, ho1, hb⟩; refine ⟨_, rfl, ?_⟩; have n0_ := Aside0.mk (Kd.S_elder' (by (with_reducible repeat (first | apply Kd.S_alloc | apply Kd.S_drewN | apply Kd.S_drew)); exact HO_6.out) (Kd.S_base ho1) hb); have n1_ := Aside0.mk (Kd.R_lower ho0 (below_size (by repeat (first | (with_reducible first | exact HB.out | apply below_alloc | apply pw_below_drewN | apply below_drew1) | exact HB.out)))); have n2_ := Aside0.mk (Kd.S_lower (Kd.S_new' ho1 (Kd.S_lt (by (with_reducible repeat (first | apply Kd.S_alloc | apply Kd.S_drewN | apply Kd.S_drew)); exact HO_6.out))) (below_size (by repeat (first | (with_reducible first | exact HB.out | apply below_alloc | apply pw_below_drewN | apply below_drew1) | exact HB.out)))); have n3_ := Aside0.mk (below_step (by repeat (first | (with_reducible first | exact HB.out | apply below_alloc | apply pw_below_drewN | apply below_drew1) | exact HB.out)) hb); clear HO_6; clear HB; have HO_6 := n0_; have HO327 := n1_; have HO329 := n2_; have HB := n3_; clear n0_ n1_ n2_ n3_; (try clear hb); (try clear hb2); (try clear hk); (try clear hi); (try clear ho0); (try clear ho1); obtain ⟨Ao35, co35, eo35⟩ := Kd.R_slice HO327.out; subst eo35; obtain ⟨Ao36, co36, eo36⟩ := Kd.S_slice HO329.out; subst eo36) | (go_at_call 17; (with_reducible refine (ashlarref09_Good.calls k1 _ _ x6_1 (wrap64 ((Int.tmod (Go.bits .and .i64 a0 65535) 5) * (wrap64 (1 + (Int.tmod (Go.bits .and .i64 a1 65535) 3))))) t323 _ _ t324 _ _ t325 false _ ?side1 ?side2 ?side3 ?side4 ?side5 ?side6 A20.out).mono ?_); (case side1 => repeat (first | exact (Kd.S_reads' HO_6.out).2.2 | (with_reducible refine Kd.C_alloc ?_ _) | (with_reducible refine Kd.C_drewN ?_ _) | (with_reducible refine Kd.C_drew ?_))); (case side2 => exact (Kd.S_reads' HO_6.out).2.1); (case side3 => repeat (first | exact (Kd.R_reads' HO327.out).2.2 | (with_reducible refine Kd.C_alloc ?_ _) | (with_reducible refine Kd.C_drewN ?_ _) | (with_reducible refine Kd.C_drew ?_))); (case side4 => exact (Kd.R_reads' HO327.out).2.1); (case side5 => repeat (first | exact (Kd.S_reads' HO329.out).2.2 | (with_reducible refine Kd.C_alloc ?_ _) | (with_reducible refine Kd.C_drewN ?_ _) | (with_reducible refine Kd.C_drew ?_))); (case side6 => exact (Kd.S_reads' HO329.out).2.1); rintro e w37 ⟨rfl, hb⟩; have n0_ := Aside0.mk (Kd.S_below (by (with_reducible repeat (first | apply Kd.S_alloc | apply Kd.S_drewN | apply Kd.S_drew)); exact HO_6.out) hb); have n1_ := Aside0.mk (Kd.R_below (by (with_reducible repeat (first | apply Kd.R_alloc | apply Kd.R_drewN | apply Kd.R_drew)); exact HO327.out) hb); have n2_ := Aside0.mk (Kd.S_below (by (with_reducible repeat (first | apply Kd.S_alloc | apply Kd.S_drewN | apply Kd.S_drew)); exact HO329.out) hb); have n3_ := Aside0.mk (below_step (by repeat (first | (with_reducible first | exact HB.out | apply below_alloc | apply pw_below_drewN | apply below_drew1) | exact HB.out)) hb); clear HO_6; clear HO327; clear HO329; clear HB; have HO_6 := n0_; have HO327 := n1_; have HO329 := n2_; have HB := n3_; clear n0_ n1_ n2_ n3_; (try clear hb); (try clear hb2); (try clear hk); (try clear hi)))
      go_ret
      exact ⟨by first | rfl | (simp [errW_none, errW_some] <;> rfl) | (simp [*, errW_none, errW_some] <;> rfl), by repeat (first | (with_reducible first | exact HB.out | apply below_alloc | apply pw_below_drewN | apply below_drew1) | exact HB.out)⟩
    ·replace c19 := Bool.eq_false_iff.mpr c19
     subst c19
     have H1 : (some false) = some r := by rw [if_neg (show ¬ (false = true) by decide)] at H; exact H
     clear H
     have H := H1
     clear H1
     obtain rfl := Option.some.inj H
     obtain ⟨Ao38, co38, eo38⟩ := Kd.S_slice HO_6.out
     subst eo38
     go_wp2_with (first | ((with_reducible refine gate_callee (f := 14) rfl ?_); refine goesL_ (some 70) rfl rfl Try.func14 (by kernel_rfl) rfl #[.slice Ao38 x6_1.length co38, .int .i64 (wrap64 ((Int.tmod (Go.bits .and .i64 a0 65535) 5) * (wrap64 (1 + (Int.tmod (Go.bits .and .i64 a1 65535) 3))))), .int .i64 600000] rfl (by (try simp only [List.map_toArray, List.map_cons, List.map_nil]); first | done | rfl | (simp only [List.length_drop, List.length_take]; rfl)) ?_; (with_reducible refine (sat_Solve.calls k1 _ _ x6_1 (wrap64 ((Int.tmod (Go.bits .and .i64 a0 65535) 5) * (wrap64 (1 + (Int.tmod (Go.bits .and .i64 a1 65535) 3))))) 600000 t323 t324 t325 _ ?side1 ?side2 A18.out).mono ?_); (case side1 => repeat (first | exact (Kd.S_reads' HO_6.out).2.2 | (with_reducible refine Kd.C_alloc ?_ _) | (with_reducible refine Kd.C_drewN ?_ _) | (with_reducible refine Kd.C_drew ?_))); (case side2 => exact (Kd.S_reads' HO_6.out).2.1); rintro e w39 ⟨v326, v328, rfl, ho0, ho1, hb⟩; refine ⟨_, rfl, ?_⟩; have n0_ := Aside0.mk (Kd.S_elder' (by (with_reducible repeat (first | apply Kd.S_alloc | apply Kd.S_drewN | apply Kd.S_drew)); exact HO_6.out) (Kd.S_base ho1) hb); have n1_ := Aside0.mk (Kd.R_lower ho0 (below_size (by repeat (first | (with_reducible first | exact HB.out | apply below_alloc | apply pw_below_drewN | apply below_drew1) | exact HB.out)))); have n2_ := Aside0.mk (Kd.S_lower (Kd.S_new' ho1 (Kd.S_lt (by (with_reducible repeat (first | apply Kd.S_alloc | apply Kd.S_drewN | apply Kd.S_drew)); exact HO_6.out))) (below_size (by repeat (first | (with_reducible first | exact HB.out | apply below_alloc | apply pw_below_drewN | apply below_drew1) | exact HB.out)))); have n3_ := Aside0.mk (below_step (by repeat (first | (with_reducible first | exact HB.out | apply below_alloc | apply pw_below_drewN | apply below_drew1) | exact HB.out)) hb); clear HO_6; clear HB; have HO_6 := n0_; have HO327 := n1_; have HO329 := n2_; have HB := n3_; clear n0_ n1_ n2_ n3_; (try clear hb); (try clear hb2); (try clear hk); (try clear hi); (try clear ho0); (try clear ho1)))
     go_ret
     exact ⟨by first | rfl | (simp [errW_none, errW_some] <;> rfl) | (simp [*, errW_none, errW_some] <;> rfl), by repeat (first | (with_reducible first | exact HB.out | apply below_alloc | apply pw_below_drewN | apply below_drew1) | exact HB.out)⟩

/-- THE ONE PURE STATEMENT of ashlarlaw09_SatPigeons: yours. -/
def ashlarlaw09_SatPigeons.Pure : Prop := ∀ (a0 : Int) (a1 : Int), (Lit.int .i64 a0).wf = true → (Lit.int .i64 a1).wf = true → ∃ k, ashlarlaw09_SatPigeons.f k a0 a1 = some true
theorem ashlarlaw09_SatPigeons.walk (P : ashlarlaw09_SatPigeons.Pure) (a0 : Int) (a1 : Int) (w : World) (w0 : (Lit.int .i64 a0).wf = true) (w1 : (Lit.int .i64 a1).wf = true) :
  Calls Try.prog 5 #[.int .i64 a0, .int .i64 a1] w fun e w' => e = .returned (.bool true) ∧ Below w.heap.size w w' := by
 obtain ⟨k, h⟩ := P a0 a1 w0 w1
 refine (ashlarlaw09_SatPigeons.calls k a0 a1 true w h).mono ?_
 rintro e w' ⟨rfl, hd⟩
 exact ⟨rfl, hd⟩

end Go.Proofs.Ytmdjlhmifhnpdaa.Q
