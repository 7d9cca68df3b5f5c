/- written by a program of this session (wip/tools/printx.py, over the kit's printing program) out of the translation -/
import Derived.Test.YtbmnoofffodakaaQx0
import Derived.Test.YtbmnoofffodakaaQx6
namespace Go.Proofs.Ytbmnoofffodakaa.Q
open Go.RowKit Go.Proofs.YtbmnoofffodakaaW.PrintWords Go.Proofs.YtbmnoofffodakaaW.PrintLast Go.Proofs.YtbmnoofffodakaaW.PrintMore
attribute [local go_sem] max2_int min2_int max_two min_two max_three min_three max_four min_four   -- for this text's walks alone
set_option linter.unusedVariables false
set_option linter.unusedSimpArgs false

/-! ### ashlarref09_Follows: function 32 -/
mutual
def ashlarref09_Follows.l0 : Nat → List (List Int) → List Int → Int → Int → Option (Bool)
  | 0, _, _, _, _ => none
  | k + 1, x0, x1, x5, x6 => if x6 < (x0.length : Int) then (ashlarref09_Follows.l1 k x0 x1 x5 x6 0) else (ashlarref09_Follows.l2 k x0 x1 x5 0)
def ashlarref09_Follows.l1 : Nat → List (List Int) → List Int → Int → Int → Int → Option (Bool)
  | 0, _, _, _, _, _ => none
  | k + 1, x0, x1, x5, x6, x7 => if 0 ≤ x6 then (if x6 < (x0.length : Int) then (if x7 < ((rd_L1 x0 x6).length : Int) then (if 0 ≤ x7 then (ashlarref09_Follows.l1 k x0 x1 (mx (mx x5 (rd (rd_L1 x0 x6) x7)) (wrap64 (-(rd (rd_L1 x0 x6) x7)))) x6 (wrap64 (x7 + 1))) else (none)) else (ashlarref09_Follows.l0 k x0 x1 x5 (wrap64 (x6 + 1)))) else (none)) else (none)
def ashlarref09_Follows.l2 : Nat → List (List Int) → List Int → Int → Int → Option (Bool)
  | 0, _, _, _, _ => none
  | k + 1, x0, x1, x5, x8 => if x8 < (x1.length : Int) then (if 0 ≤ x8 then (ashlarref09_Follows.l2 k x0 x1 (mx (mx x5 (rd x1 x8)) (wrap64 (-(rd x1 x8)))) (wrap64 (x8 + 1))) else (none)) else (if 0 ≤ (wrap64 (x5 + 1)) then (if (wrap64 (x5 + 1) : Int).toNat ≤ 281474976710656 then (ashlarref09_Follows.l3 k x0 x1 (List.replicate (wrap64 (x5 + 1) : Int).toNat 0) 0) else (none)) else (none))
def ashlarref09_Follows.l3 : Nat → List (List Int) → List Int → List Int → Int → Option (Bool)
  | 0, _, _, _, _ => none
  | k + 1, x0, x1, x9, x10 => if x10 < (x1.length : Int) then (if 0 ≤ x10 then (if (rd x1 x10) < 0 then (if 0 ≤ (wrap64 (-(rd x1 x10))) then (if (wrap64 (-(rd x1 x10))) < (x9.length : Int) then (if (rd x9 (wrap64 (-(rd x1 x10)))) = (-1) then (some true) else (ashlarref09_Follows.l3 k x0 x1 (x9.set ((wrap64 (-(rd x1 x10))) : Int).toNat 1) (wrap64 (x10 + 1)))) else (none)) else (none)) else (if 0 ≤ (rd x1 x10) then (if (rd x1 x10) < (x9.length : Int) then (if (rd x9 (rd x1 x10)) = (-(-1)) then (some true) else (ashlarref09_Follows.l3 k x0 x1 (x9.set ((rd x1 x10) : Int).toNat (-1)) (wrap64 (x10 + 1)))) else (none)) else (none))) else (none)) else ((ashlarref08_Unit.f k x0 x9).bind fun bt267 => (some bt267.2))
end
def ashlarref09_Follows.f (k : Nat) (l0 : List (List Int)) (l1 : List Int) : Option (Bool) := ashlarref09_Follows.l0 k l0 l1 0 0
theorem ashlarref09_Follows.mono_l : ∀ k, (∀ y0 y1 y2 y3, LeO (ashlarref09_Follows.l0 k y0 y1 y2 y3) (ashlarref09_Follows.l0 (k + 1) y0 y1 y2 y3)) ∧ (∀ y0 y1 y2 y3 y4, LeO (ashlarref09_Follows.l1 k y0 y1 y2 y3 y4) (ashlarref09_Follows.l1 (k + 1) y0 y1 y2 y3 y4)) ∧ (∀ y0 y1 y2 y3, LeO (ashlarref09_Follows.l2 k y0 y1 y2 y3) (ashlarref09_Follows.l2 (k + 1) y0 y1 y2 y3)) ∧ (∀ y0 y1 y2 y3, LeO (ashlarref09_Follows.l3 k y0 y1 y2 y3) (ashlarref09_Follows.l3 (k + 1) y0 y1 y2 y3))
  | 0 => ⟨fun _ _ _ _ r h => by simp [ashlarref09_Follows.l0] at h, fun _ _ _ _ _ r h => by simp [ashlarref09_Follows.l1] at h, fun _ _ _ _ r h => by simp [ashlarref09_Follows.l2] at h, fun _ _ _ _ r h => by simp [ashlarref09_Follows.l3] at h⟩
  | k + 1 => by
    obtain ⟨ih0, ih1, ih2, ih3⟩ := ashlarref09_Follows.mono_l k
    refine ⟨?_, ?_, ?_, ?_⟩
    · intro y0 y1 y2 y3
      unfold ashlarref09_Follows.l0
      repeat' first
      | (with_reducible exact ih0 _ _ _ _)
      | (with_reducible exact ih1 _ _ _ _ _)
      | (with_reducible exact ih2 _ _ _ _)
      | (with_reducible exact ih3 _ _ _ _)
      | (with_reducible exact ashlarref08_Unit.mono _ _ _)
      | (with_reducible exact LeO.refl _)
      | (with_reducible exact LeO.none _)
      | (with_reducible refine LeO.ite ?_ ?_)
      | (with_reducible refine LeO.bind ?_ (fun _ => ?_))
      | exact ih0 _ _ _ _
      | exact ih1 _ _ _ _ _
      | exact ih2 _ _ _ _
      | exact ih3 _ _ _ _
      | exact ashlarref08_Unit.mono _ _ _
      | exact LeO.none _
      | refine LeO.ite ?_ ?_
      | refine LeO.bind ?_ (fun _ => ?_)
    · intro y0 y1 y2 y3 y4
      unfold ashlarref09_Follows.l1
      repeat' first
      | (with_reducible exact ih0 _ _ _ _)
      | (with_reducible exact ih1 _ _ _ _ _)
      | (with_reducible exact ih2 _ _ _ _)
      | (with_reducible exact ih3 _ _ _ _)
      | (with_reducible exact ashlarref08_Unit.mono _ _ _)
      | (with_reducible exact LeO.refl _)
      | (with_reducible exact LeO.none _)
      | (with_reducible refine LeO.ite ?_ ?_)
      | (with_reducible refine LeO.bind ?_ (fun _ => ?_))
      | exact ih0 _ _ _ _
      | exact ih1 _ _ _ _ _
      | exact ih2 _ _ _ _
      | exact ih3 _ _ _ _
      | exact ashlarref08_Unit.mono _ _ _
      | exact LeO.none _
      | refine LeO.ite ?_ ?_
      | refine LeO.bind ?_ (fun _ => ?_)
    · intro y0 y1 y2 y3
      unfold ashlarref09_Follows.l2
      repeat' first
      | (with_reducible exact ih0 _ _ _ _)
      | (with_reducible exact ih1 _ _ _ _ _)
      | (with_reducible exact ih2 _ _ _ _)
      | (with_reducible exact ih3 _ _ _ _)
      | (with_reducible exact ashlarref08_Unit.mono _ _ _)
      | (with_reducible exact LeO.refl _)
      | (with_reducible exact LeO.none _)
      | (with_reducible refine LeO.ite ?_ ?_)
      | (with_reducible refine LeO.bind ?_ (fun _ => ?_))
      | exact ih0 _ _ _ _
      | exact ih1 _ _ _ _ _
      | exact ih2 _ _ _ _
      | exact ih3 _ _ _ _
      | exact ashlarref08_Unit.mono _ _ _
      | exact LeO.none _
      | refine LeO.ite ?_ ?_
      | refine LeO.bind ?_ (fun _ => ?_)
    · intro y0 y1 y2 y3
      unfold ashlarref09_Follows.l3
      repeat' first
      | (with_reducible exact ih0 _ _ _ _)
      | (with_reducible exact ih1 _ _ _ _ _)
      | (with_reducible exact ih2 _ _ _ _)
      | (with_reducible exact ih3 _ _ _ _)
      | (with_reducible exact ashlarref08_Unit.mono _ _ _)
      | (with_reducible exact LeO.refl _)
      | (with_reducible exact LeO.none _)
      | (with_reducible refine LeO.ite ?_ ?_)
      | (with_reducible refine LeO.bind ?_ (fun _ => ?_))
      | exact ih0 _ _ _ _
      | exact ih1 _ _ _ _ _
      | exact ih2 _ _ _ _
      | exact ih3 _ _ _ _
      | exact ashlarref08_Unit.mono _ _ _
      | exact LeO.none _
      | refine LeO.ite ?_ ?_
      | refine LeO.bind ?_ (fun _ => ?_)
theorem ashlarref09_Follows.mono : ∀ a0 a1 k, LeO (ashlarref09_Follows.f k a0 a1) (ashlarref09_Follows.f (k + 1) a0 a1) := by
  intro a0 a1 k
  obtain ⟨ih0, ih1, ih2, ih3⟩ := ashlarref09_Follows.mono_l k
  unfold ashlarref09_Follows.f
  repeat' first
      | (with_reducible exact ih0 _ _ _ _)
      | (with_reducible exact ih1 _ _ _ _ _)
      | (with_reducible exact ih2 _ _ _ _)
      | (with_reducible exact ih3 _ _ _ _)
      | (with_reducible exact ashlarref08_Unit.mono _ _ _)
      | (with_reducible exact LeO.refl _)
      | (with_reducible exact LeO.none _)
      | (with_reducible refine LeO.ite ?_ ?_)
      | (with_reducible refine LeO.bind ?_ (fun _ => ?_))
      | exact ih0 _ _ _ _
      | exact ih1 _ _ _ _ _
      | exact ih2 _ _ _ _
      | exact ih3 _ _ _ _
      | exact ashlarref08_Unit.mono _ _ _
      | exact LeO.none _
      | refine LeO.ite ?_ ?_
      | refine LeO.bind ?_ (fun _ => ?_)
set_option maxHeartbeats 8000000 in
set_option maxRecDepth 100000 in
theorem ashlarref09_Follows.calls (k : Nat) (A0 : Option Addr) (c0 : Nat) (l0 : List (List Int)) (A1 : Option Addr) (c1 : Nat) (l1 : List Int) (r : Bool) (w : World) (hr0 : Kd.C (Kd.slice 3 (Kd.int .i64)) w A0 l0.length l0) (hc0 : l0.length ≤ c0) (hr1 : Kd.C (Kd.int .i64) w A1 l1.length l1) (hc1 : l1.length ≤ c1) (h : ashlarref09_Follows.f k l0 l1 = some r) :
    Calls Try.prog 32 #[.slice A0 l0.length c0, .slice A1 l1.length c1] w fun e w' => e = .returned (.bool r) ∧ Below w.heap.size w w' := by
  have HR0 := Aside0.mk hr0
  have HC0 := Aside0.mk hc0
  clear hr0 hc0
  have HR1 := Aside0.mk hr1
  have HC1 := Aside0.mk hc1
  clear hr1 hc1
  have HB := Aside0.mk (Below.refl w.heap.size w)
  have H : (ashlarref09_Follows.l0 k l0 l1 0 0) = some r := h
  clear h
  have H' := Aside0.mk H
  clear H
  go_enter Try.func32, Try.ntmps32
  go_wp2
  repeat (go_quiet (fail); try go_wp2)
  go_loopg [5, 6] k (fun kq v5 v6 w' => ∃ (x5_1 : Int) (x6_1 : Int), v5 = .int .i64 x5_1 ∧ v6 = .int .i64 x6_1 ∧ Aside0 (ashlarref09_Follows.l0 kq l0 l1 x5_1 x6_1 = some r) ∧ Aside0 (kq ≤ k) ∧ Aside0 (Below w.heap.size w w'))
  case atStart => exact ⟨(0), (0), (by first | rfl | (simp; done) | (simp [*]; done)), (by first | rfl | (simp; done) | (simp [*]; done)), H', ⟨Nat.le_refl _⟩, ⟨by repeat (first | (with_reducible first | exact HB.out | apply below_alloc | apply pw_below_drewN | apply below_drew1) | exact HB.out)⟩⟩
  case round =>
    clear H'
    try clear c1
    try clear p2
    obtain ⟨x5_1, x6_1, rfl, rfl, HA, HK1, HB⟩ := hrel
    cases gk with
    | zero => exact absurd HA.out (by simp [ashlarref09_Follows.l0])
    | succ k1 =>
      have H := HA.out
      clear HA
      simp only [ashlarref09_Follows.l0] at H
      by_cases c3 : x6_1 < (l0.length : Int)
      · rw [if_pos c3] at H
        have c3b0 : decide (x6_1 < (l0.length : Int)) = true := decide_eq_true c3
        clear c3
        have H' := Aside0.mk H
        clear H
        go_wp2
        repeat (go_quiet (fail); try go_wp2)
        go_loopg [5, 7] k1 (fun kq v5 v7 w' => ∃ (x5_2 : Int) (x7_2 : Int), v5 = .int .i64 x5_2 ∧ v7 = .int .i64 x7_2 ∧ Aside0 (ashlarref09_Follows.l1 kq l0 l1 x5_2 x6_1 x7_2 = some r) ∧ Aside0 (kq ≤ k1) ∧ Aside0 (Below w.heap.size w w'))
        case atStart => exact ⟨(x5_1), (0), (by first | rfl | (simp; done) | (simp [*]; done)), (by first | rfl | (simp; done) | (simp [*]; done)), H', ⟨Nat.le_refl _⟩, ⟨by repeat (first | (with_reducible first | exact HB.out | apply below_alloc | apply pw_below_drewN | apply below_drew1) | exact HB.out)⟩⟩
        case round =>
          clear H'
          try clear c1
          try clear p2
          try clear c3
          try clear c3b0
          try clear p2
          obtain ⟨x5_2, x7_2, rfl, rfl, HA, HK2, HB⟩ := hrel
          cases gk with
          | zero => exact absurd HA.out (by simp [ashlarref09_Follows.l1])
          | succ k2 =>
            have H := HA.out
            clear HA
            simp only [ashlarref09_Follows.l1] at H
            by_cases c4 : 0 ≤ x6_1
            · rw [if_pos c4] at H
              have c4b0 : decide (0 ≤ x6_1) = true := decide_eq_true c4
              clear c4
              by_cases c5 : x6_1 < (l0.length : Int)
              · rw [if_pos c5] at H
                have c5b0 : decide (x6_1 < (l0.length : Int)) = true := decide_eq_true c5
                clear c5
                by_cases c6 : x7_2 < ((rd_L1 l0 x6_1).length : Int)
                · rw [if_pos c6] at H
                  have c6b0 : decide (x7_2 < ((rd_L1 l0 x6_1).length : Int)) = true := decide_eq_true c6
                  clear c6
                  by_cases c7 : 0 ≤ x7_2
                  · rw [if_pos c7] at H
                    have c7b0 : decide (0 ≤ x7_2) = true := decide_eq_true c7
                    clear c7
                    obtain ⟨ji8, hji8⟩ : ∃ j_ : Int, (mx x5_2 (rd (rd_L1 l0 x6_1) x7_2)) = j_ := ⟨_, rfl⟩
                    replace H : (ashlarref09_Follows.l1 k2 l0 l1 (mx (ji8) (wrap64 (-(rd (rd_L1 l0 x6_1) x7_2)))) x6_1 (wrap64 (x7_2 + 1))) = some r := by first | (rw [hji8] at H; exact H) | (simp only [hji8] at H ⊢; exact H)
                    have hji8_ : (if x5_2 < (rd (rd_L1 l0 x6_1) x7_2) then (rd (rd_L1 l0 x6_1) x7_2) else x5_2) = ji8 := hji8
                    obtain ⟨ji9, hji9⟩ : ∃ j_ : Int, (mx (ji8) (wrap64 (-(rd (rd_L1 l0 x6_1) x7_2)))) = j_ := ⟨_, rfl⟩
                    replace H : (ashlarref09_Follows.l1 k2 l0 l1 ji9 x6_1 (wrap64 (x7_2 + 1))) = some r := by first | (rw [hji9] at H; exact H) | (simp only [hji9] at H ⊢; exact H)
                    have hji9_ : (if (ji8) < (wrap64 (-(rd (rd_L1 l0 x6_1) x7_2))) then (wrap64 (-(rd (rd_L1 l0 x6_1) x7_2))) else (ji8)) = ji9 := hji9
                    have H' := Aside0.mk H
                    clear H
                    have p257 : 0 ≤ (x6_1 : Int) := of_decide_eq_true (by first | (with_reducible assumption) | assumption)
                    have q257 : x6_1 < (l0.length : Int) := of_decide_eq_true (by first | (with_reducible assumption) | assumption)
                    obtain ⟨ad257, A257_0, c257_0, e257, hx257_0, hl257_0, hi257_0⟩ := at_L1 HR0.out x6_1 p257 q257
                    cases e257
                    replace hx257_0 := (HB.out.cell (World.block_lt_of_cell? w _ hx257_0)).trans hx257_0
                    have HR257_0 := Aside0.mk hi257_0
                    have HC257_0 := Aside0.mk hl257_0
                    clear hi257_0 hl257_0
                    replace p257 := eq_true p257
                    replace q257 := eq_true q257
                    have p258 : 0 ≤ (x6_1 : Int) := of_decide_eq_true (by first | (with_reducible assumption) | assumption)
                    have q258 : x6_1 < (l0.length : Int) := of_decide_eq_true (by first | (with_reducible assumption) | assumption)
                    obtain ⟨ad258, A258_0, c258_0, e258, hx258_0, hl258_0, hi258_0⟩ := at_L1 HR0.out x6_1 p258 q258
                    obtain rfl : ad257 = ad258 := (by injection e258)
                    replace hx258_0 := (HB.out.cell (World.block_lt_of_cell? w _ hx258_0)).trans hx258_0
                    have HR258_0 := Aside0.mk hi258_0
                    have HC258_0 := Aside0.mk hl258_0
                    clear hi258_0 hl258_0
                    replace p258 := eq_true p258
                    replace q258 := eq_true q258
                    have ea_ := Option.some.inj (hx257_0.symm.trans hx258_0)
                    injection ea_ with ea_ en_ ec_
                    subst ea_
                    subst ec_
                    clear en_
                    have p259 : 0 ≤ (x7_2 : Int) := of_decide_eq_true (by first | (with_reducible assumption) | assumption)
                    have q259 : x7_2 < ((rd_L1 l0 x6_1).length : Int) := of_decide_eq_true (by first | (with_reducible assumption) | assumption)
                    obtain ⟨ad259, e259, hx259_0⟩ := Kd.at_int HR258_0.out x7_2 p259 q259
                    cases e259
                    replace hx259_0 := (HB.out.cell (World.block_lt_of_cell? w _ hx259_0)).trans hx259_0
                    replace p259 := eq_true p259
                    replace q259 := eq_true q259
                    have p260 : 0 ≤ (x6_1 : Int) := of_decide_eq_true (by first | (with_reducible assumption) | assumption)
                    have q260 : x6_1 < (l0.length : Int) := of_decide_eq_true (by first | (with_reducible assumption) | assumption)
                    obtain ⟨ad260, A260_0, c260_0, e260, hx260_0, hl260_0, hi260_0⟩ := at_L1 HR0.out x6_1 p260 q260
                    obtain rfl : ad257 = ad260 := (by injection e260)
                    replace hx260_0 := (HB.out.cell (World.block_lt_of_cell? w _ hx260_0)).trans hx260_0
                    have HR260_0 := Aside0.mk hi260_0
                    have HC260_0 := Aside0.mk hl260_0
                    clear hi260_0 hl260_0
                    replace p260 := eq_true p260
                    replace q260 := eq_true q260
                    have ea_ := Option.some.inj (hx257_0.symm.trans hx260_0)
                    injection ea_ with ea_ en_ ec_
                    subst ea_
                    subst ec_
                    clear en_
                    have p261 : 0 ≤ (x7_2 : Int) := of_decide_eq_true (by first | (with_reducible assumption) | assumption)
                    have q261 : x7_2 < ((rd_L1 l0 x6_1).length : Int) := of_decide_eq_true (by first | (with_reducible assumption) | assumption)
                    obtain ⟨ad261, e261, hx261_0⟩ := Kd.at_int HR260_0.out x7_2 p261 q261
                    cases e261
                    replace hx261_0 := (HB.out.cell (World.block_lt_of_cell? w _ hx261_0)).trans hx261_0
                    replace p261 := eq_true p261
                    replace q261 := eq_true q261
                    go_wp2
                    repeat (go_quiet (fail); try go_wp2)
                    go_roundg k2
                    case measure => have := HK1.out; have := HK2.out; omega
                    case rel => exact ⟨(ji9), (wrap64 (x7_2 + 1)), (by first | rfl | (simp; done) | (simp only [← hji9] <;> (first | rfl | simp)) | (simp [*]; done)), (by first | rfl | (simp; done) | (simp [*]; done)), H', ⟨by have := HK1.out; have := HK2.out; omega⟩, ⟨by repeat (first | (with_reducible first | exact HB.out | apply below_alloc | apply pw_below_drewN | apply below_drew1) | exact HB.out)⟩⟩
                  · rw [if_neg c7] at H
                    exact absurd H (by simp)
                · rw [if_neg c6] at H
                  have c6b0 : decide (x7_2 < ((rd_L1 l0 x6_1).length : Int)) = false := decide_eq_false c6
                  clear c6
                  have H' := Aside0.mk H
                  clear H
                  have p257 : 0 ≤ (x6_1 : Int) := of_decide_eq_true (by first | (with_reducible assumption) | assumption)
                  have q257 : x6_1 < (l0.length : Int) := of_decide_eq_true (by first | (with_reducible assumption) | assumption)
                  obtain ⟨ad257, A257_0, c257_0, e257, hx257_0, hl257_0, hi257_0⟩ := at_L1 HR0.out x6_1 p257 q257
                  cases e257
                  replace hx257_0 := (HB.out.cell (World.block_lt_of_cell? w _ hx257_0)).trans hx257_0
                  have HR257_0 := Aside0.mk hi257_0
                  have HC257_0 := Aside0.mk hl257_0
                  clear hi257_0 hl257_0
                  replace p257 := eq_true p257
                  replace q257 := eq_true q257
                  go_wp2
                  repeat (go_quiet (fail); try go_wp2)
                  go_roundg k2
                  case measure => have := HK1.out; have := HK2.out; omega
                  case rel => exact ⟨(x5_2), (wrap64 (x6_1 + 1)), (by first | rfl | (simp; done) | (simp [*]; done)), (by first | rfl | (simp; done) | (simp [*]; done)), H', ⟨by have := HK1.out; have := HK2.out; omega⟩, ⟨by repeat (first | (with_reducible first | exact HB.out | apply below_alloc | apply pw_below_drewN | apply below_drew1) | exact HB.out)⟩⟩
              · rw [if_neg c5] at H
                exact absurd H (by simp)
            · rw [if_neg c4] at H
              exact absurd H (by simp)
      · rw [if_neg c3] at H
        have c3b0 : decide (x6_1 < (l0.length : Int)) = false := decide_eq_false c3
        clear c3
        have H' := Aside0.mk H
        clear H
        go_wp2
        repeat (go_quiet (fail); try go_wp2)
        go_loopg [5, 8] k1 (fun kq v5 v8 w' => ∃ (x5_2 : Int) (x8_2 : Int), v5 = .int .i64 x5_2 ∧ v8 = .int .i64 x8_2 ∧ Aside0 (ashlarref09_Follows.l2 kq l0 l1 x5_2 x8_2 = some r) ∧ Aside0 (kq ≤ k1) ∧ Aside0 (Below w.heap.size w w'))
        case atStart => exact ⟨(x5_1), (0), (by first | rfl | (simp; done) | (simp [*]; done)), (by first | rfl | (simp; done) | (simp [*]; done)), H', ⟨Nat.le_refl _⟩, ⟨by repeat (first | (with_reducible first | exact HB.out | apply below_alloc | apply pw_below_drewN | apply below_drew1) | exact HB.out)⟩⟩
        case round =>
          clear H'
          try clear c1
          try clear c2
          try clear p2
          try clear q2
          try clear hx2
          try clear c3
          try clear c3b0
          try clear c4
          try clear c4b0
          try clear c5
          try clear c5b0
          try clear c6
          try clear c6b0
          try clear p6
          try clear c7
          try clear c7b0
          try clear hx257_0
          try clear hx258_0
          try clear hx259_0
          try clear hx260_0
          try clear hx261_0
          try clear p2
          try clear p257
          try clear p258
          try clear p259
          try clear p260
          try clear p261
          try clear q257
          try clear q258
          try clear q259
          try clear q260
          try clear q261
          obtain ⟨x5_2, x8_2, rfl, rfl, HA, HK2, HB⟩ := hrel
          cases gk with
          | zero => exact absurd HA.out (by simp [ashlarref09_Follows.l2])
          | succ k2 =>
            have H := HA.out
            clear HA
            simp only [ashlarref09_Follows.l2] at H
            by_cases c10 : x8_2 < (l1.length : Int)
            · rw [if_pos c10] at H
              have c10b0 : decide (x8_2 < (l1.length : Int)) = true := decide_eq_true c10
              clear c10
              by_cases c11 : 0 ≤ x8_2
              · rw [if_pos c11] at H
                have c11b0 : decide (0 ≤ x8_2) = true := decide_eq_true c11
                clear c11
                obtain ⟨ji12, hji12⟩ : ∃ j_ : Int, (mx x5_2 (rd l1 x8_2)) = j_ := ⟨_, rfl⟩
                replace H : (ashlarref09_Follows.l2 k2 l0 l1 (mx (ji12) (wrap64 (-(rd l1 x8_2)))) (wrap64 (x8_2 + 1))) = some r := by first | (rw [hji12] at H; exact H) | (simp only [hji12] at H ⊢; exact H)
                have hji12_ : (if x5_2 < (rd l1 x8_2) then (rd l1 x8_2) else x5_2) = ji12 := hji12
                obtain ⟨ji13, hji13⟩ : ∃ j_ : Int, (mx (ji12) (wrap64 (-(rd l1 x8_2)))) = j_ := ⟨_, rfl⟩
                replace H : (ashlarref09_Follows.l2 k2 l0 l1 ji13 (wrap64 (x8_2 + 1))) = some r := by first | (rw [hji13] at H; exact H) | (simp only [hji13] at H ⊢; exact H)
                have hji13_ : (if (ji12) < (wrap64 (-(rd l1 x8_2))) then (wrap64 (-(rd l1 x8_2))) else (ji12)) = ji13 := hji13
                have H' := Aside0.mk H
                clear H
                have p262 : 0 ≤ (x8_2 : Int) := of_decide_eq_true (by first | (with_reducible assumption) | assumption)
                have q262 : x8_2 < (l1.length : Int) := of_decide_eq_true (by first | (with_reducible assumption) | assumption)
                obtain ⟨ad262, e262, hx262_0⟩ := Kd.at_int HR1.out x8_2 p262 q262
                cases e262
                replace hx262_0 := (HB.out.cell (World.block_lt_of_cell? w _ hx262_0)).trans hx262_0
                replace p262 := eq_true p262
                replace q262 := eq_true q262
                have p263 : 0 ≤ (x8_2 : Int) := of_decide_eq_true (by first | (with_reducible assumption) | assumption)
                have q263 : x8_2 < (l1.length : Int) := of_decide_eq_true (by first | (with_reducible assumption) | assumption)
                obtain ⟨ad263, e263, hx263_0⟩ := Kd.at_int HR1.out x8_2 p263 q263
                obtain rfl : ad262 = ad263 := (by injection e263)
                replace hx263_0 := (HB.out.cell (World.block_lt_of_cell? w _ hx263_0)).trans hx263_0
                replace p263 := eq_true p263
                replace q263 := eq_true q263
                go_wp2
                repeat (go_quiet (fail); try go_wp2)
                go_roundg k2
                case measure => have := HK1.out; have := HK2.out; omega
                case rel => exact ⟨(ji13), (wrap64 (x8_2 + 1)), (by first | rfl | (simp; done) | (simp only [← hji13] <;> (first | rfl | simp)) | (simp [*]; done)), (by first | rfl | (simp; done) | (simp [*]; done)), H', ⟨by have := HK1.out; have := HK2.out; omega⟩, ⟨by repeat (first | (with_reducible first | exact HB.out | apply below_alloc | apply pw_below_drewN | apply below_drew1) | exact HB.out)⟩⟩
              · rw [if_neg c11] at H
                exact absurd H (by simp)
            · rw [if_neg c10] at H
              have c10b0 : decide (x8_2 < (l1.length : Int)) = false := decide_eq_false c10
              clear c10
              obtain ⟨ji14, hji14⟩ : ∃ j_ : Int, (wrap64 (x5_2 + 1)) = j_ := ⟨_, rfl⟩
              replace H : (if 0 ≤ (ji14) then (if (ji14 : Int).toNat ≤ 281474976710656 then (ashlarref09_Follows.l3 k2 l0 l1 (List.replicate (ji14 : Int).toNat 0) 0) else (none)) else (none)) = some r := by first | (rw [hji14] at H; exact H) | (simp only [hji14] at H ⊢; exact H)
              have hji14w : (IntKind.i64.wrap (x5_2 + 1)) = ji14 := (i64_w _).trans hji14
              by_cases c15 : 0 ≤ (ji14)
              · rw [if_pos c15] at H
                have c15b0 := eq_true c15
                have c15b1 : decide (0 ≤ (ji14)) = true := decide_eq_true c15
                clear c15
                by_cases c16 : (ji14 : Int).toNat ≤ 281474976710656
                · rw [if_pos c16] at H
                  have c16b0 := eq_true c16
                  have c16b1 : decide ((ji14 : Int).toNat ≤ 281474976710656) = true := decide_eq_true c16
                  clear c16
                  obtain ⟨y264, hy264⟩ : ∃ y_ : List Int, y_ = (List.replicate (ji14 : Int).toNat 0) := ⟨_, rfl⟩
                  replace H : (ashlarref09_Follows.l3 k2 l0 l1 y264 0) = some r := by first | (rw [hy264]; with_reducible exact H) | (have H2_ := (Option.bind_some _ _).symm.trans H; rw [hy264]; with_reducible exact H2_) | (have H2_ := (Option.bind_some _ _).symm.trans H; with_reducible exact H2_) | with_reducible exact H | (rw [hy264]; exact H) | exact H
                  have Ny264 := Aside0.mk hy264
                  clear hy264
                  have H' := Aside0.mk H
                  clear H
                  go_wp2_with (first | ((with_reducible refine gate_dst (N := 66) rfl ?_); refine Kd.R_make (Kd.int .i8) _ 27 rfl (N := 66) rfl 28 _ _ rfl ji14 rfl rfl Try.underlying28 (.int .i8 0) 1 info27 rfl (by decide) (by omega) 0 (ok := fun _ => True) (okp := fun _ => True) rfl (fun _ hk => hk) trivial (of_decide_eq_true (by first | (with_reducible assumption) | assumption)) (Nat.le_trans (Nat.mul_le_mul_right _ (of_decide_eq_true (by first | (with_reducible assumption) | assumption) : ji14.toNat ≤ 281474976710656)) (by omega)) (Below.refl _ _) (Nat.le_refl _) ?_; intro v265 w17 ho18 hb hg_ hnew_; clear hg_ hnew_; (first | rw [← Ny264.out] at ho18 | (simp only [Int.reduceToNat] at ho18; rw [← Ny264.out] at ho18)); have n0_ := Aside0.mk (Kd.R_lower ho18 (below_size (by repeat (first | (with_reducible first | exact HB.out | apply below_alloc | apply pw_below_drewN | apply below_drew1) | exact HB.out)))); have n1_ := Aside0.mk (below_step (by repeat (first | (with_reducible first | exact HB.out | apply below_alloc | apply pw_below_drewN | apply below_drew1) | exact HB.out)) hb); clear HB; have HO266 := n0_; have HB := n1_; clear n0_ n1_; clear hb ho18))
                  repeat (go_quiet (first | ((with_reducible refine gate_dst (N := 66) rfl ?_); refine Kd.R_make (Kd.int .i8) _ 27 rfl (N := 66) rfl 28 _ _ rfl ji14 rfl rfl Try.underlying28 (.int .i8 0) 1 info27 rfl (by decide) (by omega) 0 (ok := fun _ => True) (okp := fun _ => True) rfl (fun _ hk => hk) trivial (of_decide_eq_true (by first | (with_reducible assumption) | assumption)) (Nat.le_trans (Nat.mul_le_mul_right _ (of_decide_eq_true (by first | (with_reducible assumption) | assumption) : ji14.toNat ≤ 281474976710656)) (by omega)) (Below.refl _ _) (Nat.le_refl _) ?_; intro v265 w17 ho18 hb hg_ hnew_; clear hg_ hnew_; (first | rw [← Ny264.out] at ho18 | (simp only [Int.reduceToNat] at ho18; rw [← Ny264.out] at ho18)); have n0_ := Aside0.mk (Kd.R_lower ho18 (below_size (by repeat (first | (with_reducible first | exact HB.out | apply below_alloc | apply pw_below_drewN | apply below_drew1) | exact HB.out)))); have n1_ := Aside0.mk (below_step (by repeat (first | (with_reducible first | exact HB.out | apply below_alloc | apply pw_below_drewN | apply below_drew1) | exact HB.out)) hb); clear HB; have HO266 := n0_; have HB := n1_; clear n0_ n1_; clear hb ho18)); try go_wp2_with (first | ((with_reducible refine gate_dst (N := 66) rfl ?_); refine Kd.R_make (Kd.int .i8) _ 27 rfl (N := 66) rfl 28 _ _ rfl ji14 rfl rfl Try.underlying28 (.int .i8 0) 1 info27 rfl (by decide) (by omega) 0 (ok := fun _ => True) (okp := fun _ => True) rfl (fun _ hk => hk) trivial (of_decide_eq_true (by first | (with_reducible assumption) | assumption)) (Nat.le_trans (Nat.mul_le_mul_right _ (of_decide_eq_true (by first | (with_reducible assumption) | assumption) : ji14.toNat ≤ 281474976710656)) (by omega)) (Below.refl _ _) (Nat.le_refl _) ?_; intro v265 w17 ho18 hb hg_ hnew_; clear hg_ hnew_; (first | rw [← Ny264.out] at ho18 | (simp only [Int.reduceToNat] at ho18; rw [← Ny264.out] at ho18)); have n0_ := Aside0.mk (Kd.R_lower ho18 (below_size (by repeat (first | (with_reducible first | exact HB.out | apply below_alloc | apply pw_below_drewN | apply below_drew1) | exact HB.out)))); have n1_ := Aside0.mk (below_step (by repeat (first | (with_reducible first | exact HB.out | apply below_alloc | apply pw_below_drewN | apply below_drew1) | exact HB.out)) hb); clear HB; have HO266 := n0_; have HB := n1_; clear n0_ n1_; clear hb ho18)))
                  go_loopg [10] k2 (fun kq v10 w' => ∃ (x9_3 : List Int) (x10_3 : Int), v10 = .int .i64 x10_3 ∧ Aside0 (ashlarref09_Follows.l3 kq l0 l1 x9_3 x10_3 = some r) ∧ Aside0 (kq ≤ k2) ∧ Aside0 (Kd.R (Kd.int .i8) 27 w' w.heap.size (fun _ => True) v265 x9_3) ∧ Aside0 (Below w.heap.size w w'))
                  case atStart => exact ⟨(y264), (0), (by first | rfl | (simp; done) | (simp [*]; done)), H', ⟨Nat.le_refl _⟩, ⟨by (with_reducible repeat (first | apply Kd.R_alloc | apply Kd.R_drewN | apply Kd.R_drew)); exact HO266.out⟩, ⟨by repeat (first | (with_reducible first | exact HB.out | apply below_alloc | apply pw_below_drewN | apply below_drew1) | exact HB.out)⟩⟩
                  case round =>
                    clear H'
                    try clear c1
                    try clear c2
                    try clear p2
                    try clear q2
                    try clear hx2
                    try clear c3
                    try clear c3b0
                    try clear c4
                    try clear c4b0
                    try clear c5
                    try clear c5b0
                    try clear c6
                    try clear c6b0
                    try clear p6
                    try clear c7
                    try clear c7b0
                    try clear c10
                    try clear c10b0
                    try clear c11
                    try clear c11b0
                    try clear c15
                    try clear c15b0
                    try clear c15b1
                    try clear c16
                    try clear c16b0
                    try clear c16b1
                    try clear hx257_0
                    try clear hx258_0
                    try clear hx259_0
                    try clear hx260_0
                    try clear hx261_0
                    try clear hx262_0
                    try clear hx263_0
                    try clear p2
                    try clear p257
                    try clear p258
                    try clear p259
                    try clear p260
                    try clear p261
                    try clear p262
                    try clear p263
                    try clear p6
                    try clear q2
                    try clear q257
                    try clear q258
                    try clear q259
                    try clear q260
                    try clear q261
                    try clear q262
                    try clear q263
                    obtain ⟨x9_3, x10_3, rfl, HA, HK3, HO_9, HB⟩ := hrel
                    cases gk with
                    | zero => exact absurd HA.out (by simp [ashlarref09_Follows.l3])
                    | succ k3 =>
                      have H := HA.out
                      clear HA
                      simp only [ashlarref09_Follows.l3] at H
                      by_cases c19 : x10_3 < (l1.length : Int)
                      · rw [if_pos c19] at H
                        have c19b0 : decide (x10_3 < (l1.length : Int)) = true := decide_eq_true c19
                        clear c19
                        by_cases c20 : 0 ≤ x10_3
                        · rw [if_pos c20] at H
                          have c20b0 : decide (0 ≤ x10_3) = true := decide_eq_true c20
                          clear c20
                          by_cases c21 : (rd l1 x10_3) < 0
                          · rw [if_pos c21] at H
                            have c21b0 : decide ((rd l1 x10_3) < 0) = true := decide_eq_true c21
                            clear c21
                            obtain ⟨ji22, hji22⟩ : ∃ j_ : Int, (wrap64 (-(rd l1 x10_3))) = j_ := ⟨_, rfl⟩
                            replace H : (if 0 ≤ (ji22) then (if (ji22) < (x9_3.length : Int) then (if (rd x9_3 (ji22)) = (-1) then (some true) else (ashlarref09_Follows.l3 k3 l0 l1 (x9_3.set ((ji22) : Int).toNat 1) (wrap64 (x10_3 + 1)))) else (none)) else (none)) = some r := by first | (rw [hji22] at H; exact H) | (simp only [hji22] at H ⊢; exact H)
                            have hji22w : (IntKind.i64.wrap (-(rd l1 x10_3))) = ji22 := (i64_w _).trans hji22
                            by_cases c23 : 0 ≤ (ji22)
                            · rw [if_pos c23] at H
                              have c23b0 : decide (0 ≤ (ji22)) = true := decide_eq_true c23
                              clear c23
                              by_cases c24 : (ji22) < (x9_3.length : Int)
                              · rw [if_pos c24] at H
                                have c24b0 : decide ((ji22) < (x9_3.length : Int)) = true := decide_eq_true c24
                                clear c24
                                by_cases c25 : (rd x9_3 (ji22)) = (-1)
                                · rw [if_pos c25] at H
                                  have c25b0 : ((rd x9_3 (ji22)) == (-1)) = true := beq_iff_eq.mpr c25
                                  have c25b1 : ((rd x9_3 (ji22)) != (-1)) = false := bne_eq_false_iff_eq.mpr c25
                                  clear c25
                                  obtain rfl := Option.some.inj H
                                  have p271 : 0 ≤ (x10_3 : Int) := of_decide_eq_true (by first | (with_reducible assumption) | assumption)
                                  have q271 : x10_3 < (l1.length : Int) := of_decide_eq_true (by first | (with_reducible assumption) | assumption)
                                  obtain ⟨ad271, e271, hx271_0⟩ := Kd.at_int HR1.out x10_3 p271 q271
                                  cases e271
                                  replace hx271_0 := (HB.out.cell (World.block_lt_of_cell? w _ hx271_0)).trans hx271_0
                                  replace p271 := eq_true p271
                                  replace q271 := eq_true q271
                                  obtain ⟨Ao26, co26, eo26⟩ := Kd.R_slice HO_9.out
                                  subst eo26
                                  have p272 : 0 ≤ ((ji22) : Int) := of_decide_eq_true (by first | (with_reducible assumption) | assumption)
                                  have q272 : (ji22) < (x9_3.length : Int) := of_decide_eq_true (by first | (with_reducible assumption) | assumption)
                                  obtain ⟨ad272, e272, hx272_0⟩ := Kd.at_int (Kd.R_reads' HO_9.out).2.2 (ji22) p272 q272
                                  cases e272
                                  replace p272 := eq_true p272
                                  replace q272 := eq_true q272
                                  go_wp2
                                  repeat (go_quiet (fail); try go_wp2)
                                  go_ret
                                  exact ⟨by first | rfl | (simp [errW_none, errW_some] <;> rfl) | (simp only [← hji14, ← hji22]; first | rfl | (simp [errW_none, errW_some] <;> rfl)) | (simp [*, errW_none, errW_some] <;> rfl), by repeat (first | (with_reducible first | exact HB.out | apply below_alloc | apply pw_below_drewN | apply below_drew1) | exact HB.out)⟩
                                · rw [if_neg c25] at H
                                  have c25b0 : ((rd x9_3 (ji22)) == (-1)) = false := beq_eq_false_iff_ne.mpr c25
                                  have c25b1 : ((rd x9_3 (ji22)) != (-1)) = true := bne_iff_ne.mpr c25
                                  obtain ⟨y273, hy273⟩ : ∃ y_ : List Int, y_ = (x9_3.set ((ji22) : Int).toNat 1) := ⟨_, rfl⟩
                                  replace H : (ashlarref09_Follows.l3 k3 l0 l1 y273 (wrap64 (x10_3 + 1))) = some r := by first | (rw [hy273]; with_reducible exact H) | (have H2_ := (Option.bind_some _ _).symm.trans H; rw [hy273]; with_reducible exact H2_) | (have H2_ := (Option.bind_some _ _).symm.trans H; with_reducible exact H2_) | with_reducible exact H | (rw [hy273]; exact H) | exact H
                                  have Ny273 := Aside0.mk hy273
                                  clear hy273
                                  have H' := Aside0.mk H
                                  clear H
                                  have p271 : 0 ≤ (x10_3 : Int) := of_decide_eq_true (by first | (with_reducible assumption) | assumption)
                                  have q271 : x10_3 < (l1.length : Int) := of_decide_eq_true (by first | (with_reducible assumption) | assumption)
                                  obtain ⟨ad271, e271, hx271_0⟩ := Kd.at_int HR1.out x10_3 p271 q271
                                  cases e271
                                  replace hx271_0 := (HB.out.cell (World.block_lt_of_cell? w _ hx271_0)).trans hx271_0
                                  replace p271 := eq_true p271
                                  replace q271 := eq_true q271
                                  obtain ⟨Ao28, co28, eo28⟩ := Kd.R_slice HO_9.out
                                  subst eo28
                                  have p272 : 0 ≤ ((ji22) : Int) := of_decide_eq_true (by first | (with_reducible assumption) | assumption)
                                  have q272 : (ji22) < (x9_3.length : Int) := of_decide_eq_true (by first | (with_reducible assumption) | assumption)
                                  obtain ⟨ad272, e272, hx272_0⟩ := Kd.at_int (Kd.R_reads' HO_9.out).2.2 (ji22) p272 q272
                                  cases e272
                                  replace p272 := eq_true p272
                                  replace q272 := eq_true q272
                                  have p27 : 0 ≤ ((ji22) : Int) := of_decide_eq_true (by first | (with_reducible assumption) | assumption)
                                  have q27 : ((ji22) : Int) < ((x9_3.length : Int) : Int) := of_decide_eq_true (by first | (with_reducible assumption) | assumption)
                                  obtain ⟨go27, co27, eo27, gb27, gl27, cl27, HG27⟩ := Kd.R_form HO_9.out (by omega)
                                  (first | cases eo27 | (injection eo27 with ea_ en_ ec_; (first | subst ea_ | (injection ea_ with ea_; subst ea_)); subst ec_; clear en_))
                                  have GB27 := Aside0.mk gb27
                                  have GG27 := Aside0.mk HG27
                                  clear gb27 gl27 HG27
                                  (first | simp only [add_plain] at hx272_0 | skip)
                                  obtain ⟨hx27_0, hf27_0⟩ := Kd.R_celln 0 HO_9.out ((ji22) : Int) p27 q27
                                  replace p27 := eq_true p27
                                  replace q27 := eq_true q27
                                  have HP29 := Kd.R_putg HO_9.out ((ji22) : Int) 1
                                  go_wp2_with (first | ((with_reducible refine gate_store (t := 27) (p := 91) rfl ?_); (try (rw [drewN_self wr]; generalize hq_ : World.drewN wr _ = wr; have n0_ := Aside0.mk (Kd.R_at hq_ HO_9.out); have n1_ := Aside0.mk (below_at hq_ HB.out); clear hq_ HO_9 HB; have HO_9 := n0_; have HB := n1_; clear n0_ n1_; (try (have HP29 := Kd.R_putg HO_9.out ((ji22) : Int) 1)))); refine store_event (t := 27) (p := 91) (v := ?vo_w30) (w1 := (wr.setCell ⟨go27, ((ji22) : Int).toNat, none⟩ (.int .i8 1))) ?hg ?ho ?hn ?hr ?_; (case ho => rfl); (case hg => rfl); (case hn => rfl); (case hr => first | (go_simp; done) | (go_simp; rfl)); intro w30 hw; have hg : wr.grownBy w30 (some go27) := (by rw [hw]; exact HP29.2); have hp_ : Kd.R (Kd.int .i8) 27 w30 w.heap.size (fun _ => True) (.slice (some ⟨go27, 0, none⟩) x9_3.length co28) y273 := (by rw [hw, Ny273.out]; exact HP29.1); clear HP29; have n0_ := Aside0.mk (hp_); have n1_ := Aside0.mk ((by rw [hw]; exact below_set (HB.out) GB27.out : Below w.heap.size w w30)); clear HO_9; clear HB; have HO_9 := n0_; have HB := n1_; clear n0_ n1_; clear hg hw hp_))
                                  repeat (go_quiet (first | ((with_reducible refine gate_store (t := 27) (p := 91) rfl ?_); (try (rw [drewN_self wr]; generalize hq_ : World.drewN wr _ = wr; have n0_ := Aside0.mk (Kd.R_at hq_ HO_9.out); have n1_ := Aside0.mk (below_at hq_ HB.out); clear hq_ HO_9 HB; have HO_9 := n0_; have HB := n1_; clear n0_ n1_; (try (have HP29 := Kd.R_putg HO_9.out ((ji22) : Int) 1)))); refine store_event (t := 27) (p := 91) (v := ?vo_w30) (w1 := (wr.setCell ⟨go27, ((ji22) : Int).toNat, none⟩ (.int .i8 1))) ?hg ?ho ?hn ?hr ?_; (case ho => rfl); (case hg => rfl); (case hn => rfl); (case hr => first | (go_simp; done) | (go_simp; rfl)); intro w30 hw; have hg : wr.grownBy w30 (some go27) := (by rw [hw]; exact HP29.2); have hp_ : Kd.R (Kd.int .i8) 27 w30 w.heap.size (fun _ => True) (.slice (some ⟨go27, 0, none⟩) x9_3.length co28) y273 := (by rw [hw, Ny273.out]; exact HP29.1); clear HP29; have n0_ := Aside0.mk (hp_); have n1_ := Aside0.mk ((by rw [hw]; exact below_set (HB.out) GB27.out : Below w.heap.size w w30)); clear HO_9; clear HB; have HO_9 := n0_; have HB := n1_; clear n0_ n1_; clear hg hw hp_)); try go_wp2_with (first | ((with_reducible refine gate_store (t := 27) (p := 91) rfl ?_); (try (rw [drewN_self wr]; generalize hq_ : World.drewN wr _ = wr; have n0_ := Aside0.mk (Kd.R_at hq_ HO_9.out); have n1_ := Aside0.mk (below_at hq_ HB.out); clear hq_ HO_9 HB; have HO_9 := n0_; have HB := n1_; clear n0_ n1_; (try (have HP29 := Kd.R_putg HO_9.out ((ji22) : Int) 1)))); refine store_event (t := 27) (p := 91) (v := ?vo_w30) (w1 := (wr.setCell ⟨go27, ((ji22) : Int).toNat, none⟩ (.int .i8 1))) ?hg ?ho ?hn ?hr ?_; (case ho => rfl); (case hg => rfl); (case hn => rfl); (case hr => first | (go_simp; done) | (go_simp; rfl)); intro w30 hw; have hg : wr.grownBy w30 (some go27) := (by rw [hw]; exact HP29.2); have hp_ : Kd.R (Kd.int .i8) 27 w30 w.heap.size (fun _ => True) (.slice (some ⟨go27, 0, none⟩) x9_3.length co28) y273 := (by rw [hw, Ny273.out]; exact HP29.1); clear HP29; have n0_ := Aside0.mk (hp_); have n1_ := Aside0.mk ((by rw [hw]; exact below_set (HB.out) GB27.out : Below w.heap.size w w30)); clear HO_9; clear HB; have HO_9 := n0_; have HB := n1_; clear n0_ n1_; clear hg hw hp_)))
                                  go_roundg k3
                                  case measure => have := HK1.out; have := HK2.out; have := HK3.out; omega
                                  case rel => exact ⟨(y273), (wrap64 (x10_3 + 1)), (by first | rfl | (simp; done) | (simp [*]; done)), H', ⟨by have := HK1.out; have := HK2.out; have := HK3.out; omega⟩, ⟨by (with_reducible repeat (first | apply Kd.R_alloc | apply Kd.R_drewN | apply Kd.R_drew)); exact HO_9.out⟩, ⟨by repeat (first | (with_reducible first | exact HB.out | apply below_alloc | apply pw_below_drewN | apply below_drew1) | exact HB.out)⟩⟩
                              · rw [if_neg c24] at H
                                exact absurd H (by simp)
                            · rw [if_neg c23] at H
                              exact absurd H (by simp)
                          · rw [if_neg c21] at H
                            have c21b0 : decide ((rd l1 x10_3) < 0) = false := decide_eq_false c21
                            clear c21
                            by_cases c31 : 0 ≤ (rd l1 x10_3)
                            · rw [if_pos c31] at H
                              have c31b0 : decide (0 ≤ (rd l1 x10_3)) = true := decide_eq_true c31
                              clear c31
                              by_cases c32 : (rd l1 x10_3) < (x9_3.length : Int)
                              · rw [if_pos c32] at H
                                have c32b0 : decide ((rd l1 x10_3) < (x9_3.length : Int)) = true := decide_eq_true c32
                                clear c32
                                by_cases c33 : (rd x9_3 (rd l1 x10_3)) = (-(-1))
                                · rw [if_pos c33] at H
                                  have c33b0 : ((rd x9_3 (rd l1 x10_3)) == (-(-1))) = true := beq_iff_eq.mpr c33
                                  have c33b1 : ((rd x9_3 (rd l1 x10_3)) != (-(-1))) = false := bne_eq_false_iff_eq.mpr c33
                                  clear c33
                                  obtain rfl := Option.some.inj H
                                  have p271 : 0 ≤ (x10_3 : Int) := of_decide_eq_true (by first | (with_reducible assumption) | assumption)
                                  have q271 : x10_3 < (l1.length : Int) := of_decide_eq_true (by first | (with_reducible assumption) | assumption)
                                  obtain ⟨ad271, e271, hx271_0⟩ := Kd.at_int HR1.out x10_3 p271 q271
                                  cases e271
                                  replace hx271_0 := (HB.out.cell (World.block_lt_of_cell? w _ hx271_0)).trans hx271_0
                                  replace p271 := eq_true p271
                                  replace q271 := eq_true q271
                                  obtain ⟨Ao34, co34, eo34⟩ := Kd.R_slice HO_9.out
                                  subst eo34
                                  have p274 : 0 ≤ ((rd l1 x10_3) : Int) := of_decide_eq_true (by first | (with_reducible assumption) | assumption)
                                  have q274 : (rd l1 x10_3) < (x9_3.length : Int) := of_decide_eq_true (by first | (with_reducible assumption) | assumption)
                                  obtain ⟨ad274, e274, hx274_0⟩ := Kd.at_int (Kd.R_reads' HO_9.out).2.2 (rd l1 x10_3) p274 q274
                                  cases e274
                                  replace p274 := eq_true p274
                                  replace q274 := eq_true q274
                                  go_wp2
                                  repeat (go_quiet (fail); try go_wp2)
                                  go_ret
                                  exact ⟨by first | rfl | (simp [errW_none, errW_some] <;> rfl) | (simp only [← hji14]; first | rfl | (simp [errW_none, errW_some] <;> rfl)) | (simp [*, errW_none, errW_some] <;> rfl), by repeat (first | (with_reducible first | exact HB.out | apply below_alloc | apply pw_below_drewN | apply below_drew1) | exact HB.out)⟩
                                · rw [if_neg c33] at H
                                  have c33b0 : ((rd x9_3 (rd l1 x10_3)) == (-(-1))) = false := beq_eq_false_iff_ne.mpr c33
                                  have c33b1 : ((rd x9_3 (rd l1 x10_3)) != (-(-1))) = true := bne_iff_ne.mpr c33
                                  obtain ⟨y275, hy275⟩ : ∃ y_ : List Int, y_ = (x9_3.set ((rd l1 x10_3) : Int).toNat (-1)) := ⟨_, rfl⟩
                                  replace H : (ashlarref09_Follows.l3 k3 l0 l1 y275 (wrap64 (x10_3 + 1))) = some r := by first | (rw [hy275]; with_reducible exact H) | (have H2_ := (Option.bind_some _ _).symm.trans H; rw [hy275]; with_reducible exact H2_) | (have H2_ := (Option.bind_some _ _).symm.trans H; with_reducible exact H2_) | with_reducible exact H | (rw [hy275]; exact H) | exact H
                                  have Ny275 := Aside0.mk hy275
                                  clear hy275
                                  have H' := Aside0.mk H
                                  clear H
                                  have p271 : 0 ≤ (x10_3 : Int) := of_decide_eq_true (by first | (with_reducible assumption) | assumption)
                                  have q271 : x10_3 < (l1.length : Int) := of_decide_eq_true (by first | (with_reducible assumption) | assumption)
                                  obtain ⟨ad271, e271, hx271_0⟩ := Kd.at_int HR1.out x10_3 p271 q271
                                  cases e271
                                  replace hx271_0 := (HB.out.cell (World.block_lt_of_cell? w _ hx271_0)).trans hx271_0
                                  replace p271 := eq_true p271
                                  replace q271 := eq_true q271
                                  obtain ⟨Ao36, co36, eo36⟩ := Kd.R_slice HO_9.out
                                  subst eo36
                                  have p274 : 0 ≤ ((rd l1 x10_3) : Int) := of_decide_eq_true (by first | (with_reducible assumption) | assumption)
                                  have q274 : (rd l1 x10_3) < (x9_3.length : Int) := of_decide_eq_true (by first | (with_reducible assumption) | assumption)
                                  obtain ⟨ad274, e274, hx274_0⟩ := Kd.at_int (Kd.R_reads' HO_9.out).2.2 (rd l1 x10_3) p274 q274
                                  cases e274
                                  replace p274 := eq_true p274
                                  replace q274 := eq_true q274
                                  have p35 : 0 ≤ ((rd l1 x10_3) : Int) := of_decide_eq_true (by first | (with_reducible assumption) | assumption)
                                  have q35 : ((rd l1 x10_3) : Int) < ((x9_3.length : Int) : Int) := of_decide_eq_true (by first | (with_reducible assumption) | assumption)
                                  obtain ⟨go35, co35, eo35, gb35, gl35, cl35, HG35⟩ := Kd.R_form HO_9.out (by omega)
                                  (first | cases eo35 | (injection eo35 with ea_ en_ ec_; (first | subst ea_ | (injection ea_ with ea_; subst ea_)); subst ec_; clear en_))
                                  have GB35 := Aside0.mk gb35
                                  have GG35 := Aside0.mk HG35
                                  clear gb35 gl35 HG35
                                  (first | simp only [add_plain] at hx274_0 | skip)
                                  obtain ⟨hx35_0, hf35_0⟩ := Kd.R_celln 0 HO_9.out ((rd l1 x10_3) : Int) p35 q35
                                  replace p35 := eq_true p35
                                  replace q35 := eq_true q35
                                  have HP37 := Kd.R_putg HO_9.out ((rd l1 x10_3) : Int) (-1)
                                  go_wp2_with (first | ((with_reducible refine gate_store (t := 27) (p := 91) rfl ?_); (try (rw [drewN_self wr]; generalize hq_ : World.drewN wr _ = wr; have n0_ := Aside0.mk (Kd.R_at hq_ HO_9.out); have n1_ := Aside0.mk (below_at hq_ HB.out); clear hq_ HO_9 HB; have HO_9 := n0_; have HB := n1_; clear n0_ n1_; (try (have HP37 := Kd.R_putg HO_9.out ((rd l1 x10_3) : Int) (-1))))); refine store_event (t := 27) (p := 91) (v := ?vo_w38) (w1 := (wr.setCell ⟨go35, ((rd l1 x10_3) : Int).toNat, none⟩ (.int .i8 (-1)))) ?hg ?ho ?hn ?hr ?_; (case ho => rfl); (case hg => rfl); (case hn => rfl); (case hr => first | (go_simp; done) | (go_simp; rfl)); intro w38 hw; have hg : wr.grownBy w38 (some go35) := (by rw [hw]; exact HP37.2); have hp_ : Kd.R (Kd.int .i8) 27 w38 w.heap.size (fun _ => True) (.slice (some ⟨go35, 0, none⟩) x9_3.length co36) y275 := (by rw [hw, Ny275.out]; exact HP37.1); clear HP37; have n0_ := Aside0.mk (hp_); have n1_ := Aside0.mk ((by rw [hw]; exact below_set (HB.out) GB35.out : Below w.heap.size w w38)); clear HO_9; clear HB; have HO_9 := n0_; have HB := n1_; clear n0_ n1_; clear hg hw hp_))
                                  repeat (go_quiet (first | ((with_reducible refine gate_store (t := 27) (p := 91) rfl ?_); (try (rw [drewN_self wr]; generalize hq_ : World.drewN wr _ = wr; have n0_ := Aside0.mk (Kd.R_at hq_ HO_9.out); have n1_ := Aside0.mk (below_at hq_ HB.out); clear hq_ HO_9 HB; have HO_9 := n0_; have HB := n1_; clear n0_ n1_; (try (have HP37 := Kd.R_putg HO_9.out ((rd l1 x10_3) : Int) (-1))))); refine store_event (t := 27) (p := 91) (v := ?vo_w38) (w1 := (wr.setCell ⟨go35, ((rd l1 x10_3) : Int).toNat, none⟩ (.int .i8 (-1)))) ?hg ?ho ?hn ?hr ?_; (case ho => rfl); (case hg => rfl); (case hn => rfl); (case hr => first | (go_simp; done) | (go_simp; rfl)); intro w38 hw; have hg : wr.grownBy w38 (some go35) := (by rw [hw]; exact HP37.2); have hp_ : Kd.R (Kd.int .i8) 27 w38 w.heap.size (fun _ => True) (.slice (some ⟨go35, 0, none⟩) x9_3.length co36) y275 := (by rw [hw, Ny275.out]; exact HP37.1); clear HP37; have n0_ := Aside0.mk (hp_); have n1_ := Aside0.mk ((by rw [hw]; exact below_set (HB.out) GB35.out : Below w.heap.size w w38)); clear HO_9; clear HB; have HO_9 := n0_; have HB := n1_; clear n0_ n1_; clear hg hw hp_)); try go_wp2_with (first | ((with_reducible refine gate_store (t := 27) (p := 91) rfl ?_); (try (rw [drewN_self wr]; generalize hq_ : World.drewN wr _ = wr; have n0_ := Aside0.mk (Kd.R_at hq_ HO_9.out); have n1_ := Aside0.mk (below_at hq_ HB.out); clear hq_ HO_9 HB; have HO_9 := n0_; have HB := n1_; clear n0_ n1_; (try (have HP37 := Kd.R_putg HO_9.out ((rd l1 x10_3) : Int) (-1))))); refine store_event (t := 27) (p := 91) (v := ?vo_w38) (w1 := (wr.setCell ⟨go35, ((rd l1 x10_3) : Int).toNat, none⟩ (.int .i8 (-1)))) ?hg ?ho ?hn ?hr ?_; (case ho => rfl); (case hg => rfl); (case hn => rfl); (case hr => first | (go_simp; done) | (go_simp; rfl)); intro w38 hw; have hg : wr.grownBy w38 (some go35) := (by rw [hw]; exact HP37.2); have hp_ : Kd.R (Kd.int .i8) 27 w38 w.heap.size (fun _ => True) (.slice (some ⟨go35, 0, none⟩) x9_3.length co36) y275 := (by rw [hw, Ny275.out]; exact HP37.1); clear HP37; have n0_ := Aside0.mk (hp_); have n1_ := Aside0.mk ((by rw [hw]; exact below_set (HB.out) GB35.out : Below w.heap.size w w38)); clear HO_9; clear HB; have HO_9 := n0_; have HB := n1_; clear n0_ n1_; clear hg hw hp_)))
                                  go_roundg k3
                                  case measure => have := HK1.out; have := HK2.out; have := HK3.out; omega
                                  case rel => exact ⟨(y275), (wrap64 (x10_3 + 1)), (by first | rfl | (simp; done) | (simp [*]; done)), H', ⟨by have := HK1.out; have := HK2.out; have := HK3.out; omega⟩, ⟨by (with_reducible repeat (first | apply Kd.R_alloc | apply Kd.R_drewN | apply Kd.R_drew)); exact HO_9.out⟩, ⟨by repeat (first | (with_reducible first | exact HB.out | apply below_alloc | apply pw_below_drewN | apply below_drew1) | exact HB.out)⟩⟩
                              · rw [if_neg c32] at H
                                exact absurd H (by simp)
                            · rw [if_neg c31] at H
                              exact absurd H (by simp)
                        · rw [if_neg c20] at H
                          exact absurd H (by simp)
                      · rw [if_neg c19] at H
                        have c19b0 : decide (x10_3 < (l1.length : Int)) = false := decide_eq_false c19
                        clear c19
                        replace H := Option.bind_eq_some_iff.mp H
                        obtain ⟨⟨t267, t268⟩, A390, H⟩ := H
                        replace H : (some t268) = some r := H
                        have A39 := Aside0.mk A390
                        clear A390
                        obtain rfl := Option.some.inj H
                        obtain ⟨Ao40, co40, eo40⟩ := Kd.R_slice HO_9.out
                        subst eo40
                        go_wp2_with (first | (go_at_call 37; (with_reducible refine (ashlarref08_Unit.calls k3 _ _ l0 _ _ x9_3 t267 t268 _ ?side1 ?side2 ?side3 ?side4 A39.out).mono ?_); (case side1 => repeat (first | exact (Kd.C_below HR0.out HB.out) | (with_reducible refine Kd.C_alloc ?_ _) | (with_reducible refine Kd.C_drewN ?_ _) | (with_reducible refine Kd.C_drew ?_))); (case side2 => exact HC0.out); (case side3 => repeat (first | exact (Kd.R_reads' HO_9.out).2.2 | (with_reducible refine Kd.C_alloc ?_ _) | (with_reducible refine Kd.C_drewN ?_ _) | (with_reducible refine Kd.C_drew ?_))); (case side4 => exact (Kd.R_reads' HO_9.out).2.1); rintro e w41 ⟨v269, rfl, ho0, hb⟩; have n0_ := Aside0.mk (Kd.R_elder' (by (with_reducible repeat (first | apply Kd.R_alloc | apply Kd.R_drewN | apply Kd.R_drew)); exact HO_9.out) (Kd.R_base ho0) hb); have n1_ := Aside0.mk (Kd.R_lower (Kd.R_new' ho0 (Kd.R_lt (by (with_reducible repeat (first | apply Kd.R_alloc | apply Kd.R_drewN | apply Kd.R_drew)); exact HO_9.out))) (below_size (by repeat (first | (with_reducible first | exact HB.out | apply below_alloc | apply pw_below_drewN | apply below_drew1) | exact HB.out)))); have n2_ := Aside0.mk (below_step (by repeat (first | (with_reducible first | exact HB.out | apply below_alloc | apply pw_below_drewN | apply below_drew1) | exact HB.out)) hb); clear HO_9; clear HB; have HO_9 := n0_; have HO270 := n1_; have HB := n2_; clear n0_ n1_ n2_; (try clear hb); (try clear hb2); (try clear hk); (try clear hi); (try clear ho0)))
                        repeat (go_quiet (first | (go_at_call 37; (with_reducible refine (ashlarref08_Unit.calls k3 _ _ l0 _ _ x9_3 t267 t268 _ ?side1 ?side2 ?side3 ?side4 A39.out).mono ?_); (case side1 => repeat (first | exact (Kd.C_below HR0.out HB.out) | (with_reducible refine Kd.C_alloc ?_ _) | (with_reducible refine Kd.C_drewN ?_ _) | (with_reducible refine Kd.C_drew ?_))); (case side2 => exact HC0.out); (case side3 => repeat (first | exact (Kd.R_reads' HO_9.out).2.2 | (with_reducible refine Kd.C_alloc ?_ _) | (with_reducible refine Kd.C_drewN ?_ _) | (with_reducible refine Kd.C_drew ?_))); (case side4 => exact (Kd.R_reads' HO_9.out).2.1); rintro e w41 ⟨v269, rfl, ho0, hb⟩; have n0_ := Aside0.mk (Kd.R_elder' (by (with_reducible repeat (first | apply Kd.R_alloc | apply Kd.R_drewN | apply Kd.R_drew)); exact HO_9.out) (Kd.R_base ho0) hb); have n1_ := Aside0.mk (Kd.R_lower (Kd.R_new' ho0 (Kd.R_lt (by (with_reducible repeat (first | apply Kd.R_alloc | apply Kd.R_drewN | apply Kd.R_drew)); exact HO_9.out))) (below_size (by repeat (first | (with_reducible first | exact HB.out | apply below_alloc | apply pw_below_drewN | apply below_drew1) | exact HB.out)))); have n2_ := Aside0.mk (below_step (by repeat (first | (with_reducible first | exact HB.out | apply below_alloc | apply pw_below_drewN | apply below_drew1) | exact HB.out)) hb); clear HO_9; clear HB; have HO_9 := n0_; have HO270 := n1_; have HB := n2_; clear n0_ n1_ n2_; (try clear hb); (try clear hb2); (try clear hk); (try clear hi); (try clear ho0))); try go_wp2_with (first | (go_at_call 37; (with_reducible refine (ashlarref08_Unit.calls k3 _ _ l0 _ _ x9_3 t267 t268 _ ?side1 ?side2 ?side3 ?side4 A39.out).mono ?_); (case side1 => repeat (first | exact (Kd.C_below HR0.out HB.out) | (with_reducible refine Kd.C_alloc ?_ _) | (with_reducible refine Kd.C_drewN ?_ _) | (with_reducible refine Kd.C_drew ?_))); (case side2 => exact HC0.out); (case side3 => repeat (first | exact (Kd.R_reads' HO_9.out).2.2 | (with_reducible refine Kd.C_alloc ?_ _) | (with_reducible refine Kd.C_drewN ?_ _) | (with_reducible refine Kd.C_drew ?_))); (case side4 => exact (Kd.R_reads' HO_9.out).2.1); rintro e w41 ⟨v269, rfl, ho0, hb⟩; have n0_ := Aside0.mk (Kd.R_elder' (by (with_reducible repeat (first | apply Kd.R_alloc | apply Kd.R_drewN | apply Kd.R_drew)); exact HO_9.out) (Kd.R_base ho0) hb); have n1_ := Aside0.mk (Kd.R_lower (Kd.R_new' ho0 (Kd.R_lt (by (with_reducible repeat (first | apply Kd.R_alloc | apply Kd.R_drewN | apply Kd.R_drew)); exact HO_9.out))) (below_size (by repeat (first | (with_reducible first | exact HB.out | apply below_alloc | apply pw_below_drewN | apply below_drew1) | exact HB.out)))); have n2_ := Aside0.mk (below_step (by repeat (first | (with_reducible first | exact HB.out | apply below_alloc | apply pw_below_drewN | apply below_drew1) | exact HB.out)) hb); clear HO_9; clear HB; have HO_9 := n0_; have HO270 := n1_; have HB := n2_; clear n0_ n1_ n2_; (try clear hb); (try clear hb2); (try clear hk); (try clear hi); (try clear ho0))))
                        go_ret
                        exact ⟨by first | rfl | (simp [errW_none, errW_some] <;> rfl) | (simp only [← hji14]; first | rfl | (simp [errW_none, errW_some] <;> rfl)) | (simp [*, errW_none, errW_some] <;> rfl), by repeat (first | (with_reducible first | exact HB.out | apply below_alloc | apply pw_below_drewN | apply below_drew1) | exact HB.out)⟩
                · rw [if_neg c16] at H
                  exact absurd H (by simp)
              · rw [if_neg c15] at H
                exact absurd H (by simp)

end Go.Proofs.Ytbmnoofffodakaa.Q
