/- written by a program of this session (wip/tools/printx.py, over the kit's printing program) out of the translation -/
import Derived.Test.YtglpafflpcgnpaaQx0
import Derived.Test.YtglpafflpcgnpaaQx2
namespace Go.Proofs.Ytglpafflpcgnpaa.Q
open Go.RowKit Go.Proofs.YtglpafflpcgnpaaW.PrintWords Go.Proofs.YtglpafflpcgnpaaW.PrintLast Go.Proofs.YtglpafflpcgnpaaW.PrintMore
attribute [local go_sem] max2_int min2_int max_two min_two max_three min_three max_four min_four   -- for this text's walks alone
set_option linter.unusedVariables false
set_option linter.unusedSimpArgs false

/-! ### ashlarref02_Heavy: function 17 -/
mutual
def ashlarref02_Heavy.l0 : Nat → List Nat → Int → Option (Int)
  | 0, _, _ => none
  | k + 1, x0, x3 => if x3 < (x0.length : Int) then (ashlarref02_Heavy.l1 k x0 x3 true 0) else (some (-1))
def ashlarref02_Heavy.l1 : Nat → List Nat → Int → Bool → Int → Option (Int)
  | 0, _, _, _, _ => none
  | k + 1, x0, x3, x4, x5 => if x5 < (x0.length : Int) then (if x4 = true then (if 0 ≤ x5 then ((ashlarref02_Place.f (rdOf (0 : Nat) x0 x5)).bind fun t169 => (if 0 ≤ x3 then (if x3 < (x0.length : Int) then ((ashlarref02_Place.f (rdOf (0 : Nat) x0 x3)).bind fun t171 => (ashlarref02_Heavy.l1 k x0 x3 (decide (t169 ≤ t171)) (wrap64 (x5 + 1)))) else (none)) else (none))) else (none)) else (ashlarref02_Heavy.l1 k x0 x3 false (wrap64 (x5 + 1)))) else (if x4 = true then (some x3) else (ashlarref02_Heavy.l0 k x0 (wrap64 (x3 + 1))))
end
def ashlarref02_Heavy.f (k : Nat) (l0 : List Nat) : Option (Int) := ashlarref02_Heavy.l0 k l0 0
theorem ashlarref02_Heavy.mono_l : ∀ k, (∀ y0 y1, LeO (ashlarref02_Heavy.l0 k y0 y1) (ashlarref02_Heavy.l0 (k + 1) y0 y1)) ∧ (∀ y0 y1 y2 y3, LeO (ashlarref02_Heavy.l1 k y0 y1 y2 y3) (ashlarref02_Heavy.l1 (k + 1) y0 y1 y2 y3))
  | 0 => ⟨fun _ _ r h => by simp [ashlarref02_Heavy.l0] at h, fun _ _ _ _ r h => by simp [ashlarref02_Heavy.l1] at h⟩
  | k + 1 => by
    obtain ⟨ih0, ih1⟩ := ashlarref02_Heavy.mono_l k
    refine ⟨?_, ?_⟩
    · intro y0 y1
      unfold ashlarref02_Heavy.l0
      repeat' first
      | (with_reducible exact ih0 _ _)
      | (with_reducible exact ih1 _ _ _ _)
      | (with_reducible exact LeO.refl _)
      | (with_reducible exact LeO.none _)
      | (with_reducible refine LeO.ite ?_ ?_)
      | (with_reducible refine LeO.bind ?_ (fun _ => ?_))
      | exact ih0 _ _
      | exact ih1 _ _ _ _
      | exact LeO.none _
      | refine LeO.ite ?_ ?_
      | refine LeO.bind ?_ (fun _ => ?_)
    · intro y0 y1 y2 y3
      unfold ashlarref02_Heavy.l1
      repeat' first
      | (with_reducible exact ih0 _ _)
      | (with_reducible exact ih1 _ _ _ _)
      | (with_reducible exact LeO.refl _)
      | (with_reducible exact LeO.none _)
      | (with_reducible refine LeO.ite ?_ ?_)
      | (with_reducible refine LeO.bind ?_ (fun _ => ?_))
      | exact ih0 _ _
      | exact ih1 _ _ _ _
      | exact LeO.none _
      | refine LeO.ite ?_ ?_
      | refine LeO.bind ?_ (fun _ => ?_)
theorem ashlarref02_Heavy.mono : ∀ a0 k, LeO (ashlarref02_Heavy.f k a0) (ashlarref02_Heavy.f (k + 1) a0) := by
  intro a0 k
  obtain ⟨ih0, ih1⟩ := ashlarref02_Heavy.mono_l k
  unfold ashlarref02_Heavy.f
  repeat' first
      | (with_reducible exact ih0 _ _)
      | (with_reducible exact ih1 _ _ _ _)
      | (with_reducible exact LeO.refl _)
      | (with_reducible exact LeO.none _)
      | (with_reducible refine LeO.ite ?_ ?_)
      | (with_reducible refine LeO.bind ?_ (fun _ => ?_))
      | exact ih0 _ _
      | exact ih1 _ _ _ _
      | exact LeO.none _
      | refine LeO.ite ?_ ?_
      | refine LeO.bind ?_ (fun _ => ?_)
set_option maxHeartbeats 8000000 in
set_option maxRecDepth 100000 in
theorem ashlarref02_Heavy.calls (k : Nat) (A0 : Option Addr) (c0 : Nat) (l0 : List Nat) (r : Int) (w : World) (hr0 : Kd.C Kd.f64 w A0 l0.length l0) (hc0 : l0.length ≤ c0) (h : ashlarref02_Heavy.f k l0 = some r) :
    Calls Try.prog 17 #[.slice A0 l0.length c0] w fun e w' => e = .returned (.int .i64 r) ∧ Drawn0 w w' := by
  have HR0 := Aside0.mk hr0
  have HC0 := Aside0.mk hc0
  clear hr0 hc0
  have H : (ashlarref02_Heavy.l0 k l0 0) = some r := h
  clear h
  have H' := Aside0.mk H
  clear H
  go_enter Try.func17, Try.ntmps17
  go_wp2
  repeat (go_quiet (fail); try go_wp2)
  go_loopg [3] k (fun kq v3 w' => ∃ (x3_1 : Int), v3 = .int .i64 x3_1 ∧ Aside0 (ashlarref02_Heavy.l0 kq l0 x3_1 = some r) ∧ Aside0 (kq ≤ k) ∧ Drawn0 w w')
  case atStart => exact ⟨(0), (by first | rfl | (simp; done) | (simp [*]; done)), H', ⟨Nat.le_refl _⟩, by repeat (first | exact Drawn0.refl _ | apply Drawn0.step)⟩
  case round =>
    clear H'
    try clear c1
    obtain ⟨x3_1, rfl, HA, HK1, ⟨m1, rfl⟩⟩ := hrel
    cases gk with
    | zero => exact absurd HA.out (by simp [ashlarref02_Heavy.l0])
    | succ k1 =>
      have H := HA.out
      clear HA
      simp only [ashlarref02_Heavy.l0] at H
      by_cases c2 : x3_1 < (l0.length : Int)
      · rw [if_pos c2] at H
        have c2b0 : decide (x3_1 < (l0.length : Int)) = true := decide_eq_true c2
        clear c2
        have H' := Aside0.mk H
        clear H
        go_wp2
        repeat (go_quiet (fail); try go_wp2)
        go_loopg [4, 5] k1 (fun kq v4 v5 w' => ∃ (x4_2 : Bool) (x5_2 : Int), v4 = .bool x4_2 ∧ v5 = .int .i64 x5_2 ∧ Aside0 (ashlarref02_Heavy.l1 kq l0 x3_1 x4_2 x5_2 = some r) ∧ Aside0 (kq ≤ k1) ∧ Drawn0 w w')
        case atStart => exact ⟨(true), (0), (by first | rfl | (simp; done) | (simp [*]; done)), (by first | rfl | (simp; done) | (simp [*]; done)), H', ⟨Nat.le_refl _⟩, by repeat (first | exact Drawn0.refl _ | apply Drawn0.step)⟩
        case round =>
          clear H'
          try clear c1
          try clear c2
          try clear c2b0
          try clear p2
          obtain ⟨x4_2, x5_2, rfl, rfl, HA, HK2, ⟨m2, rfl⟩⟩ := hrel
          cases gk with
          | zero => exact absurd HA.out (by simp [ashlarref02_Heavy.l1])
          | succ k2 =>
            have H := HA.out
            clear HA
            simp only [ashlarref02_Heavy.l1] at H
            by_cases c3 : x5_2 < (l0.length : Int)
            · rw [if_pos c3] at H
              have c3b0 : decide (x5_2 < (l0.length : Int)) = true := decide_eq_true c3
              clear c3
              by_cases c4 : x4_2 = true
              · subst c4
                have H1 : (if 0 ≤ x5_2 then ((ashlarref02_Place.f (rdOf (0 : Nat) l0 x5_2)).bind fun t169 => (if 0 ≤ x3_1 then (if x3_1 < (l0.length : Int) then ((ashlarref02_Place.f (rdOf (0 : Nat) l0 x3_1)).bind fun t171 => (ashlarref02_Heavy.l1 k2 l0 x3_1 (decide (t169 ≤ t171)) (wrap64 (x5_2 + 1)))) else (none)) else (none))) else (none)) = some r := by rw [if_pos rfl] at H; exact H
                clear H
                have H := H1
                clear H1
                by_cases c5 : 0 ≤ x5_2
                · rw [if_pos c5] at H
                  have c5b0 : decide (0 ≤ x5_2) = true := decide_eq_true c5
                  clear c5
                  replace H := Option.bind_eq_some_iff.mp H
                  obtain ⟨t169, A60, H⟩ := H
                  replace H : (if 0 ≤ x3_1 then (if x3_1 < (l0.length : Int) then ((ashlarref02_Place.f (rdOf (0 : Nat) l0 x3_1)).bind fun t171 => (ashlarref02_Heavy.l1 k2 l0 x3_1 (decide (t169 ≤ t171)) (wrap64 (x5_2 + 1)))) else (none)) else (none)) = some r := H
                  have A6 := Aside0.mk A60
                  clear A60
                  by_cases c7 : 0 ≤ x3_1
                  · rw [if_pos c7] at H
                    have c7b0 : decide (0 ≤ x3_1) = true := decide_eq_true c7
                    clear c7
                    by_cases c8 : x3_1 < (l0.length : Int)
                    · rw [if_pos c8] at H
                      have c8b0 : decide (x3_1 < (l0.length : Int)) = true := decide_eq_true c8
                      clear c8
                      replace H := Option.bind_eq_some_iff.mp H
                      obtain ⟨t171, A90, H⟩ := H
                      replace H : (ashlarref02_Heavy.l1 k2 l0 x3_1 (decide (t169 ≤ t171)) (wrap64 (x5_2 + 1))) = some r := H
                      have A9 := Aside0.mk A90
                      clear A90
                      have H' := Aside0.mk H
                      clear H
                      have p168 : 0 ≤ (x5_2 : Int) := of_decide_eq_true (by first | (with_reducible assumption) | assumption)
                      have q168 : x5_2 < (l0.length : Int) := of_decide_eq_true (by first | (with_reducible assumption) | assumption)
                      obtain ⟨ad168, e168, hx168_0⟩ := Kd.at_f64 HR0.out x5_2 p168 q168
                      cases e168
                      replace p168 := eq_true p168
                      replace q168 := eq_true q168
                      go_wp2_with (first | (go_at_call 27; (with_reducible refine (ashlarref02_Place.calls (rdOf (0 : Nat) l0 x5_2) t169 _ A6.out).mono ?_); rintro e w' ⟨rfl, ⟨nd, rfl⟩⟩; (try first | exact ⟨rfl, _, World.drewN_drewN _ _ _⟩ | exact ⟨rfl, _, Eq.trans (World.drewN_drewN _ _ _) (congrArg (World.drewN _) (Nat.add_assoc _ _ _))⟩); have p170 : 0 ≤ (x3_1 : Int) := of_decide_eq_true (by first | (with_reducible assumption) | assumption); have q170 : x3_1 < (l0.length : Int) := of_decide_eq_true (by first | (with_reducible assumption) | assumption); obtain ⟨ad170, e170, hx170_0⟩ := Kd.at_f64 HR0.out x3_1 p170 q170; obtain rfl : ad168 = ad170 := (by injection e170); replace p170 := eq_true p170; replace q170 := eq_true q170) | (go_at_call 27; (with_reducible refine (ashlarref02_Place.calls (rdOf (0 : Nat) l0 x3_1) t171 _ A9.out).mono ?_); rintro e w' ⟨rfl, ⟨nd, rfl⟩⟩; (try first | exact ⟨rfl, _, World.drewN_drewN _ _ _⟩ | exact ⟨rfl, _, Eq.trans (World.drewN_drewN _ _ _) (congrArg (World.drewN _) (Nat.add_assoc _ _ _))⟩)))
                      repeat (go_quiet (first | (go_at_call 27; (with_reducible refine (ashlarref02_Place.calls (rdOf (0 : Nat) l0 x5_2) t169 _ A6.out).mono ?_); rintro e w' ⟨rfl, ⟨nd, rfl⟩⟩; (try first | exact ⟨rfl, _, World.drewN_drewN _ _ _⟩ | exact ⟨rfl, _, Eq.trans (World.drewN_drewN _ _ _) (congrArg (World.drewN _) (Nat.add_assoc _ _ _))⟩); have p170 : 0 ≤ (x3_1 : Int) := of_decide_eq_true (by first | (with_reducible assumption) | assumption); have q170 : x3_1 < (l0.length : Int) := of_decide_eq_true (by first | (with_reducible assumption) | assumption); obtain ⟨ad170, e170, hx170_0⟩ := Kd.at_f64 HR0.out x3_1 p170 q170; obtain rfl : ad168 = ad170 := (by injection e170); replace p170 := eq_true p170; replace q170 := eq_true q170) | (go_at_call 27; (with_reducible refine (ashlarref02_Place.calls (rdOf (0 : Nat) l0 x3_1) t171 _ A9.out).mono ?_); rintro e w' ⟨rfl, ⟨nd, rfl⟩⟩; (try first | exact ⟨rfl, _, World.drewN_drewN _ _ _⟩ | exact ⟨rfl, _, Eq.trans (World.drewN_drewN _ _ _) (congrArg (World.drewN _) (Nat.add_assoc _ _ _))⟩))); try go_wp2_with (first | (go_at_call 27; (with_reducible refine (ashlarref02_Place.calls (rdOf (0 : Nat) l0 x5_2) t169 _ A6.out).mono ?_); rintro e w' ⟨rfl, ⟨nd, rfl⟩⟩; (try first | exact ⟨rfl, _, World.drewN_drewN _ _ _⟩ | exact ⟨rfl, _, Eq.trans (World.drewN_drewN _ _ _) (congrArg (World.drewN _) (Nat.add_assoc _ _ _))⟩); have p170 : 0 ≤ (x3_1 : Int) := of_decide_eq_true (by first | (with_reducible assumption) | assumption); have q170 : x3_1 < (l0.length : Int) := of_decide_eq_true (by first | (with_reducible assumption) | assumption); obtain ⟨ad170, e170, hx170_0⟩ := Kd.at_f64 HR0.out x3_1 p170 q170; obtain rfl : ad168 = ad170 := (by injection e170); replace p170 := eq_true p170; replace q170 := eq_true q170) | (go_at_call 27; (with_reducible refine (ashlarref02_Place.calls (rdOf (0 : Nat) l0 x3_1) t171 _ A9.out).mono ?_); rintro e w' ⟨rfl, ⟨nd, rfl⟩⟩; (try first | exact ⟨rfl, _, World.drewN_drewN _ _ _⟩ | exact ⟨rfl, _, Eq.trans (World.drewN_drewN _ _ _) (congrArg (World.drewN _) (Nat.add_assoc _ _ _))⟩))))
                      go_roundg k2
                      case measure => have := HK1.out; have := HK2.out; omega
                      case rel => exact ⟨(decide (t169 ≤ t171)), (wrap64 (x5_2 + 1)), (by first | rfl | (simp; done) | (simp [*]; done)), (by first | rfl | (simp; done) | (simp [*]; done)), H', ⟨by have := HK1.out; have := HK2.out; omega⟩, by repeat (first | exact Drawn0.refl _ | apply Drawn0.step)⟩
                    · rw [if_neg c8] at H
                      exact absurd H (by simp)
                  · rw [if_neg c7] at H
                    exact absurd H (by simp)
                · rw [if_neg c5] at H
                  exact absurd H (by simp)
              · replace c4 := Bool.eq_false_iff.mpr c4
                subst c4
                have H1 : (ashlarref02_Heavy.l1 k2 l0 x3_1 false (wrap64 (x5_2 + 1))) = some r := by rw [if_neg (show ¬ (false = true) by decide)] at H; exact H
                clear H
                have H := H1
                clear H1
                have H' := Aside0.mk H
                clear H
                go_wp2
                repeat (go_quiet (fail); try go_wp2)
                go_roundg k2
                case measure => have := HK1.out; have := HK2.out; omega
                case rel => exact ⟨(false), (wrap64 (x5_2 + 1)), (by first | rfl | (simp; done) | (simp [*]; done)), (by first | rfl | (simp; done) | (simp [*]; done)), H', ⟨by have := HK1.out; have := HK2.out; omega⟩, by repeat (first | exact Drawn0.refl _ | apply Drawn0.step)⟩
            · rw [if_neg c3] at H
              have c3b0 : decide (x5_2 < (l0.length : Int)) = false := decide_eq_false c3
              clear c3
              by_cases c10 : x4_2 = true
              · subst c10
                have H1 : (some x3_1) = some r := by rw [if_pos rfl] at H; exact H
                clear H
                have H := H1
                clear H1
                obtain rfl := Option.some.inj H
                go_wp2
                repeat (go_quiet (fail); try go_wp2)
                go_ret
                exact ⟨by first | rfl | (simp; done) | (simp [*]; done), by repeat (first | exact Drawn0.refl _ | apply Drawn0.step)⟩
              · replace c10 := Bool.eq_false_iff.mpr c10
                subst c10
                have H1 : (ashlarref02_Heavy.l0 k2 l0 (wrap64 (x3_1 + 1))) = some r := by rw [if_neg (show ¬ (false = true) by decide)] at H; exact H
                clear H
                have H := H1
                clear H1
                have H' := Aside0.mk H
                clear H
                go_wp2
                repeat (go_quiet (fail); try go_wp2)
                go_roundg k2
                case measure => have := HK1.out; have := HK2.out; omega
                case rel => exact ⟨(wrap64 (x3_1 + 1)), (by first | rfl | (simp; done) | (simp [*]; done)), H', ⟨by have := HK1.out; have := HK2.out; omega⟩, by repeat (first | exact Drawn0.refl _ | apply Drawn0.step)⟩
      · rw [if_neg c2] at H
        have c2b0 : decide (x3_1 < (l0.length : Int)) = false := decide_eq_false c2
        clear c2
        obtain rfl := Option.some.inj H
        go_wp2
        repeat (go_quiet (fail); try go_wp2)
        go_ret
        exact ⟨by first | rfl | (simp; done) | (simp [*]; done), by repeat (first | exact Drawn0.refl _ | apply Drawn0.step)⟩

/-! ### ashlarlaw02_same: function 18 -/
def ashlarlaw02_same.f (a0 : Nat) (a1 : Nat) : Option (Bool) := if fEq a0 a0 = true then (if fEq a1 a1 = true then (some (((a0 : Nat) : Int) == ((a1 : Nat) : Int))) else (some false)) else (some false)
set_option maxHeartbeats 8000000 in
set_option maxRecDepth 100000 in
theorem ashlarlaw02_same.calls (a0 : Nat) (a1 : Nat) (r : Bool) (w : World) (h : ashlarlaw02_same.f a0 a1 = some r) :
    Calls Try.prog 18 #[.float .f64 a0, .float .f64 a1] w fun e w' => e = .returned (.bool r) ∧ Drawn0 w w' := by
  have H : (if fEq a0 a0 = true then (if fEq a1 a1 = true then (some (((a0 : Nat) : Int) == ((a1 : Nat) : Int))) else (some false)) else (some false)) = some r := h
  clear h
  by_cases c3 : fEq a0 a0 = true
  · rw [if_pos c3] at H
    have c3b0 : fEq a0 a0 = true := c3
    clear c3
    by_cases c4 : fEq a1 a1 = true
    · rw [if_pos c4] at H
      have c4b0 : fEq a1 a1 = true := c4
      clear c4
      obtain rfl := Option.some.inj H
      go_enter Try.func18, Try.ntmps18
      go_wp2
      go_ret
      exact ⟨by first | rfl | (simp; done) | (simp [*]; done), by repeat (first | exact Drawn0.refl _ | apply Drawn0.step)⟩
    · rw [if_neg c4] at H
      have c4b0 : fEq a1 a1 = false := by simpa using c4
      clear c4
      obtain rfl := Option.some.inj H
      go_enter Try.func18, Try.ntmps18
      go_wp2
      go_ret
      exact ⟨by first | rfl | (simp; done) | (simp [*]; done), by repeat (first | exact Drawn0.refl _ | apply Drawn0.step)⟩
  · rw [if_neg c3] at H
    have c3b0 : fEq a0 a0 = false := by simpa using c3
    clear c3
    obtain rfl := Option.some.inj H
    go_enter Try.func18, Try.ntmps18
    go_wp2
    go_ret
    exact ⟨by first | rfl | (simp; done) | (simp [*]; done), by repeat (first | exact Drawn0.refl _ | apply Drawn0.step)⟩

end Go.Proofs.Ytglpafflpcgnpaa.Q
