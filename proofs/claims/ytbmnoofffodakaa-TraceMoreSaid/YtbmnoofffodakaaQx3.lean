/- written by a program of this session (wip/tools/printx.py, over the kit's printing program) out of the translation -/
import Derived.Test.YtbmnoofffodakaaQx0
import Derived.Test.YtbmnoofffodakaaQx1
import Derived.Test.YtbmnoofffodakaaQx2
namespace Go.Proofs.Ytbmnoofffodakaa.Q
open Go.RowKit Go.Proofs.YtbmnoofffodakaaW.PrintWords Go.Proofs.YtbmnoofffodakaaW.PrintLast Go.Proofs.YtbmnoofffodakaaW.PrintMore
attribute [local go_sem] max2_int min2_int max_two min_two max_three min_three max_four min_four   -- for this text's walks alone
set_option linter.unusedVariables false
set_option linter.unusedSimpArgs false

/-! ### ashlarref09_may: function 31 -/
mutual
def ashlarref09_may.l0 : Nat → List (List Int) → Int → Option (Bool)
  | 0, _, _ => none
  | k + 1, x0, x3 => if x3 < (x0.length : Int) then (ashlarref09_may.l1 k x0 x3 0) else (some true)
def ashlarref09_may.l1 : Nat → List (List Int) → Int → Int → Option (Bool)
  | 0, _, _, _ => none
  | k + 1, x0, x3, x4 => if 0 ≤ x3 then (if x3 < (x0.length : Int) then (if x4 < ((rd_L1 x0 x3).length : Int) then (if 0 ≤ x4 then (if (rd (rd_L1 x0 x3) x4) = 0 then (some false) else (if (rd (rd_L1 x0 x3) x4) < (-10000) then (some false) else (if (rd (rd_L1 x0 x3) x4) > 10000 then (some false) else (ashlarref09_may.l1 k x0 x3 (wrap64 (x4 + 1)))))) else (none)) else (ashlarref09_may.l0 k x0 (wrap64 (x3 + 1)))) else (none)) else (none)
end
def ashlarref09_may.f (k : Nat) (l0 : List (List Int)) : Option (Bool) := ashlarref09_may.l0 k l0 0
theorem ashlarref09_may.mono_l : ∀ k, (∀ y0 y1, LeO (ashlarref09_may.l0 k y0 y1) (ashlarref09_may.l0 (k + 1) y0 y1)) ∧ (∀ y0 y1 y2, LeO (ashlarref09_may.l1 k y0 y1 y2) (ashlarref09_may.l1 (k + 1) y0 y1 y2))
  | 0 => ⟨fun _ _ r h => by simp [ashlarref09_may.l0] at h, fun _ _ _ r h => by simp [ashlarref09_may.l1] at h⟩
  | k + 1 => by
    obtain ⟨ih0, ih1⟩ := ashlarref09_may.mono_l k
    refine ⟨?_, ?_⟩
    · intro y0 y1
      unfold ashlarref09_may.l0
      repeat' first
      | (with_reducible exact ih0 _ _)
      | (with_reducible exact ih1 _ _ _)
      | (with_reducible exact LeO.refl _)
      | (with_reducible exact LeO.none _)
      | (with_reducible refine LeO.ite ?_ ?_)
      | (with_reducible refine LeO.bind ?_ (fun _ => ?_))
      | exact ih0 _ _
      | exact ih1 _ _ _
      | exact LeO.none _
      | refine LeO.ite ?_ ?_
      | refine LeO.bind ?_ (fun _ => ?_)
    · intro y0 y1 y2
      unfold ashlarref09_may.l1
      repeat' first
      | (with_reducible exact ih0 _ _)
      | (with_reducible exact ih1 _ _ _)
      | (with_reducible exact LeO.refl _)
      | (with_reducible exact LeO.none _)
      | (with_reducible refine LeO.ite ?_ ?_)
      | (with_reducible refine LeO.bind ?_ (fun _ => ?_))
      | exact ih0 _ _
      | exact ih1 _ _ _
      | exact LeO.none _
      | refine LeO.ite ?_ ?_
      | refine LeO.bind ?_ (fun _ => ?_)
theorem ashlarref09_may.mono : ∀ a0 k, LeO (ashlarref09_may.f k a0) (ashlarref09_may.f (k + 1) a0) := by
  intro a0 k
  obtain ⟨ih0, ih1⟩ := ashlarref09_may.mono_l k
  unfold ashlarref09_may.f
  repeat' first
      | (with_reducible exact ih0 _ _)
      | (with_reducible exact ih1 _ _ _)
      | (with_reducible exact LeO.refl _)
      | (with_reducible exact LeO.none _)
      | (with_reducible refine LeO.ite ?_ ?_)
      | (with_reducible refine LeO.bind ?_ (fun _ => ?_))
      | exact ih0 _ _
      | exact ih1 _ _ _
      | exact LeO.none _
      | refine LeO.ite ?_ ?_
      | refine LeO.bind ?_ (fun _ => ?_)
set_option maxHeartbeats 8000000 in
set_option maxRecDepth 100000 in
theorem ashlarref09_may.calls (k : Nat) (A0 : Option Addr) (c0 : Nat) (l0 : List (List Int)) (r : Bool) (w : World) (hr0 : Kd.C (Kd.slice 3 (Kd.int .i64)) w A0 l0.length l0) (hc0 : l0.length ≤ c0) (h : ashlarref09_may.f k l0 = some r) :
    Calls Try.prog 31 #[.slice A0 l0.length c0] w fun e w' => e = .returned (.bool r) ∧ Drawn0 w w' := by
  have HR0 := Aside0.mk hr0
  have HC0 := Aside0.mk hc0
  clear hr0 hc0
  have H : (ashlarref09_may.l0 k l0 0) = some r := h
  clear h
  have H' := Aside0.mk H
  clear H
  go_enter Try.func31, Try.ntmps31
  go_wp2
  go_loopg [3] k (fun kq v3 w' => ∃ (x3_1 : Int), v3 = .int .i64 x3_1 ∧ Aside0 (ashlarref09_may.l0 kq l0 x3_1 = some r) ∧ Aside0 (kq ≤ k) ∧ Drawn0 w w')
  case atStart => exact ⟨(0), (by first | rfl | (simp; done) | (simp [*]; done)), H', ⟨Nat.le_refl _⟩, by repeat (first | exact Drawn0.refl _ | apply Drawn0.step)⟩
  case round =>
    clear H'
    obtain ⟨x3_1, rfl, HA, HK1, ⟨m1, rfl⟩⟩ := hrel
    cases gk with
    | zero => exact absurd HA.out (by simp [ashlarref09_may.l0])
    | succ k1 =>
      have H := HA.out
      clear HA
      simp only [ashlarref09_may.l0] at H
      by_cases c2 : x3_1 < (l0.length : Int)
      · rw [if_pos c2] at H
        have c2b0 : decide (x3_1 < (l0.length : Int)) = true := decide_eq_true c2
        clear c2
        have H' := Aside0.mk H
        clear H
        go_wp2
        go_loopg [4] k1 (fun kq v4 w' => ∃ (x4_2 : Int), v4 = .int .i64 x4_2 ∧ Aside0 (ashlarref09_may.l1 kq l0 x3_1 x4_2 = some r) ∧ Aside0 (kq ≤ k1) ∧ Drawn0 w w')
        case atStart => exact ⟨(0), (by first | rfl | (simp; done) | (simp [*]; done)), H', ⟨Nat.le_refl _⟩, by repeat (first | exact Drawn0.refl _ | apply Drawn0.step)⟩
        case round =>
          clear H'
          try clear c2
          try clear c2b0
          try clear p2
          obtain ⟨x4_2, rfl, HA, HK2, ⟨m2, rfl⟩⟩ := hrel
          cases gk with
          | zero => exact absurd HA.out (by simp [ashlarref09_may.l1])
          | succ k2 =>
            have H := HA.out
            clear HA
            simp only [ashlarref09_may.l1] at H
            by_cases c3 : 0 ≤ x3_1
            · rw [if_pos c3] at H
              have c3b0 : decide (0 ≤ x3_1) = true := decide_eq_true c3
              clear c3
              by_cases c4 : x3_1 < (l0.length : Int)
              · rw [if_pos c4] at H
                have c4b0 : decide (x3_1 < (l0.length : Int)) = true := decide_eq_true c4
                clear c4
                by_cases c5 : x4_2 < ((rd_L1 l0 x3_1).length : Int)
                · rw [if_pos c5] at H
                  have c5b0 : decide (x4_2 < ((rd_L1 l0 x3_1).length : Int)) = true := decide_eq_true c5
                  clear c5
                  by_cases c6 : 0 ≤ x4_2
                  · rw [if_pos c6] at H
                    have c6b0 : decide (0 ≤ x4_2) = true := decide_eq_true c6
                    clear c6
                    by_cases c7 : (rd (rd_L1 l0 x3_1) x4_2) = 0
                    · rw [if_pos c7] at H
                      have c7b0 : ((rd (rd_L1 l0 x3_1) x4_2) == 0) = true := beq_iff_eq.mpr c7
                      have c7b1 : ((rd (rd_L1 l0 x3_1) x4_2) != 0) = false := bne_eq_false_iff_eq.mpr c7
                      clear c7
                      obtain rfl := Option.some.inj H
                      have p132 : 0 ≤ (x3_1 : Int) := of_decide_eq_true (by first | (with_reducible assumption) | assumption)
                      have q132 : x3_1 < (l0.length : Int) := of_decide_eq_true (by first | (with_reducible assumption) | assumption)
                      obtain ⟨ad132, A132_0, c132_0, e132, hx132_0, hl132_0, hi132_0⟩ := at_L1 HR0.out x3_1 p132 q132
                      cases e132
                      have HR132_0 := Aside0.mk hi132_0
                      have HC132_0 := Aside0.mk hl132_0
                      clear hi132_0 hl132_0
                      replace p132 := eq_true p132
                      replace q132 := eq_true q132
                      have p133 : 0 ≤ (x3_1 : Int) := of_decide_eq_true (by first | (with_reducible assumption) | assumption)
                      have q133 : x3_1 < (l0.length : Int) := of_decide_eq_true (by first | (with_reducible assumption) | assumption)
                      obtain ⟨ad133, A133_0, c133_0, e133, hx133_0, hl133_0, hi133_0⟩ := at_L1 HR0.out x3_1 p133 q133
                      obtain rfl : ad132 = ad133 := (by injection e133)
                      have HR133_0 := Aside0.mk hi133_0
                      have HC133_0 := Aside0.mk hl133_0
                      clear hi133_0 hl133_0
                      replace p133 := eq_true p133
                      replace q133 := eq_true q133
                      have ea_ := Option.some.inj (hx132_0.symm.trans hx133_0)
                      injection ea_ with ea_ en_ ec_
                      subst ea_
                      subst ec_
                      clear en_
                      have p134 : 0 ≤ (x4_2 : Int) := of_decide_eq_true (by first | (with_reducible assumption) | assumption)
                      have q134 : x4_2 < ((rd_L1 l0 x3_1).length : Int) := of_decide_eq_true (by first | (with_reducible assumption) | assumption)
                      obtain ⟨ad134, e134, hx134_0⟩ := Kd.at_int HR133_0.out x4_2 p134 q134
                      cases e134
                      replace p134 := eq_true p134
                      replace q134 := eq_true q134
                      go_wp2
                      go_ret
                      exact ⟨by first | rfl | (simp; done) | (simp [*]; done), by repeat (first | exact Drawn0.refl _ | apply Drawn0.step)⟩
                    · rw [if_neg c7] at H
                      have c7b0 : ((rd (rd_L1 l0 x3_1) x4_2) == 0) = false := beq_eq_false_iff_ne.mpr c7
                      have c7b1 : ((rd (rd_L1 l0 x3_1) x4_2) != 0) = true := bne_iff_ne.mpr c7
                      by_cases c8 : (rd (rd_L1 l0 x3_1) x4_2) < (-10000)
                      · rw [if_pos c8] at H
                        have c8b0 : decide ((rd (rd_L1 l0 x3_1) x4_2) < (-10000)) = true := decide_eq_true c8
                        clear c8
                        obtain rfl := Option.some.inj H
                        have p132 : 0 ≤ (x3_1 : Int) := of_decide_eq_true (by first | (with_reducible assumption) | assumption)
                        have q132 : x3_1 < (l0.length : Int) := of_decide_eq_true (by first | (with_reducible assumption) | assumption)
                        obtain ⟨ad132, A132_0, c132_0, e132, hx132_0, hl132_0, hi132_0⟩ := at_L1 HR0.out x3_1 p132 q132
                        cases e132
                        have HR132_0 := Aside0.mk hi132_0
                        have HC132_0 := Aside0.mk hl132_0
                        clear hi132_0 hl132_0
                        replace p132 := eq_true p132
                        replace q132 := eq_true q132
                        have p133 : 0 ≤ (x3_1 : Int) := of_decide_eq_true (by first | (with_reducible assumption) | assumption)
                        have q133 : x3_1 < (l0.length : Int) := of_decide_eq_true (by first | (with_reducible assumption) | assumption)
                        obtain ⟨ad133, A133_0, c133_0, e133, hx133_0, hl133_0, hi133_0⟩ := at_L1 HR0.out x3_1 p133 q133
                        obtain rfl : ad132 = ad133 := (by injection e133)
                        have HR133_0 := Aside0.mk hi133_0
                        have HC133_0 := Aside0.mk hl133_0
                        clear hi133_0 hl133_0
                        replace p133 := eq_true p133
                        replace q133 := eq_true q133
                        have ea_ := Option.some.inj (hx132_0.symm.trans hx133_0)
                        injection ea_ with ea_ en_ ec_
                        subst ea_
                        subst ec_
                        clear en_
                        have p134 : 0 ≤ (x4_2 : Int) := of_decide_eq_true (by first | (with_reducible assumption) | assumption)
                        have q134 : x4_2 < ((rd_L1 l0 x3_1).length : Int) := of_decide_eq_true (by first | (with_reducible assumption) | assumption)
                        obtain ⟨ad134, e134, hx134_0⟩ := Kd.at_int HR133_0.out x4_2 p134 q134
                        cases e134
                        replace p134 := eq_true p134
                        replace q134 := eq_true q134
                        have p135 : 0 ≤ (x3_1 : Int) := of_decide_eq_true (by first | (with_reducible assumption) | assumption)
                        have q135 : x3_1 < (l0.length : Int) := of_decide_eq_true (by first | (with_reducible assumption) | assumption)
                        obtain ⟨ad135, A135_0, c135_0, e135, hx135_0, hl135_0, hi135_0⟩ := at_L1 HR0.out x3_1 p135 q135
                        obtain rfl : ad132 = ad135 := (by injection e135)
                        have HR135_0 := Aside0.mk hi135_0
                        have HC135_0 := Aside0.mk hl135_0
                        clear hi135_0 hl135_0
                        replace p135 := eq_true p135
                        replace q135 := eq_true q135
                        have ea_ := Option.some.inj (hx132_0.symm.trans hx135_0)
                        injection ea_ with ea_ en_ ec_
                        subst ea_
                        subst ec_
                        clear en_
                        have p136 : 0 ≤ (x4_2 : Int) := of_decide_eq_true (by first | (with_reducible assumption) | assumption)
                        have q136 : x4_2 < ((rd_L1 l0 x3_1).length : Int) := of_decide_eq_true (by first | (with_reducible assumption) | assumption)
                        obtain ⟨ad136, e136, hx136_0⟩ := Kd.at_int HR135_0.out x4_2 p136 q136
                        cases e136
                        replace p136 := eq_true p136
                        replace q136 := eq_true q136
                        go_wp2
                        go_ret
                        exact ⟨by first | rfl | (simp; done) | (simp [*]; done), by repeat (first | exact Drawn0.refl _ | apply Drawn0.step)⟩
                      · rw [if_neg c8] at H
                        have c8b0 : decide ((rd (rd_L1 l0 x3_1) x4_2) < (-10000)) = false := decide_eq_false c8
                        clear c8
                        by_cases c9 : (rd (rd_L1 l0 x3_1) x4_2) > 10000
                        · rw [if_pos c9] at H
                          have c9b0 : decide (10000 < (rd (rd_L1 l0 x3_1) x4_2)) = true := decide_eq_true c9
                          clear c9
                          obtain rfl := Option.some.inj H
                          have p132 : 0 ≤ (x3_1 : Int) := of_decide_eq_true (by first | (with_reducible assumption) | assumption)
                          have q132 : x3_1 < (l0.length : Int) := of_decide_eq_true (by first | (with_reducible assumption) | assumption)
                          obtain ⟨ad132, A132_0, c132_0, e132, hx132_0, hl132_0, hi132_0⟩ := at_L1 HR0.out x3_1 p132 q132
                          cases e132
                          have HR132_0 := Aside0.mk hi132_0
                          have HC132_0 := Aside0.mk hl132_0
                          clear hi132_0 hl132_0
                          replace p132 := eq_true p132
                          replace q132 := eq_true q132
                          have p133 : 0 ≤ (x3_1 : Int) := of_decide_eq_true (by first | (with_reducible assumption) | assumption)
                          have q133 : x3_1 < (l0.length : Int) := of_decide_eq_true (by first | (with_reducible assumption) | assumption)
                          obtain ⟨ad133, A133_0, c133_0, e133, hx133_0, hl133_0, hi133_0⟩ := at_L1 HR0.out x3_1 p133 q133
                          obtain rfl : ad132 = ad133 := (by injection e133)
                          have HR133_0 := Aside0.mk hi133_0
                          have HC133_0 := Aside0.mk hl133_0
                          clear hi133_0 hl133_0
                          replace p133 := eq_true p133
                          replace q133 := eq_true q133
                          have ea_ := Option.some.inj (hx132_0.symm.trans hx133_0)
                          injection ea_ with ea_ en_ ec_
                          subst ea_
                          subst ec_
                          clear en_
                          have p134 : 0 ≤ (x4_2 : Int) := of_decide_eq_true (by first | (with_reducible assumption) | assumption)
                          have q134 : x4_2 < ((rd_L1 l0 x3_1).length : Int) := of_decide_eq_true (by first | (with_reducible assumption) | assumption)
                          obtain ⟨ad134, e134, hx134_0⟩ := Kd.at_int HR133_0.out x4_2 p134 q134
                          cases e134
                          replace p134 := eq_true p134
                          replace q134 := eq_true q134
                          have p135 : 0 ≤ (x3_1 : Int) := of_decide_eq_true (by first | (with_reducible assumption) | assumption)
                          have q135 : x3_1 < (l0.length : Int) := of_decide_eq_true (by first | (with_reducible assumption) | assumption)
                          obtain ⟨ad135, A135_0, c135_0, e135, hx135_0, hl135_0, hi135_0⟩ := at_L1 HR0.out x3_1 p135 q135
                          obtain rfl : ad132 = ad135 := (by injection e135)
                          have HR135_0 := Aside0.mk hi135_0
                          have HC135_0 := Aside0.mk hl135_0
                          clear hi135_0 hl135_0
                          replace p135 := eq_true p135
                          replace q135 := eq_true q135
                          have ea_ := Option.some.inj (hx132_0.symm.trans hx135_0)
                          injection ea_ with ea_ en_ ec_
                          subst ea_
                          subst ec_
                          clear en_
                          have p136 : 0 ≤ (x4_2 : Int) := of_decide_eq_true (by first | (with_reducible assumption) | assumption)
                          have q136 : x4_2 < ((rd_L1 l0 x3_1).length : Int) := of_decide_eq_true (by first | (with_reducible assumption) | assumption)
                          obtain ⟨ad136, e136, hx136_0⟩ := Kd.at_int HR135_0.out x4_2 p136 q136
                          cases e136
                          replace p136 := eq_true p136
                          replace q136 := eq_true q136
                          have p137 : 0 ≤ (x3_1 : Int) := of_decide_eq_true (by first | (with_reducible assumption) | assumption)
                          have q137 : x3_1 < (l0.length : Int) := of_decide_eq_true (by first | (with_reducible assumption) | assumption)
                          obtain ⟨ad137, A137_0, c137_0, e137, hx137_0, hl137_0, hi137_0⟩ := at_L1 HR0.out x3_1 p137 q137
                          obtain rfl : ad132 = ad137 := (by injection e137)
                          have HR137_0 := Aside0.mk hi137_0
                          have HC137_0 := Aside0.mk hl137_0
                          clear hi137_0 hl137_0
                          replace p137 := eq_true p137
                          replace q137 := eq_true q137
                          have ea_ := Option.some.inj (hx132_0.symm.trans hx137_0)
                          injection ea_ with ea_ en_ ec_
                          subst ea_
                          subst ec_
                          clear en_
                          have p138 : 0 ≤ (x4_2 : Int) := of_decide_eq_true (by first | (with_reducible assumption) | assumption)
                          have q138 : x4_2 < ((rd_L1 l0 x3_1).length : Int) := of_decide_eq_true (by first | (with_reducible assumption) | assumption)
                          obtain ⟨ad138, e138, hx138_0⟩ := Kd.at_int HR137_0.out x4_2 p138 q138
                          cases e138
                          replace p138 := eq_true p138
                          replace q138 := eq_true q138
                          go_wp2
                          go_ret
                          exact ⟨by first | rfl | (simp; done) | (simp [*]; done), by repeat (first | exact Drawn0.refl _ | apply Drawn0.step)⟩
                        · rw [if_neg c9] at H
                          have c9b0 : decide (10000 < (rd (rd_L1 l0 x3_1) x4_2)) = false := decide_eq_false c9
                          clear c9
                          have H' := Aside0.mk H
                          clear H
                          have p132 : 0 ≤ (x3_1 : Int) := of_decide_eq_true (by first | (with_reducible assumption) | assumption)
                          have q132 : x3_1 < (l0.length : Int) := of_decide_eq_true (by first | (with_reducible assumption) | assumption)
                          obtain ⟨ad132, A132_0, c132_0, e132, hx132_0, hl132_0, hi132_0⟩ := at_L1 HR0.out x3_1 p132 q132
                          cases e132
                          have HR132_0 := Aside0.mk hi132_0
                          have HC132_0 := Aside0.mk hl132_0
                          clear hi132_0 hl132_0
                          replace p132 := eq_true p132
                          replace q132 := eq_true q132
                          have p133 : 0 ≤ (x3_1 : Int) := of_decide_eq_true (by first | (with_reducible assumption) | assumption)
                          have q133 : x3_1 < (l0.length : Int) := of_decide_eq_true (by first | (with_reducible assumption) | assumption)
                          obtain ⟨ad133, A133_0, c133_0, e133, hx133_0, hl133_0, hi133_0⟩ := at_L1 HR0.out x3_1 p133 q133
                          obtain rfl : ad132 = ad133 := (by injection e133)
                          have HR133_0 := Aside0.mk hi133_0
                          have HC133_0 := Aside0.mk hl133_0
                          clear hi133_0 hl133_0
                          replace p133 := eq_true p133
                          replace q133 := eq_true q133
                          have ea_ := Option.some.inj (hx132_0.symm.trans hx133_0)
                          injection ea_ with ea_ en_ ec_
                          subst ea_
                          subst ec_
                          clear en_
                          have p134 : 0 ≤ (x4_2 : Int) := of_decide_eq_true (by first | (with_reducible assumption) | assumption)
                          have q134 : x4_2 < ((rd_L1 l0 x3_1).length : Int) := of_decide_eq_true (by first | (with_reducible assumption) | assumption)
                          obtain ⟨ad134, e134, hx134_0⟩ := Kd.at_int HR133_0.out x4_2 p134 q134
                          cases e134
                          replace p134 := eq_true p134
                          replace q134 := eq_true q134
                          have p135 : 0 ≤ (x3_1 : Int) := of_decide_eq_true (by first | (with_reducible assumption) | assumption)
                          have q135 : x3_1 < (l0.length : Int) := of_decide_eq_true (by first | (with_reducible assumption) | assumption)
                          obtain ⟨ad135, A135_0, c135_0, e135, hx135_0, hl135_0, hi135_0⟩ := at_L1 HR0.out x3_1 p135 q135
                          obtain rfl : ad132 = ad135 := (by injection e135)
                          have HR135_0 := Aside0.mk hi135_0
                          have HC135_0 := Aside0.mk hl135_0
                          clear hi135_0 hl135_0
                          replace p135 := eq_true p135
                          replace q135 := eq_true q135
                          have ea_ := Option.some.inj (hx132_0.symm.trans hx135_0)
                          injection ea_ with ea_ en_ ec_
                          subst ea_
                          subst ec_
                          clear en_
                          have p136 : 0 ≤ (x4_2 : Int) := of_decide_eq_true (by first | (with_reducible assumption) | assumption)
                          have q136 : x4_2 < ((rd_L1 l0 x3_1).length : Int) := of_decide_eq_true (by first | (with_reducible assumption) | assumption)
                          obtain ⟨ad136, e136, hx136_0⟩ := Kd.at_int HR135_0.out x4_2 p136 q136
                          cases e136
                          replace p136 := eq_true p136
                          replace q136 := eq_true q136
                          have p137 : 0 ≤ (x3_1 : Int) := of_decide_eq_true (by first | (with_reducible assumption) | assumption)
                          have q137 : x3_1 < (l0.length : Int) := of_decide_eq_true (by first | (with_reducible assumption) | assumption)
                          obtain ⟨ad137, A137_0, c137_0, e137, hx137_0, hl137_0, hi137_0⟩ := at_L1 HR0.out x3_1 p137 q137
                          obtain rfl : ad132 = ad137 := (by injection e137)
                          have HR137_0 := Aside0.mk hi137_0
                          have HC137_0 := Aside0.mk hl137_0
                          clear hi137_0 hl137_0
                          replace p137 := eq_true p137
                          replace q137 := eq_true q137
                          have ea_ := Option.some.inj (hx132_0.symm.trans hx137_0)
                          injection ea_ with ea_ en_ ec_
                          subst ea_
                          subst ec_
                          clear en_
                          have p138 : 0 ≤ (x4_2 : Int) := of_decide_eq_true (by first | (with_reducible assumption) | assumption)
                          have q138 : x4_2 < ((rd_L1 l0 x3_1).length : Int) := of_decide_eq_true (by first | (with_reducible assumption) | assumption)
                          obtain ⟨ad138, e138, hx138_0⟩ := Kd.at_int HR137_0.out x4_2 p138 q138
                          cases e138
                          replace p138 := eq_true p138
                          replace q138 := eq_true q138
                          go_wp2
                          go_roundg k2
                          case measure => have := HK1.out; have := HK2.out; omega
                          case rel => exact ⟨(wrap64 (x4_2 + 1)), (by first | rfl | (simp; done) | (simp [*]; done)), H', ⟨by have := HK1.out; have := HK2.out; omega⟩, by repeat (first | exact Drawn0.refl _ | apply Drawn0.step)⟩
                  · rw [if_neg c6] at H
                    exact absurd H (by simp)
                · rw [if_neg c5] at H
                  have c5b0 : decide (x4_2 < ((rd_L1 l0 x3_1).length : Int)) = false := decide_eq_false c5
                  clear c5
                  have H' := Aside0.mk H
                  clear H
                  have p132 : 0 ≤ (x3_1 : Int) := of_decide_eq_true (by first | (with_reducible assumption) | assumption)
                  have q132 : x3_1 < (l0.length : Int) := of_decide_eq_true (by first | (with_reducible assumption) | assumption)
                  obtain ⟨ad132, A132_0, c132_0, e132, hx132_0, hl132_0, hi132_0⟩ := at_L1 HR0.out x3_1 p132 q132
                  cases e132
                  have HR132_0 := Aside0.mk hi132_0
                  have HC132_0 := Aside0.mk hl132_0
                  clear hi132_0 hl132_0
                  replace p132 := eq_true p132
                  replace q132 := eq_true q132
                  go_wp2
                  go_roundg k2
                  case measure => have := HK1.out; have := HK2.out; omega
                  case rel => exact ⟨(wrap64 (x3_1 + 1)), (by first | rfl | (simp; done) | (simp [*]; done)), H', ⟨by have := HK1.out; have := HK2.out; omega⟩, by repeat (first | exact Drawn0.refl _ | apply Drawn0.step)⟩
              · rw [if_neg c4] at H
                exact absurd H (by simp)
            · rw [if_neg c3] at H
              exact absurd H (by simp)
      · rw [if_neg c2] at H
        have c2b0 : decide (x3_1 < (l0.length : Int)) = false := decide_eq_false c2
        clear c2
        obtain rfl := Option.some.inj H
        go_wp2
        go_ret
        exact ⟨by first | rfl | (simp; done) | (simp [*]; done), by repeat (first | exact Drawn0.refl _ | apply Drawn0.step)⟩

/-! ### trace_Check: function 12 -/
/-- What trace.wrong tells of a literal. -/
def wrongB (n : Int) : Bool := n == 0 || decide (10000 < n) || decide (n < -10000)
theorem trace_wrong.calls (n : Int) (w : World) : Calls Try.prog 20 #[.int .i64 n] w fun e w' => e = .returned (.bool (wrongB n)) ∧ w = w' := by
  by_cases h1 : n = 0
  · subst h1
    go_enter Try.func20, Try.ntmps20
    go_wp2
    go_ret
    exact ⟨rfl, rfl⟩
  · have e1 : (n == 0) = false := by simpa using h1
    by_cases h2 : 10000 < n
    · have e2 : decide (10000 < n) = true := decide_eq_true h2
      have H : Hid (wrongB n = true) := by show wrongB n = true; simp [wrongB, e1, e2]
      clear h1 h2
      go_enter Try.func20, Try.ntmps20
      go_wp2
      go_ret
      exact ⟨by rw [H.out]; rfl, rfl⟩
    · have e2 : decide (10000 < n) = false := decide_eq_false h2
      have H : Hid (wrongB n = decide (n < -10000)) := by show wrongB n = decide (n < -10000); simp [wrongB, e1, e2]
      clear h1 h2
      go_enter Try.func20, Try.ntmps20
      go_wp2
      go_ret
      exact ⟨by rw [H.out]; rfl, rfl⟩
/-- The place of the first element that is so; -1: there is none. -/
def firstAt {α : Type} (p : α → Bool) (l : List α) : Int := match l.findIdx? p with
  | some i => (i : Int)
  | none => -1
theorem firstAt_some {α : Type} {p : α → Bool} {l : List α} {k : Nat} (hk : k < l.length) (h : ∀ x ∈ l.take k, p x = false) (hp : p l[k] = true) : firstAt p l = (k : Int) := by
  have : l.findIdx? p = some k := by
    rw [List.findIdx?_eq_some_iff_getElem]
    refine ⟨hk, hp, fun j hj => ?_⟩
    have := h l[j] (by rw [List.mem_take_iff_getElem]; exact ⟨j, by omega, rfl⟩)
    simp [this]
  unfold firstAt
  rw [this]
theorem firstAt_none {α : Type} {p : α → Bool} {l : List α} (h : ∀ x ∈ l, p x = false) : firstAt p l = -1 := by
  have : l.findIdx? p = none := by
    rw [List.findIdx?_eq_none_iff]
    exact h
  unfold firstAt
  rw [this]
theorem firstAt_ge {α : Type} (p : α → Bool) (l : List α) : decide (0 ≤ firstAt p l) = l.any p := by
  unfold firstAt
  cases h : l.findIdx? p with
  | some i =>
    obtain ⟨hi, hp, _⟩ := List.findIdx?_eq_some_iff_getElem.1 h
    have : l.any p = true := List.any_eq_true.2 ⟨l[i], List.getElem_mem hi, hp⟩
    rw [this]
    simp
  | none =>
    have := List.findIdx?_eq_none_iff.1 h
    have : l.any p = false := List.any_eq_false.2 fun x hx => by simp [this x hx]
    rw [this]
    simp
theorem take_mem_succ {α : Type} {p : α → Bool} {l : List α} {k : Nat} (hk : k < l.length) (h : ∀ x ∈ l.take k, p x = false) (hp : p l[k] = false) : ∀ x ∈ l.take (k + 1), p x = false := by
  intro x hx
  rw [List.take_succ_eq_append_getElem hk] at hx
  rcases List.mem_append.1 hx with hx | hx
  · exact h x hx
  · rw [List.mem_singleton.1 hx]; exact hp

theorem rdL_get {l : List Int} {k : Nat} (hk : k < l.length) : rd l (k : Int) = l[k] := by
  unfold rd
  rw [Int.toNat_natCast, List.getD_eq_getElem?_getD, List.getElem?_eq_getElem hk]
  rfl
set_option maxHeartbeats 1000000 in
theorem idx27 (A0 : Option Addr) (c0 : Nat) (l0 : List Int) (w : World) (hr0 : Kd.C (Kd.int .i64) w A0 l0.length l0) :
    Calls Try.prog 27 #[.slice A0 l0.length c0, .func (.func 20) #[] #[]] w fun e w' => e = .returned (.int .i64 (firstAt wrongB l0)) ∧ w = w' := by
  have HR0 := Aside0.mk hr0
  have HL : l0.length ≤ 9223372036854775807 := hr0.2.1
  clear hr0
  go_enter Try.func27, Try.ntmps27
  go_wp2
  go_loop [8] (fun v => ∃ k : Nat, v = .int .i64 (k : Int) ∧ Aside0 (k ≤ l0.length) ∧ Aside0 (∀ x ∈ l0.take k, wrongB x = false)) (fun v => match v with | .int _ q => l0.length - q.toNat | _ => 0)
  case atStart => exact ⟨0, rfl, ⟨Nat.zero_le _⟩, ⟨by simp⟩⟩
  case round =>
    obtain ⟨k, rfl, HK, HN⟩ := hrel
    by_cases hlt : (k : Int) < (l0.length : Int)
    · have hkn : k < l0.length := by omega
      obtain ⟨ad, e, hx⟩ := Kd.at_int HR0.out (k : Int) (Int.natCast_nonneg _) hlt
      cases e
      rw [Int.toNat_natCast] at hx
      cases hb : wrongB (rd l0 (k : Int)) with
      | true =>
        have HE := Aside0.mk (firstAt_some hkn HN.out (by rw [← rdL_get hkn]; exact hb))
        go_wp2_with (go_at_call 20; refine (trace_wrong.calls _ _).mono ?_; rintro e w' ⟨rfl, rfl⟩)
        go_ret
        exact ⟨by rw [HE.out]; rfl, rfl⟩
      | false =>
        have HE := Aside0.mk (take_mem_succ hkn HN.out (by rw [← rdL_get hkn]; exact hb))
        go_wp2_with (go_at_call 20; refine (trace_wrong.calls _ _).mono ?_; rintro e w' ⟨rfl, rfl⟩)
        refine ⟨⟨k + 1, by simp, ⟨hkn⟩, HE⟩, by simp; omega⟩
    · have HE := Aside0.mk (firstAt_none (p := wrongB) (l := l0) (by have := HN.out; rwa [List.take_of_length_le (by omega)] at this))
      go_wp2
      go_ret
      exact ⟨by rw [HE.out]; rfl, rfl⟩

/-- What the closure 'odd' tells of a clause. -/
def oddB (c : List Int) : Bool := c.any wrongB
theorem trace_odd19 (A0 : Option Addr) (c0 : Nat) (l0 : List Int) (w : World) (hr0 : Kd.C (Kd.int .i64) w A0 l0.length l0) :
    Calls Try.prog 19 #[.slice A0 l0.length c0, .func (.func 20) #[] #[]] w fun e w' => e = .returned (.bool (oddB l0)) ∧ w = w' := by
  have HR0 := Aside0.mk hr0
  have HE := Aside0.mk (firstAt_ge wrongB l0)
  clear hr0
  go_enter Try.func19, Try.ntmps19
  go_wp2_with (go_at_call 27; refine (idx27 _ _ _ _ HR0.out).mono ?_; rintro e w' ⟨rfl, rfl⟩)
  go_ret
  exact ⟨by show Ending.returned (.bool (decide (0 ≤ firstAt wrongB l0))) = _; rw [HE.out]; rfl, rfl⟩
theorem trace_odd18 (A0 : Option Addr) (c0 : Nat) (l0 : List Int) (w : World) (hr0 : Kd.C (Kd.int .i64) w A0 l0.length l0) :
    Calls Try.prog 18 #[.slice A0 l0.length c0] w fun e w' => e = .returned (.bool (oddB l0)) ∧ w = w' := by
  have HR0 := Aside0.mk hr0
  clear hr0
  go_enter Try.func18, Try.ntmps18
  go_wp2_with (go_at_call 19; refine (trace_odd19 _ _ _ _ HR0.out).mono ?_; rintro e w' ⟨rfl, rfl⟩)
  go_ret
  exact ⟨rfl, rfl⟩
theorem rdL2_get {l : List (List Int)} {k : Nat} (hk : k < l.length) : rd_L1 l (k : Int) = l[k] := by
  unfold rd_L1
  rw [Int.toNat_natCast, List.getD_eq_getElem?_getD, List.getElem?_eq_getElem hk]
  rfl
set_option maxHeartbeats 1000000 in
theorem idx28 (A0 : Option Addr) (c0 : Nat) (l0 : List (List Int)) (w : World) (hr0 : Kd.C (Kd.slice 3 (Kd.int .i64)) w A0 l0.length l0) :
    Calls Try.prog 28 #[.slice A0 l0.length c0, .func (.func 18) #[] #[]] w fun e w' => e = .returned (.int .i64 (firstAt oddB l0)) ∧ w = w' := by
  have HR0 := Aside0.mk hr0
  have HL : l0.length ≤ 9223372036854775807 := hr0.2.1
  clear hr0
  go_enter Try.func28, Try.ntmps28
  go_wp2
  go_loop [8] (fun v => ∃ k : Nat, v = .int .i64 (k : Int) ∧ Aside0 (k ≤ l0.length) ∧ Aside0 (∀ x ∈ l0.take k, oddB x = false)) (fun v => match v with | .int _ q => l0.length - q.toNat | _ => 0)
  case atStart => exact ⟨0, rfl, ⟨Nat.zero_le _⟩, ⟨by simp⟩⟩
  case round =>
    obtain ⟨k, rfl, HK, HN⟩ := hrel
    by_cases hlt : (k : Int) < (l0.length : Int)
    · have hkn : k < l0.length := by omega
      obtain ⟨ad, A, c, e, hx, _, hi⟩ := at_L1 HR0.out (k : Int) (Int.natCast_nonneg _) hlt
      cases e
      rw [Int.toNat_natCast] at hx
      have HI := Aside0.mk hi
      clear hi
      cases hb : oddB (rd_L1 l0 (k : Int)) with
      | true =>
        have HE := Aside0.mk (firstAt_some hkn HN.out (by rw [← rdL2_get hkn]; exact hb))
        go_wp2_with (go_at_call 18; refine (trace_odd18 _ _ _ _ HI.out).mono ?_; rintro e w' ⟨rfl, rfl⟩)
        go_ret
        exact ⟨by rw [HE.out]; rfl, rfl⟩
      | false =>
        have HE := Aside0.mk (take_mem_succ hkn HN.out (by rw [← rdL2_get hkn]; exact hb))
        go_wp2_with (go_at_call 18; refine (trace_odd18 _ _ _ _ HI.out).mono ?_; rintro e w' ⟨rfl, rfl⟩)
        refine ⟨⟨k + 1, by simp, ⟨hkn⟩, HE⟩, by simp; omega⟩
    · have HE := Aside0.mk (firstAt_none (p := oddB) (l := l0) (by have := HN.out; rwa [List.take_of_length_le (by omega)] at this))
      go_wp2
      go_ret
      exact ⟨by rw [HE.out]; rfl, rfl⟩
theorem trace_odd21 (A0 : Option Addr) (c0 : Nat) (l0 : List (List Int)) (w : World) (hr0 : Kd.C (Kd.slice 3 (Kd.int .i64)) w A0 l0.length l0) :
    Calls Try.prog 21 #[.slice A0 l0.length c0, .func (.func 18) #[] #[]] w fun e w' => e = .returned (.bool (l0.any oddB)) ∧ w = w' := by
  have HR0 := Aside0.mk hr0
  have HE := Aside0.mk (firstAt_ge oddB l0)
  clear hr0
  go_enter Try.func21, Try.ntmps21
  go_wp2_with (go_at_call 28; refine (idx28 _ _ _ _ HR0.out).mono ?_; rintro e w' ⟨rfl, rfl⟩)
  go_ret
  exact ⟨by show Ending.returned (.bool (decide (0 ≤ firstAt oddB l0))) = _; rw [HE.out], rfl⟩

/-! Rows of rows as rows of headers. -/
def Heads (w : World) (us : List (List Value)) (xs : List (List Int)) : Prop := us.length = xs.length ∧ ∀ (j : Nat) (p : List Int) (u : List Value), xs[j]? = some p → us[j]? = some u → (Kd.slice 3 (Kd.int .i64)).K w p u
theorem Heads.below {w w1 : World} {us : List (List Value)} {xs : List (List Int)} (h : Heads w us xs) (hb : Below w.heap.size w w1) : Heads w1 us xs := ⟨h.1, fun j p u hp hu => (Kd.slice 3 (Kd.int .i64)).K_below hb (h.2 j p u hp hu)⟩
theorem Heads.append {w : World} {us vs : List (List Value)} {xs ys : List (List Int)} (h : Heads w us xs) (k : Heads w vs ys) : Heads w (us ++ vs) (xs ++ ys) := by
  refine ⟨by rw [List.length_append, List.length_append, h.1, k.1], fun j p u hp hu => ?_⟩
  by_cases hj : j < xs.length
  · rw [List.getElem?_append_left hj] at hp
    rw [List.getElem?_append_left (by rw [h.1]; exact hj)] at hu
    exact h.2 j p u hp hu
  · rw [List.getElem?_append_right (by omega)] at hp
    rw [List.getElem?_append_right (by rw [h.1]; omega), h.1] at hu
    exact k.2 _ p u hp hu
/-- A row's headers, as they are read. -/
def RawRead (w : World) (A : Option Addr) (n : Nat) (us : List (List Value)) : Prop := ReadsRow (fun (x c : List Value) => c = x ∧ c.length = 1 ∧ ∀ u ∈ c, u.oneCell' = true) 1 w A n us
theorem heads_of_C {w : World} {A : Option Addr} {xs : List (List Int)} (h : Kd.C (Kd.slice 3 (Kd.int .i64)) w A xs.length xs) : ∃ us, Heads w us xs ∧ RawRead w A xs.length us := by
  obtain ⟨_, hm, hc⟩ := h
  by_cases hp : 0 < xs.length
  · obtain ⟨ad, hA, hj⟩ := hc hp
    have each : ∀ j, j < xs.length → ∃ c : List Value, c.length = 1 ∧ (∀ p, xs[j]? = some p → (Kd.slice 3 (Kd.int .i64)).K w p c) ∧ ∀ i u, c[i]? = some u → w.cell? (ad.add (j * 1 + i)) = some u := by
      intro j hjl
      obtain ⟨c, h1, h2, h3⟩ := hj j _ (List.getElem?_eq_getElem hjl)
      exact ⟨c, h1, fun p hp => by rw [List.getElem?_eq_getElem hjl] at hp; cases hp; exact h2, h3⟩
    obtain ⟨f, hf⟩ := Go.Deep.choose_lt each
    have hget : ∀ j, j < xs.length → ((List.range xs.length).map f)[j]? = some (f j) := fun j hjl => by rw [List.getElem?_map, List.getElem?_range hjl]; rfl
    refine ⟨(List.range xs.length).map f, ⟨by simp, fun j p u hp hu => ?_⟩, by simp, hm, fun _ => ⟨ad, hA, fun j u hu => ?_⟩⟩
    · have hjl := (List.getElem?_eq_some_iff.1 hp).1
      rw [hget j hjl] at hu
      cases hu
      exact (hf j hjl).2.1 p hp
    · have hjl : j < xs.length := by have := (List.getElem?_eq_some_iff.1 hu).1; simpa using this
      rw [hget j hjl] at hu
      cases hu
      obtain ⟨h1, h2, h3⟩ := hf j hjl
      exact ⟨f j, h1, ⟨rfl, h1, (Kd.slice 3 (Kd.int .i64)).K_one (h2 _ (List.getElem?_eq_getElem hjl))⟩, h3⟩
  · have : xs = [] := List.eq_nil_of_length_eq_zero (by omega)
    subst this
    exact ⟨[], ⟨rfl, fun j p u hp => by simp at hp⟩, rfl, by simp, fun h => absurd h (by simp)⟩
theorem C_of_heads {w : World} {A : Option Addr} {n c : Nat} {us : List (List Value)} {xs : List (List Int)} {e base : Nat} {ok : Nat → Prop} (hR : (Kd.raw 1).R e w base ok (.slice A n c) us) (h : Heads w us xs) : n = xs.length ∧ xs.length ≤ c ∧ Kd.C (Kd.slice 3 (Kd.int .i64)) w A xs.length xs := by
  obtain ⟨h1, h2, h3⟩ := Kd.R_reads' hR
  have hl := h.1
  refine ⟨by omega, by omega, rfl, by have := h3.2.1; omega, fun hp => ?_⟩
  obtain ⟨ad, hA, hj⟩ := h3.2.2 (by omega)
  refine ⟨ad, hA, fun j p hjp => ?_⟩
  have hjl := (List.getElem?_eq_some_iff.1 hjp).1
  obtain ⟨c', g1, g2, g3⟩ := hj j _ (List.getElem?_eq_getElem (by omega : j < us.length))
  have g2' : c' = us[j]'(by omega) := g2.1
  refine ⟨c', g1, ?_, g3⟩
  rw [g2']
  exact h.2 j p _ hjp (List.getElem?_eq_getElem (by omega))
theorem clone17 (A0 : Option Addr) (c0 : Nat) (l0 : List (List Int)) (w : World) (hr0 : Kd.C (Kd.slice 3 (Kd.int .i64)) w A0 l0.length l0) (hl : l0.length < 5864062014805) :
    Calls Try.prog 17 #[.slice A0 l0.length c0] w fun e w' => ∃ v us, e = .returned v ∧ (Kd.raw 1).R 26 w' w.heap.size (fun _ => True) v us ∧ Heads w us l0 ∧ Below w.heap.size w w' := by
  have HR0 := Aside0.mk hr0
  have HB := Aside0.mk (Below.refl w.heap.size w)
  cases A0 with
  | none =>
    have hz : l0 = [] := by
      apply List.eq_nil_of_length_eq_zero
      have := hr0.2.2
      by_cases hp : 0 < l0.length
      · obtain ⟨ad, h, _⟩ := this hp
        cases h
      · omega
    clear hr0 HR0 hl
    subst hz
    have hn := fun W => Lib.run_eql_slice_nil (P := Try.prog) W 22 26 none 0 c0 0 0 Try.underlying22
    go_enter Try.func17, Try.ntmps17
    go_wp2
    go_ret
    exact ⟨.slice none 0 0, [], rfl, Kd.R_nil _ _ _ _ _, ⟨rfl, fun j p u hp => by simp at hp⟩, HB.out⟩
  | some a =>
    obtain ⟨us, hh, hrr⟩ := heads_of_C hr0
    have HH := Aside0.mk hh
    have HRR := Aside0.mk hrr
    have HL := Aside0.mk hl
    clear hr0 hh hrr hl
    have hn := fun W => Lib.run_eql_slice_nil (P := Try.prog) W 22 26 (some a) l0.length c0 0 0 Try.underlying22
    go_enter Try.func17, Try.ntmps17
    go_wp2_with (first | ((with_reducible refine gate_dst (N := 5) rfl ?_); refine Kd.R_lit (Kd.raw 1) w.heap.size 26 ?hg (N := 5) ?hd (xs := ([] : List (List Value))) (inner := []) (ok := fun _ => True) (okp := fun _ => True) ?hr ?hp (fun _ hk => hk) trivial HB.out (Nat.le_refl _) (by simp) ?_; (case hd => rfl); (case hg => rfl); (case hr => first | (go_simp; done) | (go_simp; rfl)); (case hp => exact (Reps.none _ _)); intro v1 w1 ho1 hb1 hg1 hnew1; clear hg1 hnew1; have HO1 := Aside0.mk ho1; have HB1 := Aside0.mk hb1; clear ho1 hb1) | ((with_reducible refine gate_builtin (b := .append) (xs := #[.tmp 5, .tmp 6]) rfl ?_); at_builtin; refine Kd.R_append_rows (Kd.raw 1) (w0 := w) w.heap.size rfl (.tmp 5) (.tmp 6) 22 26 (.slice none 0 0) 24 rfl Try.underlying22 info26 rfl (by decide) (by decide) v1 [] us (some a) l0.length c0 (fun _ => True) (fun _ => False) ?hs ?hx HO1.out ?hR (fun _ _ h => h) (fun _ h => h.elim) (fun _ _ => trivial) HB1.out ?hS ?hL ?_; (case hs => rfl); (case hx => rfl); (case hR => exact ReadsRow.imp_ HRR.out HB1.out (fun _ _ h => h)); (case hS => exact HB1.out.size); (case hL => have := HL.out; simp only [List.length_nil]; omega); intro v2 w2 ho2 hb2 hg2 hat2; clear hg2 hat2; have HO2 := Aside0.mk ho2; have HB2 := Aside0.mk hb2; clear ho2 hb2))
    go_ret
    exact ⟨v2, _, rfl, HO2.out, HH.out, HB2.out⟩

/-! trace.Check. -/
def trace_Check.l0 : Nat → List (List Int) → List (List Int) → List (List Int) → Int → Int → Option Bool
  | 0, _, _, _, _, _ => none
  | k + 1, x0, x1, x5, x7, x36 => if x36 < (x1.length : Int) then (if 0 ≤ x36 then (if 0 ≤ wrap64 ((x0.length : Int) + x36) then (if wrap64 ((x0.length : Int) + x36) ≤ (x5.length : Int) then ((trace_follows.f k (x5.take (wrap64 ((x0.length : Int) + x36)).toNat) (rd_L1 x1 x36) x7).bind fun t => (if t = true then (trace_Check.l0 k x0 x1 x5 x7 (wrap64 (x36 + 1))) else (some false))) else (none)) else (none)) else (none)) else (some true)
def trace_Check.f (k : Nat) (l0 : List (List Int)) (l1 : List (List Int)) : Option (Bool) := if l0.length + l1.length < 5864062014805 then (if (l0 ++ l1).any oddB = true then (some false) else (if l1.length = 0 then (some false) else (if 0 < (rd_L1 l1 (wrap64 ((l1.length : Int) - 1))).length then (some false) else ((trace_vars.f k (l0 ++ l1)).bind fun n => trace_Check.l0 k l0 l1 (l0 ++ l1) n 0)))) else (none)
theorem trace_Check.mono_l : ∀ k, (∀ y0 y1 y2 y3 y4, LeO (trace_Check.l0 k y0 y1 y2 y3 y4) (trace_Check.l0 (k + 1) y0 y1 y2 y3 y4))
  | 0 => fun _ _ _ _ _ r h => by simp [trace_Check.l0] at h
  | k + 1 => by
    have ih0 := trace_Check.mono_l k
    intro y0 y1 y2 y3 y4
    unfold trace_Check.l0
    refine LeO.ite (LeO.ite (LeO.ite (LeO.ite (LeO.bind (trace_follows.mono _ _ _ _) (fun _ => LeO.ite (ih0 _ _ _ _ _) (LeO.refl _))) (LeO.refl _)) (LeO.refl _)) (LeO.refl _)) (LeO.refl _)
theorem trace_Check.mono : ∀ a0 a1 k, LeO (trace_Check.f k a0 a1) (trace_Check.f (k + 1) a0 a1) := by
  intro a0 a1 k
  unfold trace_Check.f
  exact LeO.ite (LeO.ite (LeO.refl _) (LeO.ite (LeO.refl _) (LeO.ite (LeO.refl _) (LeO.bind (trace_vars.mono _ _) (fun _ => trace_Check.mono_l k _ _ _ _ _))))) (LeO.refl _)
/-- 'all[:i:i]' of a row that is read. -/
theorem cut3 {P : Program} (t e : TypeId) (kl km : IntKind) {i : TypeInfo} (ht : P.underlying t = some (.slice e)) (hi : P.info? e = some i) (A : Option Addr) (n c : Nat) (m : Int) (h0 : 0 ≤ m) (hm : m ≤ (c : Int)) :
    ∀ W : World, (Instr.slice t (.slice A n c) none (some (.int kl m)) (some (.int km m))).run P W = .ok (.slice A m.toNat m.toNat) W := by
  intro W
  have hel : P.elem t = e := by simp [Program.elem, ht]
  have hu : P.underlying t = some (.slice (P.elem t)) := by rw [hel]; exact ht
  have ha : (A.map fun x => x.add 0) = A := by cases A <;> simp [Addr.add]
  rw [run_slice_hm W t A n c hu kl km m m h0 (Int.le_refl _) hm, hel]
  simp [sizeOf, typeInfo, hi, sliced, Result.andThen, ha]
/-! The four ways of trace.Check. -/
set_option maxHeartbeats 4000000 in
set_option maxRecDepth 100000 in
theorem check_odd (A0 : Option Addr) (c0 : Nat) (l0 : List (List Int)) (A1 : Option Addr) (c1 : Nat) (l1 : List (List Int)) (w : World) (hr0 : Kd.C (Kd.slice 3 (Kd.int .i64)) w A0 l0.length l0) (hr1 : Kd.C (Kd.slice 3 (Kd.int .i64)) w A1 l1.length l1) (hll : l0.length + l1.length < 5864062014805) (L : List (List Int)) (hle : l0 ++ l1 = L) (hodd : L.any oddB = true) :
    Calls Try.prog 12 #[.slice A0 l0.length c0, .slice A1 l1.length c1] w fun e w' => e = .returned (.bool false) ∧ Below w.heap.size w w' := by
  obtain ⟨us1, hhu, hrr1⟩ := heads_of_C hr1
  have HR0 := Aside0.mk hr0
  have HR1 := Aside0.mk hr1
  have HHU := Aside0.mk hhu
  have HRR1 := Aside0.mk hrr1
  have HLL := Aside0.mk hll
  have HLE := Aside0.mk hle
  have HODD := Aside0.mk hodd
  clear hr0 hr1 hhu hrr1 hll hle hodd
  go_enter Try.func12, Try.ntmps12
  go_wp2_with (first | ((with_reducible refine gate_callee (f := 17) rfl ?_); refine goesL_ (some 11) rfl rfl Try.func17 (by kernel_rfl) rfl #[.slice A0 l0.length c0] rfl (by (try simp only [List.map_toArray, List.map_cons, List.map_nil]); first | done | rfl) ?_; (with_reducible refine (clone17 A0 c0 l0 _ ?side1 ?side2).mono ?_); (case side1 => exact HR0.out); (case side2 => have := HLL.out; omega); rintro e w1 ⟨v1, us, rfl, ho1, hh1, hb1⟩; refine ⟨_, rfl, ?_⟩; have HO1 := Aside0.mk ho1; have HH1 := Aside0.mk hh1; have HB1 := Aside0.mk hb1; clear ho1 hh1 hb1) | ((with_reducible refine gate_builtin (b := .append) (xs := #[.tmp 11, .tmp 12]) rfl ?_); at_builtin; refine Kd.R_append_rows (Kd.raw 1) (w0 := w) w.heap.size rfl (.tmp 11) (.tmp 12) 22 26 (.slice none 0 0) 24 rfl Try.underlying22 info26 rfl (by decide) (by decide) v1 us us1 A1 l1.length c1 (fun _ => True) (fun _ => False) ?hs ?hx HO1.out ?hR (fun _ _ h => h) (fun _ h => h.elim) (fun _ _ => trivial) HB1.out ?hS ?hL ?_; (case hs => rfl); (case hx => rfl); (case hR => exact ReadsRow.imp_ HRR1.out HB1.out (fun _ _ h => h)); (case hS => exact HB1.out.size); (case hL => have := HLL.out; have := HH1.out.1; omega); intro v2 w2 ho2 hb2 hg2 hat2; clear hg2 hat2; obtain ⟨Aa, ca, ea⟩ := Kd.R_slice ho2; subst ea; have hc2 := C_of_heads ho2 ((HH1.out.append HHU.out).below hb2); have hcl := hc2.1.trans (congrArg List.length HLE.out); have hcr := HLE.out ▸ hc2.2.2; have hcc := HLE.out ▸ hc2.2.1; rw [hcl] at ho2 ⊢; have HA := Aside0.mk hcr; have HAc := Aside0.mk hcc; clear hcl hcr hcc; have HB2 := Aside0.mk hb2; clear ho2 hb2 hc2) | ((with_reducible refine gate_callee (f := 21) rfl ?_); refine goesL_ (some 16) rfl rfl Try.func21 (by kernel_rfl) rfl #[.slice Aa L.length ca, .func (.func 18) #[] #[]] rfl (by (try simp only [List.map_toArray, List.map_cons, List.map_nil]); first | done | rfl) ?_; (with_reducible refine (trace_odd21 Aa ca L _ ?side1).mono ?_); (case side1 => exact HA.out); rintro e w3 ⟨he, rfl⟩; rw [HODD.out] at he; subst he; refine ⟨_, rfl, ?_⟩))
  go_ret
  exact ⟨rfl, HB2.out⟩
set_option maxHeartbeats 4000000 in
set_option maxRecDepth 100000 in
theorem check_none (A0 : Option Addr) (c0 : Nat) (l0 : List (List Int)) (A1 : Option Addr) (c1 : Nat) (l1 : List (List Int)) (w : World) (hr0 : Kd.C (Kd.slice 3 (Kd.int .i64)) w A0 l0.length l0) (hr1 : Kd.C (Kd.slice 3 (Kd.int .i64)) w A1 l1.length l1) (hll : l0.length + l1.length < 5864062014805) (L : List (List Int)) (hle : l0 ++ l1 = L) (hodd : L.any oddB = false) (hl1 : l1.length = 0) :
    Calls Try.prog 12 #[.slice A0 l0.length c0, .slice A1 l1.length c1] w fun e w' => e = .returned (.bool false) ∧ Below w.heap.size w w' := by
  obtain ⟨us1, hhu, hrr1⟩ := heads_of_C hr1
  have HR0 := Aside0.mk hr0
  have HR1 := Aside0.mk hr1
  have HHU := Aside0.mk hhu
  have HRR1 := Aside0.mk hrr1
  have HLL := Aside0.mk hll
  have HLE := Aside0.mk hle
  have HODD := Aside0.mk hodd
  clear hr0 hr1 hhu hrr1 hll hle hodd
  have c0b : ((l1.length : Int) == 0) = true := beq_iff_eq.mpr (by omega)
  clear hl1
  go_enter Try.func12, Try.ntmps12
  go_wp2_with (first | ((with_reducible refine gate_callee (f := 17) rfl ?_); refine goesL_ (some 11) rfl rfl Try.func17 (by kernel_rfl) rfl #[.slice A0 l0.length c0] rfl (by (try simp only [List.map_toArray, List.map_cons, List.map_nil]); first | done | rfl) ?_; (with_reducible refine (clone17 A0 c0 l0 _ ?side1 ?side2).mono ?_); (case side1 => exact HR0.out); (case side2 => have := HLL.out; omega); rintro e w1 ⟨v1, us, rfl, ho1, hh1, hb1⟩; refine ⟨_, rfl, ?_⟩; have HO1 := Aside0.mk ho1; have HH1 := Aside0.mk hh1; have HB1 := Aside0.mk hb1; clear ho1 hh1 hb1) | ((with_reducible refine gate_builtin (b := .append) (xs := #[.tmp 11, .tmp 12]) rfl ?_); at_builtin; refine Kd.R_append_rows (Kd.raw 1) (w0 := w) w.heap.size rfl (.tmp 11) (.tmp 12) 22 26 (.slice none 0 0) 24 rfl Try.underlying22 info26 rfl (by decide) (by decide) v1 us us1 A1 l1.length c1 (fun _ => True) (fun _ => False) ?hs ?hx HO1.out ?hR (fun _ _ h => h) (fun _ h => h.elim) (fun _ _ => trivial) HB1.out ?hS ?hL ?_; (case hs => rfl); (case hx => rfl); (case hR => exact ReadsRow.imp_ HRR1.out HB1.out (fun _ _ h => h)); (case hS => exact HB1.out.size); (case hL => have := HLL.out; have := HH1.out.1; omega); intro v2 w2 ho2 hb2 hg2 hat2; clear hg2 hat2; obtain ⟨Aa, ca, ea⟩ := Kd.R_slice ho2; subst ea; have hc2 := C_of_heads ho2 ((HH1.out.append HHU.out).below hb2); have hcl := hc2.1.trans (congrArg List.length HLE.out); have hcr := HLE.out ▸ hc2.2.2; have hcc := HLE.out ▸ hc2.2.1; rw [hcl] at ho2 ⊢; have HA := Aside0.mk hcr; have HAc := Aside0.mk hcc; clear hcl hcr hcc; have HB2 := Aside0.mk hb2; clear ho2 hb2 hc2) | ((with_reducible refine gate_callee (f := 21) rfl ?_); refine goesL_ (some 16) rfl rfl Try.func21 (by kernel_rfl) rfl #[.slice Aa L.length ca, .func (.func 18) #[] #[]] rfl (by (try simp only [List.map_toArray, List.map_cons, List.map_nil]); first | done | rfl) ?_; (with_reducible refine (trace_odd21 Aa ca L _ ?side1).mono ?_); (case side1 => exact HA.out); rintro e w3 ⟨he, rfl⟩; rw [HODD.out] at he; subst he; refine ⟨_, rfl, ?_⟩))
  go_ret
  exact ⟨rfl, HB2.out⟩
set_option maxHeartbeats 4000000 in
set_option maxRecDepth 100000 in
theorem check_last (A0 : Option Addr) (c0 : Nat) (l0 : List (List Int)) (A1 : Option Addr) (c1 : Nat) (l1 : List (List Int)) (w : World) (hr0 : Kd.C (Kd.slice 3 (Kd.int .i64)) w A0 l0.length l0) (hr1 : Kd.C (Kd.slice 3 (Kd.int .i64)) w A1 l1.length l1) (hll : l0.length + l1.length < 5864062014805) (L : List (List Int)) (hle : l0 ++ l1 = L) (hodd : L.any oddB = false) (hl1 : l1.length ≠ 0) (hlast : 0 < (rd_L1 l1 (wrap64 ((l1.length : Int) - 1))).length) :
    Calls Try.prog 12 #[.slice A0 l0.length c0, .slice A1 l1.length c1] w fun e w' => e = .returned (.bool false) ∧ Below w.heap.size w w' := by
  obtain ⟨us1, hhu, hrr1⟩ := heads_of_C hr1
  have HR0 := Aside0.mk hr0
  have HR1 := Aside0.mk hr1
  have HHU := Aside0.mk hhu
  have HRR1 := Aside0.mk hrr1
  have HLL := Aside0.mk hll
  have HLE := Aside0.mk hle
  have HODD := Aside0.mk hodd
  clear hr0 hr1 hhu hrr1 hll hle hodd
  obtain ⟨ji, hji⟩ : ∃ j : Int, wrap64 ((l1.length : Int) - 1) = j := ⟨_, rfl⟩
  have hjiw : IntKind.i64.wrap ((l1.length : Int) - 1) = ji := (i64_w _).trans hji
  have hj0 : 0 ≤ ji ∧ ji < (l1.length : Int) := by
    have := HLL.out
    unfold wrap64 at hji
    omega
  rw [hji] at hlast
  have c0b : ((l1.length : Int) == 0) = false := beq_eq_false_iff_ne.mpr (by omega)
  have c0c : ((l1.length : Int) != 0) = true := bne_iff_ne.mpr (by omega)
  have d0 : decide (0 ≤ ji) = true := decide_eq_true hj0.1
  have d1 : decide (ji < (l1.length : Int)) = true := decide_eq_true hj0.2
  obtain ⟨ad, AL, cL, eL, hxL, hlL, hiL⟩ := at_L1 HR1.out ji hj0.1 hj0.2
  cases eL
  have HXL := Aside0.mk hxL
  have e1 := eq_true hj0.1
  have e2 := eq_true hj0.2
  clear hxL hlL hiL hj0 hl1
  have d2 : decide (0 < (rd_L1 l1 ji).length) = true := decide_eq_true hlast
  have d3 : decide (((rd_L1 l1 ji).length : Int) > 0) = true := decide_eq_true (by omega)
  clear hlast
  go_enter Try.func12, Try.ntmps12
  go_wp2_with (first | ((with_reducible refine gate_callee (f := 17) rfl ?_); refine goesL_ (some 11) rfl rfl Try.func17 (by kernel_rfl) rfl #[.slice A0 l0.length c0] rfl (by (try simp only [List.map_toArray, List.map_cons, List.map_nil]); first | done | rfl) ?_; (with_reducible refine (clone17 A0 c0 l0 _ ?side1 ?side2).mono ?_); (case side1 => exact HR0.out); (case side2 => have := HLL.out; omega); rintro e w1 ⟨v1, us, rfl, ho1, hh1, hb1⟩; refine ⟨_, rfl, ?_⟩; have HO1 := Aside0.mk ho1; have HH1 := Aside0.mk hh1; have HB1 := Aside0.mk hb1; clear ho1 hh1 hb1) | ((with_reducible refine gate_builtin (b := .append) (xs := #[.tmp 11, .tmp 12]) rfl ?_); at_builtin; refine Kd.R_append_rows (Kd.raw 1) (w0 := w) w.heap.size rfl (.tmp 11) (.tmp 12) 22 26 (.slice none 0 0) 24 rfl Try.underlying22 info26 rfl (by decide) (by decide) v1 us us1 (some ad) l1.length c1 (fun _ => True) (fun _ => False) ?hs ?hx HO1.out ?hR (fun _ _ h => h) (fun _ h => h.elim) (fun _ _ => trivial) HB1.out ?hS ?hL ?_; (case hs => rfl); (case hx => rfl); (case hR => exact ReadsRow.imp_ HRR1.out HB1.out (fun _ _ h => h)); (case hS => exact HB1.out.size); (case hL => have := HLL.out; have := HH1.out.1; omega); intro v2 w2 ho2 hb2 hg2 hat2; clear hg2 hat2; obtain ⟨Aa, ca, ea⟩ := Kd.R_slice ho2; subst ea; have hc2 := C_of_heads ho2 ((HH1.out.append HHU.out).below hb2); have hcl := hc2.1.trans (congrArg List.length HLE.out); have hcr := HLE.out ▸ hc2.2.2; have hcc := HLE.out ▸ hc2.2.1; rw [hcl] at ho2 ⊢; have HA := Aside0.mk hcr; have HAc := Aside0.mk hcc; clear hcl hcr hcc; have HB2 := Aside0.mk hb2; clear ho2 hb2 hc2) | ((with_reducible refine gate_callee (f := 21) rfl ?_); refine goesL_ (some 16) rfl rfl Try.func21 (by kernel_rfl) rfl #[.slice Aa L.length ca, .func (.func 18) #[] #[]] rfl (by (try simp only [List.map_toArray, List.map_cons, List.map_nil]); first | done | rfl) ?_; (with_reducible refine (trace_odd21 Aa ca L _ ?side1).mono ?_); (case side1 => exact HA.out); rintro e w3 ⟨he, rfl⟩; rw [HODD.out] at he; subst he; refine ⟨_, rfl, ?_⟩; have hxL := (HB2.out.cell (World.block_lt_of_cell? w _ HXL.out)).trans HXL.out))
  go_ret
  exact ⟨rfl, HB2.out⟩
set_option maxHeartbeats 4000000 in
set_option maxRecDepth 100000 in
theorem check_goes (k : Nat) (A0 : Option Addr) (c0 : Nat) (l0 : List (List Int)) (A1 : Option Addr) (c1 : Nat) (l1 : List (List Int)) (w : World) (hr0 : Kd.C (Kd.slice 3 (Kd.int .i64)) w A0 l0.length l0) (hr1 : Kd.C (Kd.slice 3 (Kd.int .i64)) w A1 l1.length l1) (hll : l0.length + l1.length < 5864062014805) (L : List (List Int)) (hle : l0 ++ l1 = L) (hodd : L.any oddB = false) (hl1 : l1.length ≠ 0) (hlast : (rd_L1 l1 (wrap64 ((l1.length : Int) - 1))).length = 0) (n : Int) (hn : trace_vars.f k L = some n) (r : Bool) (hr : trace_Check.l0 k l0 l1 L n 0 = some r) :
    Calls Try.prog 12 #[.slice A0 l0.length c0, .slice A1 l1.length c1] w fun e w' => e = .returned (.bool r) ∧ Below w.heap.size w w' := by
  obtain ⟨us1, hhu, hrr1⟩ := heads_of_C hr1
  have HR0 := Aside0.mk hr0
  have HR1 := Aside0.mk hr1
  have HHU := Aside0.mk hhu
  have HRR1 := Aside0.mk hrr1
  have HLL := Aside0.mk hll
  have HLE := Aside0.mk hle
  have HODD := Aside0.mk hodd
  clear hr0 hr1 hhu hrr1 hll hle hodd
  obtain ⟨ji, hji⟩ : ∃ j : Int, wrap64 ((l1.length : Int) - 1) = j := ⟨_, rfl⟩
  have hjiw : IntKind.i64.wrap ((l1.length : Int) - 1) = ji := (i64_w _).trans hji
  have hj0 : 0 ≤ ji ∧ ji < (l1.length : Int) := by
    have := HLL.out
    unfold wrap64 at hji
    omega
  rw [hji] at hlast
  have c0b : ((l1.length : Int) == 0) = false := beq_eq_false_iff_ne.mpr (by omega)
  have c0c : ((l1.length : Int) != 0) = true := bne_iff_ne.mpr (by omega)
  have d0 : decide (0 ≤ ji) = true := decide_eq_true hj0.1
  have d1 : decide (ji < (l1.length : Int)) = true := decide_eq_true hj0.2
  obtain ⟨ad, AL, cL, eL, hxL, hlL, hiL⟩ := at_L1 HR1.out ji hj0.1 hj0.2
  cases eL
  have HXL := Aside0.mk hxL
  have e1 := eq_true hj0.1
  have e2 := eq_true hj0.2
  clear hxL hlL hiL hj0 hl1
  have d2 : decide (0 < (rd_L1 l1 ji).length) = false := decide_eq_false (by omega)
  have d3 : decide (((rd_L1 l1 ji).length : Int) > 0) = false := decide_eq_false (by omega)
  have HN := Aside0.mk hn
  have H' := Aside0.mk hr
  clear hlast hn hr
  go_enter Try.func12, Try.ntmps12
  go_wp2_with (first | ((with_reducible refine gate_callee (f := 17) rfl ?_); refine goesL_ (some 11) rfl rfl Try.func17 (by kernel_rfl) rfl #[.slice A0 l0.length c0] rfl (by (try simp only [List.map_toArray, List.map_cons, List.map_nil]); first | done | rfl) ?_; (with_reducible refine (clone17 A0 c0 l0 _ ?side1 ?side2).mono ?_); (case side1 => exact HR0.out); (case side2 => have := HLL.out; omega); rintro e w1 ⟨v1, us, rfl, ho1, hh1, hb1⟩; refine ⟨_, rfl, ?_⟩; have HO1 := Aside0.mk ho1; have HH1 := Aside0.mk hh1; have HB1 := Aside0.mk hb1; clear ho1 hh1 hb1) | ((with_reducible refine gate_builtin (b := .append) (xs := #[.tmp 11, .tmp 12]) rfl ?_); at_builtin; refine Kd.R_append_rows (Kd.raw 1) (w0 := w) w.heap.size rfl (.tmp 11) (.tmp 12) 22 26 (.slice none 0 0) 24 rfl Try.underlying22 info26 rfl (by decide) (by decide) v1 us us1 (some ad) l1.length c1 (fun _ => True) (fun _ => False) ?hs ?hx HO1.out ?hR (fun _ _ h => h) (fun _ h => h.elim) (fun _ _ => trivial) HB1.out ?hS ?hL ?_; (case hs => rfl); (case hx => rfl); (case hR => exact ReadsRow.imp_ HRR1.out HB1.out (fun _ _ h => h)); (case hS => exact HB1.out.size); (case hL => have := HLL.out; have := HH1.out.1; omega); intro v2 w2 ho2 hb2 hg2 hat2; clear hg2 hat2; obtain ⟨Aa, ca, ea⟩ := Kd.R_slice ho2; subst ea; have hc2 := C_of_heads ho2 ((HH1.out.append HHU.out).below hb2); have hcl := hc2.1.trans (congrArg List.length HLE.out); have hcr := HLE.out ▸ hc2.2.2; have hcc := HLE.out ▸ hc2.2.1; rw [hcl] at ho2 ⊢; have HA := Aside0.mk hcr; have HAc := Aside0.mk hcc; clear hcl hcr hcc; have HB2 := Aside0.mk hb2; clear ho2 hb2 hc2) | ((with_reducible refine gate_callee (f := 21) rfl ?_); refine goesL_ (some 16) rfl rfl Try.func21 (by kernel_rfl) rfl #[.slice Aa L.length ca, .func (.func 18) #[] #[]] rfl (by (try simp only [List.map_toArray, List.map_cons, List.map_nil]); first | done | rfl) ?_; (with_reducible refine (trace_odd21 Aa ca L _ ?side1).mono ?_); (case side1 => exact HA.out); rintro e w3 ⟨he, rfl⟩; rw [HODD.out] at he; subst he; refine ⟨_, rfl, ?_⟩; have hxL := (HB2.out.cell (World.block_lt_of_cell? w _ HXL.out)).trans HXL.out) | ((with_reducible refine gate_callee (f := 22) rfl ?_); refine goesL_ (some 33) rfl rfl Try.func22 (by kernel_rfl) rfl #[.slice Aa L.length ca] rfl (by (try simp only [List.map_toArray, List.map_cons, List.map_nil]); first | done | rfl) ?_; (with_reducible refine (trace_vars.calls k _ _ L n _ ?side1 ?side2 HN.out).mono ?_); (case side1 => exact HA.out); (case side2 => exact HAc.out); rintro e w4 ⟨rfl, hb4⟩; refine ⟨_, rfl, ?_⟩; have n0_ := Aside0.mk (Kd.C_below HA.out hb4); have n1_ := Aside0.mk (below_step HB2.out hb4); clear HA HB2 hb4; have HA := n0_; have HB2 := n1_; clear n0_ n1_))
  clear hxL
  go_loopg [36] k (fun kq v36 w' => ∃ (x36 : Int), v36 = .int .i64 x36 ∧ Aside0 (trace_Check.l0 kq l0 l1 L n x36 = some r) ∧ Aside0 (kq ≤ k) ∧ Aside0 (Kd.C (Kd.slice 3 (Kd.int .i64)) w' Aa L.length L) ∧ Aside0 (Below w.heap.size w w'))
  case atStart => exact ⟨0, rfl, H', ⟨Nat.le_refl _⟩, HA, HB2⟩
  case round =>
    clear H' HA HB2
    obtain ⟨x36, rfl, HQ, HK, HA, HB2⟩ := hrel
    cases gk with
    | zero => exact absurd HQ.out (by simp [trace_Check.l0])
    | succ k1 =>
      have H := HQ.out
      clear HQ
      simp only [trace_Check.l0] at H
      by_cases c1 : x36 < (l1.length : Int)
      · rw [if_pos c1] at H
        have c1b : decide (x36 < (l1.length : Int)) = true := decide_eq_true c1
        by_cases c2 : 0 ≤ x36
        · rw [if_pos c2] at H
          have c2b : decide (0 ≤ x36) = true := decide_eq_true c2
          obtain ⟨jq, hjq⟩ : ∃ j : Int, wrap64 ((l0.length : Int) + x36) = j := ⟨_, rfl⟩
          rw [hjq] at H
          have hjqw : IntKind.i64.wrap ((l0.length : Int) + x36) = jq := (i64_w _).trans hjq
          by_cases c3 : 0 ≤ jq
          · rw [if_pos c3] at H
            by_cases c4 : jq ≤ (L.length : Int)
            · rw [if_pos c4] at H
              obtain ⟨t, hf, H⟩ := Option.bind_eq_some_iff.mp H
              have HF := Aside0.mk hf
              clear hf
              obtain ⟨adI, AI, cI, eI, hxI, hlI, hiI⟩ := at_L1 HR1.out x36 c2 c1
              cases eI
              have hxI2 := (HB2.out.cell (World.block_lt_of_cell? w _ hxI)).trans hxI
              have HI := Aside0.mk (Kd.C_below hiI HB2.out)
              have HIc := Aside0.mk hlI
              clear hxI hlI hiI
              obtain ⟨i0, hi0, _, _, _⟩ := info_parts info26
              have hcut := cut3 (P := Try.prog) 22 26 .i64 .i64 Try.underlying22 hi0 Aa L.length ca jq c3 (by have := HAc.out; omega)
              have KY := Aside0.mk (show (L.take jq.toNat).length = jq.toNat by rw [List.length_take]; omega)
              have HCT := Aside0.mk (Kd.C_take (m := jq.toNat) HA.out (by omega))
              have f1 := eq_true c2
              have f2 := eq_true c1
              clear c1 c2 c3 c4 hi0
              cases t with
              | true =>
                rw [if_pos rfl] at H
                have H' := Aside0.mk H
                clear H
                go_wp2_with (first | ((with_reducible refine gate_callee (f := 23) rfl ?_); refine goesL_ (some 53) rfl rfl Try.func23 (by kernel_rfl) rfl #[.slice Aa jq.toNat jq.toNat, .slice AI (rd_L1 l1 x36).length cI, .int .i64 n] rfl (by (try simp only [List.map_toArray, List.map_cons, List.map_nil]); first | done | rfl) ?_; have hc5 := trace_follows.calls k1 Aa jq.toNat (L.take jq.toNat) AI cI (rd_L1 l1 x36) n _ _ HCT.out (Nat.le_of_eq KY.out) HI.out HIc.out HF.out; rw [KY.out] at hc5; (with_reducible refine hc5.mono ?_); clear hc5; rintro e w5 ⟨rfl, hb5⟩; refine ⟨_, rfl, ?_⟩; have n0_ := Aside0.mk (Kd.C_below HA.out hb5); have n1_ := Aside0.mk (below_step HB2.out hb5); clear HA HB2 HCT hb5; have HA := n0_; have HB2 := n1_; clear n0_ n1_))
                go_roundg k1
                case measure => have := HK.out; omega
                case rel => exact ⟨wrap64 (x36 + 1), (by first | rfl | (simp; done) | (simp [*]; done)), H', ⟨by have := HK.out; omega⟩, HA, HB2⟩
              | false =>
                rw [if_neg (by decide)] at H
                obtain rfl := Option.some.inj H
                go_wp2_with (first | ((with_reducible refine gate_callee (f := 23) rfl ?_); refine goesL_ (some 53) rfl rfl Try.func23 (by kernel_rfl) rfl #[.slice Aa jq.toNat jq.toNat, .slice AI (rd_L1 l1 x36).length cI, .int .i64 n] rfl (by (try simp only [List.map_toArray, List.map_cons, List.map_nil]); first | done | rfl) ?_; have hc5 := trace_follows.calls k1 Aa jq.toNat (L.take jq.toNat) AI cI (rd_L1 l1 x36) n _ _ HCT.out (Nat.le_of_eq KY.out) HI.out HIc.out HF.out; rw [KY.out] at hc5; (with_reducible refine hc5.mono ?_); clear hc5; rintro e w5 ⟨rfl, hb5⟩; refine ⟨_, rfl, ?_⟩; have n0_ := Aside0.mk (Kd.C_below HA.out hb5); have n1_ := Aside0.mk (below_step HB2.out hb5); clear HA HB2 HCT hb5; have HA := n0_; have HB2 := n1_; clear n0_ n1_))
                go_ret
                exact ⟨rfl, HB2.out⟩
            · rw [if_neg c4] at H
              cases H
          · rw [if_neg c3] at H
            cases H
        · rw [if_neg c2] at H
          cases H
      · rw [if_neg c1] at H
        have c1b : decide (x36 < (l1.length : Int)) = false := decide_eq_false c1
        clear c1
        obtain rfl := Option.some.inj H
        go_wp2
        go_ret
        exact ⟨rfl, HB2.out⟩
theorem trace_Check.calls (k : Nat) (A0 : Option Addr) (c0 : Nat) (l0 : List (List Int)) (A1 : Option Addr) (c1 : Nat) (l1 : List (List Int)) (r : Bool) (w : World) (hr0 : Kd.C (Kd.slice 3 (Kd.int .i64)) w A0 l0.length l0) (_hc0 : l0.length ≤ c0) (hr1 : Kd.C (Kd.slice 3 (Kd.int .i64)) w A1 l1.length l1) (_hc1 : l1.length ≤ c1) (h : trace_Check.f k l0 l1 = some r) :
    Calls Try.prog 12 #[.slice A0 l0.length c0, .slice A1 l1.length c1] w fun e w' => e = .returned (.bool r) ∧ Below w.heap.size w w' := by
  unfold trace_Check.f at h
  by_cases h1 : l0.length + l1.length < 5864062014805
  · rw [if_pos h1] at h
    by_cases h2 : (l0 ++ l1).any oddB = true
    · rw [if_pos h2] at h
      obtain rfl := Option.some.inj h
      exact check_odd A0 c0 l0 A1 c1 l1 w hr0 hr1 h1 _ rfl h2
    · rw [if_neg h2] at h
      have h2' := Bool.eq_false_iff.2 h2
      by_cases h3 : l1.length = 0
      · rw [if_pos h3] at h
        obtain rfl := Option.some.inj h
        exact check_none A0 c0 l0 A1 c1 l1 w hr0 hr1 h1 _ rfl h2' h3
      · rw [if_neg h3] at h
        by_cases h4 : 0 < (rd_L1 l1 (wrap64 ((l1.length : Int) - 1))).length
        · rw [if_pos h4] at h
          obtain rfl := Option.some.inj h
          exact check_last A0 c0 l0 A1 c1 l1 w hr0 hr1 h1 _ rfl h2' h3 h4
        · rw [if_neg h4] at h
          obtain ⟨n, hn, hr⟩ := Option.bind_eq_some_iff.mp h
          exact check_goes k A0 c0 l0 A1 c1 l1 w hr0 hr1 h1 _ rfl h2' h3 (by omega) n hn r hr
  · rw [if_neg h1] at h
    cases h

end Go.Proofs.Ytbmnoofffodakaa.Q
