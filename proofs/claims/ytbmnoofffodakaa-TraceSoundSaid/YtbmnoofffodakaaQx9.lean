/- written by a program of this session (wip/tools/printx.py, over the kit's printing program) out of the translation -/
import Derived.Test.YtbmnoofffodakaaQx0
import Derived.Test.YtbmnoofffodakaaQx3
import Derived.Test.YtbmnoofffodakaaQx4
import Derived.Test.YtbmnoofffodakaaQx8
namespace Go.Proofs.Ytbmnoofffodakaa.Q
open Go.RowKit Go.Proofs.YtbmnoofffodakaaW.PrintWords Go.Proofs.YtbmnoofffodakaaW.PrintLast Go.Proofs.YtbmnoofffodakaaW.PrintMore
attribute [local go_sem] max2_int min2_int max_two min_two max_three min_three max_four min_four   -- for this text's walks alone
set_option linter.unusedVariables false
set_option linter.unusedSimpArgs false

/-! ### ashlarlaw10_TraceSound: function 4 -/
mutual
def ashlarlaw10_TraceSound.l0 : Nat → List (List Int) → List (List Int) → Bool → Int → Option (Bool)
  | 0, _, _, _, _ => none
  | k + 1, x0, x1, x5, x6 => if x6 < (x0.length : Int) then (ashlarlaw10_TraceSound.l1 k x0 x1 x5 x6 0) else ((ashlarlaw10_few.f k x1).bind fun t316 => ((trace_Check.f k x0 t316).bind fun t319 => (if t319 = true then (ashlarlaw10_TraceSound.l2 k x0 x5 0) else (some x5))))
def ashlarlaw10_TraceSound.l1 : Nat → List (List Int) → List (List Int) → Bool → Int → Int → Option (Bool)
  | 0, _, _, _, _, _ => none
  | k + 1, x0, x1, x5, x6, x7 => if 0 ≤ x6 then (if x6 < (x0.length : Int) then (if x7 < ((rd_L1 x0 x6).length : Int) then (if 0 ≤ x7 then (if (rd (rd_L1 x0 x6) x7) < (-8) then (some x5) else (if (rd (rd_L1 x0 x6) x7) > 8 then (some x5) else (ashlarlaw10_TraceSound.l1 k x0 x1 x5 x6 (wrap64 (x7 + 1))))) else (none)) else (ashlarlaw10_TraceSound.l0 k x0 x1 x5 (wrap64 (x6 + 1)))) else (none)) else (none)
def ashlarlaw10_TraceSound.l2 : Nat → List (List Int) → Bool → Int → Option (Bool)
  | 0, _, _, _ => none
  | k + 1, x0, x5, x8 => if x8 < 256 then (ashlarlaw10_TraceSound.l3 k x0 x5 x8 (([0, 0, 0, 0, 0, 0, 0, 0, 0] : List Int)) 1) else (some x5)
def ashlarlaw10_TraceSound.l3 : Nat → List (List Int) → Bool → Int → List Int → Int → Option (Bool)
  | 0, _, _, _, _, _ => none
  | k + 1, x0, x5, x8, x9, x10 => if x10 ≤ 8 then (if 0 ≤ (IntKind.u64.wrap (wrap64 (x10 - 1))) then (if 0 ≤ x10 then (if x10 < (x9.length : Int) then (ashlarlaw10_TraceSound.l3 k x0 x5 x8 (x9.set (x10 : Int).toNat (IntKind.i8.wrap ((IntKind.i8.wrap ((IntKind.i8.wrap (Go.bits .and .i64 (shr .i64 x8 (IntKind.u64.wrap (wrap64 (x10 - 1)))) 1)) * 2)) - 1))) (wrap64 (x10 + 1))) else (none)) else (none)) else (none)) else ((ashlarref08_Eval.f k x0 x9).bind fun t324 => (if t324 = 1 then (some false) else (ashlarlaw10_TraceSound.l2 k x0 x5 (wrap64 (x8 + 1)))))
end
def ashlarlaw10_TraceSound.f (k : Nat) (l0 : List (List Int)) (l1 : List (List Int)) : Option (Bool) := (ashlarlaw10_shown.f k).bind fun t307 => ((ashlarlaw10_few.f k l0).bind fun t308 => (ashlarlaw10_TraceSound.l0 k t308 l1 t307 0))
theorem ashlarlaw10_TraceSound.mono_l : ∀ k, (∀ y0 y1 y2 y3, LeO (ashlarlaw10_TraceSound.l0 k y0 y1 y2 y3) (ashlarlaw10_TraceSound.l0 (k + 1) y0 y1 y2 y3)) ∧ (∀ y0 y1 y2 y3 y4, LeO (ashlarlaw10_TraceSound.l1 k y0 y1 y2 y3 y4) (ashlarlaw10_TraceSound.l1 (k + 1) y0 y1 y2 y3 y4)) ∧ (∀ y0 y1 y2, LeO (ashlarlaw10_TraceSound.l2 k y0 y1 y2) (ashlarlaw10_TraceSound.l2 (k + 1) y0 y1 y2)) ∧ (∀ y0 y1 y2 y3 y4, LeO (ashlarlaw10_TraceSound.l3 k y0 y1 y2 y3 y4) (ashlarlaw10_TraceSound.l3 (k + 1) y0 y1 y2 y3 y4))
  | 0 => ⟨fun _ _ _ _ r h => by simp [ashlarlaw10_TraceSound.l0] at h, fun _ _ _ _ _ r h => by simp [ashlarlaw10_TraceSound.l1] at h, fun _ _ _ r h => by simp [ashlarlaw10_TraceSound.l2] at h, fun _ _ _ _ _ r h => by simp [ashlarlaw10_TraceSound.l3] at h⟩
  | k + 1 => by
    obtain ⟨ih0, ih1, ih2, ih3⟩ := ashlarlaw10_TraceSound.mono_l k
    refine ⟨?_, ?_, ?_, ?_⟩
    · intro y0 y1 y2 y3
      unfold ashlarlaw10_TraceSound.l0
      repeat' first
      | (with_reducible exact ih0 _ _ _ _)
      | (with_reducible exact ih1 _ _ _ _ _)
      | (with_reducible exact ih2 _ _ _)
      | (with_reducible exact ih3 _ _ _ _ _)
      | (with_reducible exact ashlarlaw10_few.mono _ _)
      | (with_reducible exact ashlarlaw10_shown.mono _)
      | (with_reducible exact ashlarref08_Eval.mono _ _ _)
      | (with_reducible exact trace_Check.mono _ _ _)
      | (with_reducible exact LeO.refl _)
      | (with_reducible exact LeO.none _)
      | (with_reducible refine LeO.ite ?_ ?_)
      | (with_reducible refine LeO.bind ?_ (fun _ => ?_))
      | exact ih0 _ _ _ _
      | exact ih1 _ _ _ _ _
      | exact ih2 _ _ _
      | exact ih3 _ _ _ _ _
      | exact ashlarlaw10_few.mono _ _
      | exact ashlarlaw10_shown.mono _
      | exact ashlarref08_Eval.mono _ _ _
      | exact trace_Check.mono _ _ _
      | exact LeO.none _
      | refine LeO.ite ?_ ?_
      | refine LeO.bind ?_ (fun _ => ?_)
    · intro y0 y1 y2 y3 y4
      unfold ashlarlaw10_TraceSound.l1
      repeat' first
      | (with_reducible exact ih0 _ _ _ _)
      | (with_reducible exact ih1 _ _ _ _ _)
      | (with_reducible exact ih2 _ _ _)
      | (with_reducible exact ih3 _ _ _ _ _)
      | (with_reducible exact ashlarlaw10_few.mono _ _)
      | (with_reducible exact ashlarlaw10_shown.mono _)
      | (with_reducible exact ashlarref08_Eval.mono _ _ _)
      | (with_reducible exact trace_Check.mono _ _ _)
      | (with_reducible exact LeO.refl _)
      | (with_reducible exact LeO.none _)
      | (with_reducible refine LeO.ite ?_ ?_)
      | (with_reducible refine LeO.bind ?_ (fun _ => ?_))
      | exact ih0 _ _ _ _
      | exact ih1 _ _ _ _ _
      | exact ih2 _ _ _
      | exact ih3 _ _ _ _ _
      | exact ashlarlaw10_few.mono _ _
      | exact ashlarlaw10_shown.mono _
      | exact ashlarref08_Eval.mono _ _ _
      | exact trace_Check.mono _ _ _
      | exact LeO.none _
      | refine LeO.ite ?_ ?_
      | refine LeO.bind ?_ (fun _ => ?_)
    · intro y0 y1 y2
      unfold ashlarlaw10_TraceSound.l2
      repeat' first
      | (with_reducible exact ih0 _ _ _ _)
      | (with_reducible exact ih1 _ _ _ _ _)
      | (with_reducible exact ih2 _ _ _)
      | (with_reducible exact ih3 _ _ _ _ _)
      | (with_reducible exact ashlarlaw10_few.mono _ _)
      | (with_reducible exact ashlarlaw10_shown.mono _)
      | (with_reducible exact ashlarref08_Eval.mono _ _ _)
      | (with_reducible exact trace_Check.mono _ _ _)
      | (with_reducible exact LeO.refl _)
      | (with_reducible exact LeO.none _)
      | (with_reducible refine LeO.ite ?_ ?_)
      | (with_reducible refine LeO.bind ?_ (fun _ => ?_))
      | exact ih0 _ _ _ _
      | exact ih1 _ _ _ _ _
      | exact ih2 _ _ _
      | exact ih3 _ _ _ _ _
      | exact ashlarlaw10_few.mono _ _
      | exact ashlarlaw10_shown.mono _
      | exact ashlarref08_Eval.mono _ _ _
      | exact trace_Check.mono _ _ _
      | exact LeO.none _
      | refine LeO.ite ?_ ?_
      | refine LeO.bind ?_ (fun _ => ?_)
    · intro y0 y1 y2 y3 y4
      unfold ashlarlaw10_TraceSound.l3
      repeat' first
      | (with_reducible exact ih0 _ _ _ _)
      | (with_reducible exact ih1 _ _ _ _ _)
      | (with_reducible exact ih2 _ _ _)
      | (with_reducible exact ih3 _ _ _ _ _)
      | (with_reducible exact ashlarlaw10_few.mono _ _)
      | (with_reducible exact ashlarlaw10_shown.mono _)
      | (with_reducible exact ashlarref08_Eval.mono _ _ _)
      | (with_reducible exact trace_Check.mono _ _ _)
      | (with_reducible exact LeO.refl _)
      | (with_reducible exact LeO.none _)
      | (with_reducible refine LeO.ite ?_ ?_)
      | (with_reducible refine LeO.bind ?_ (fun _ => ?_))
      | exact ih0 _ _ _ _
      | exact ih1 _ _ _ _ _
      | exact ih2 _ _ _
      | exact ih3 _ _ _ _ _
      | exact ashlarlaw10_few.mono _ _
      | exact ashlarlaw10_shown.mono _
      | exact ashlarref08_Eval.mono _ _ _
      | exact trace_Check.mono _ _ _
      | exact LeO.none _
      | refine LeO.ite ?_ ?_
      | refine LeO.bind ?_ (fun _ => ?_)
theorem ashlarlaw10_TraceSound.mono : ∀ a0 a1 k, LeO (ashlarlaw10_TraceSound.f k a0 a1) (ashlarlaw10_TraceSound.f (k + 1) a0 a1) := by
  intro a0 a1 k
  obtain ⟨ih0, ih1, ih2, ih3⟩ := ashlarlaw10_TraceSound.mono_l k
  unfold ashlarlaw10_TraceSound.f
  repeat' first
      | (with_reducible exact ih0 _ _ _ _)
      | (with_reducible exact ih1 _ _ _ _ _)
      | (with_reducible exact ih2 _ _ _)
      | (with_reducible exact ih3 _ _ _ _ _)
      | (with_reducible exact ashlarlaw10_few.mono _ _)
      | (with_reducible exact ashlarlaw10_shown.mono _)
      | (with_reducible exact ashlarref08_Eval.mono _ _ _)
      | (with_reducible exact trace_Check.mono _ _ _)
      | (with_reducible exact LeO.refl _)
      | (with_reducible exact LeO.none _)
      | (with_reducible refine LeO.ite ?_ ?_)
      | (with_reducible refine LeO.bind ?_ (fun _ => ?_))
      | exact ih0 _ _ _ _
      | exact ih1 _ _ _ _ _
      | exact ih2 _ _ _
      | exact ih3 _ _ _ _ _
      | exact ashlarlaw10_few.mono _ _
      | exact ashlarlaw10_shown.mono _
      | exact ashlarref08_Eval.mono _ _ _
      | exact trace_Check.mono _ _ _
      | exact LeO.none _
      | refine LeO.ite ?_ ?_
      | refine LeO.bind ?_ (fun _ => ?_)
set_option maxHeartbeats 8000000 in
set_option maxRecDepth 100000 in
theorem ashlarlaw10_TraceSound.calls (k : Nat) (A0 : Option Addr) (c0 : Nat) (l0 : List (List Int)) (A1 : Option Addr) (c1 : Nat) (l1 : List (List Int)) (r : Bool) (w : World) (hr0 : Kd.C (Kd.slice 3 (Kd.int .i64)) w A0 l0.length l0) (hc0 : l0.length ≤ c0) (hr1 : Kd.C (Kd.slice 3 (Kd.int .i64)) w A1 l1.length l1) (hc1 : l1.length ≤ c1) (h : ashlarlaw10_TraceSound.f k l0 l1 = some r) :
    Calls Try.prog 4 #[.slice A0 l0.length c0, .slice A1 l1.length c1] w fun e w' => e = .returned (.bool r) ∧ Below w.heap.size w w' := by
  have HR0 := Aside0.mk hr0
  have HC0 := Aside0.mk hc0
  clear hr0 hc0
  have HR1 := Aside0.mk hr1
  have HC1 := Aside0.mk hc1
  clear hr1 hc1
  have HB := Aside0.mk (Below.refl w.heap.size w)
  have H : ((ashlarlaw10_shown.f k).bind fun t307 => ((ashlarlaw10_few.f k l0).bind fun t308 => (ashlarlaw10_TraceSound.l0 k t308 l1 t307 0))) = some r := h
  clear h
  replace H := Option.bind_eq_some_iff.mp H
  obtain ⟨t307, A30, H⟩ := H
  replace H : ((ashlarlaw10_few.f k l0).bind fun t308 => (ashlarlaw10_TraceSound.l0 k t308 l1 t307 0)) = some r := H
  have A3 := Aside0.mk A30
  clear A30
  replace H := Option.bind_eq_some_iff.mp H
  obtain ⟨t308, A40, H⟩ := H
  replace H : (ashlarlaw10_TraceSound.l0 k t308 l1 t307 0) = some r := H
  have A4 := Aside0.mk A40
  clear A40
  have H' := Aside0.mk H
  clear H
  go_enter Try.func4, Try.ntmps4
  go_wp2_with (first | ((with_reducible refine gate_callee (f := 10) rfl ?_); refine goesL_ (some 11) rfl rfl Try.func10 (by kernel_rfl) rfl #[] rfl (by (try simp only [List.map_toArray, List.map_cons, List.map_nil]); first | done | rfl | (simp only [List.length_drop, List.length_take]; rfl)) ?_; (with_reducible refine (ashlarlaw10_shown.calls k  t307 _ A3.out).mono ?_); rintro e w5 ⟨rfl, hb⟩; refine ⟨_, rfl, ?_⟩; have n0_ := Aside0.mk (below_step (by repeat (first | (with_reducible first | exact HB.out | apply below_alloc | apply pw_below_drewN | apply below_drew1) | exact HB.out)) hb); clear HB; have HB := n0_; clear n0_; (try clear hb); (try clear hb2); (try clear hk); (try clear hi)) | ((with_reducible refine gate_callee (f := 11) rfl ?_); refine goesL_ (some 13) rfl rfl Try.func11 (by kernel_rfl) rfl #[.slice A0 l0.length c0] rfl (by (try simp only [List.map_toArray, List.map_cons, List.map_nil]); first | done | rfl | (simp only [List.length_drop, List.length_take]; rfl)) ?_; (with_reducible refine (ashlarlaw10_few.calls k _ _ l0 t308 _ ?side1 ?side2 A4.out).mono ?_); (case side1 => repeat (first | exact (Kd.C_below HR0.out HB.out) | (with_reducible refine Kd.C_alloc ?_ _) | (with_reducible refine Kd.C_drewN ?_ _) | (with_reducible refine Kd.C_drew ?_))); (case side2 => exact HC0.out); rintro e w6 ⟨v309, rfl, ho0, hb⟩; refine ⟨_, rfl, ?_⟩; have n0_ := Aside0.mk (Kd.S_lower ho0 (below_size (by repeat (first | (with_reducible first | exact HB.out | apply below_alloc | apply pw_below_drewN | apply below_drew1) | exact HB.out)))); have n1_ := Aside0.mk (below_step (by repeat (first | (with_reducible first | exact HB.out | apply below_alloc | apply pw_below_drewN | apply below_drew1) | exact HB.out)) hb); clear HB; have HO310 := n0_; have HB := n1_; clear n0_ n1_; (try clear hb); (try clear hb2); (try clear hk); (try clear hi); (try clear ho0)))
  go_loopg [6] k (fun kq v6 w' => ∃ (x6_1 : Int), v6 = .int .i64 x6_1 ∧ Aside0 (ashlarlaw10_TraceSound.l0 kq t308 l1 t307 x6_1 = some r) ∧ Aside0 (kq ≤ k) ∧ Aside0 (Kd.S (Kd.slice 3 (Kd.int .i64)) 26 w' w.heap.size (fun _ => True) v309 t308) ∧ Aside0 (Below w.heap.size w w'))
  case atStart => exact ⟨(0), (by first | rfl | (simp; done) | (simp [*]; done)), H', ⟨Nat.le_refl _⟩, ⟨by (with_reducible repeat (first | apply Kd.S_alloc | apply Kd.S_drewN | apply Kd.S_drew)); exact HO310.out⟩, ⟨by repeat (first | (with_reducible first | exact HB.out | apply below_alloc | apply pw_below_drewN | apply below_drew1) | exact HB.out)⟩⟩
  case round =>
    clear H'
    try clear c1
    try clear p2
    try clear c4
    obtain ⟨x6_1, rfl, HA, HK1, HO_0, HB⟩ := hrel
    cases gk with
    | zero => exact absurd HA.out (by simp [ashlarlaw10_TraceSound.l0])
    | succ k1 =>
      have H := HA.out
      clear HA
      simp only [ashlarlaw10_TraceSound.l0] at H
      by_cases c7 : x6_1 < (t308.length : Int)
      · rw [if_pos c7] at H
        have c7b0 : decide (x6_1 < (t308.length : Int)) = true := decide_eq_true c7
        clear c7
        have H' := Aside0.mk H
        clear H
        obtain ⟨Ao8, co8, eo8⟩ := Kd.S_slice HO_0.out
        subst eo8
        go_wp2
        go_loopg [7] k1 (fun kq v7 w' => ∃ (x7_2 : Int), v7 = .int .i64 x7_2 ∧ Aside0 (ashlarlaw10_TraceSound.l1 kq t308 l1 t307 x6_1 x7_2 = some r) ∧ Aside0 (kq ≤ k1) ∧ Aside0 (Kd.S (Kd.slice 3 (Kd.int .i64)) 26 w' w.heap.size (fun _ => True) (.slice Ao8 t308.length co8) t308) ∧ Aside0 (Below w.heap.size w w'))
        case atStart => exact ⟨(0), (by first | rfl | (simp; done) | (simp [*]; done)), H', ⟨Nat.le_refl _⟩, ⟨by (with_reducible repeat (first | apply Kd.S_alloc | apply Kd.S_drewN | apply Kd.S_drew)); exact HO_0.out⟩, ⟨by repeat (first | (with_reducible first | exact HB.out | apply below_alloc | apply pw_below_drewN | apply below_drew1) | exact HB.out)⟩⟩
        case round =>
          clear H'
          try clear c1
          try clear p2
          try clear c4
          try clear c7
          try clear c7b0
          try clear p2
          obtain ⟨x7_2, rfl, HA, HK2, HO_0, HB⟩ := hrel
          cases gk with
          | zero => exact absurd HA.out (by simp [ashlarlaw10_TraceSound.l1])
          | succ k2 =>
            have H := HA.out
            clear HA
            simp only [ashlarlaw10_TraceSound.l1] at H
            by_cases c9 : 0 ≤ x6_1
            · rw [if_pos c9] at H
              have c9b0 : decide (0 ≤ x6_1) = true := decide_eq_true c9
              clear c9
              by_cases c10 : x6_1 < (t308.length : Int)
              · rw [if_pos c10] at H
                have c10b0 : decide (x6_1 < (t308.length : Int)) = true := decide_eq_true c10
                clear c10
                by_cases c11 : x7_2 < ((rd_L1 t308 x6_1).length : Int)
                · rw [if_pos c11] at H
                  have c11b0 : decide (x7_2 < ((rd_L1 t308 x6_1).length : Int)) = true := decide_eq_true c11
                  clear c11
                  by_cases c12 : 0 ≤ x7_2
                  · rw [if_pos c12] at H
                    have c12b0 : decide (0 ≤ x7_2) = true := decide_eq_true c12
                    clear c12
                    by_cases c13 : (rd (rd_L1 t308 x6_1) x7_2) < (-8)
                    · rw [if_pos c13] at H
                      have c13b0 : decide ((rd (rd_L1 t308 x6_1) x7_2) < (-8)) = true := decide_eq_true c13
                      clear c13
                      obtain rfl := Option.some.inj H
                      have p311 : 0 ≤ (x6_1 : Int) := of_decide_eq_true (by first | (with_reducible assumption) | assumption)
                      have q311 : x6_1 < (t308.length : Int) := of_decide_eq_true (by first | (with_reducible assumption) | assumption)
                      obtain ⟨ad311, A311_0, c311_0, e311, hx311_0, hl311_0, hi311_0⟩ := at_L1 (Kd.S_reads' HO_0.out).2.2 x6_1 p311 q311
                      cases e311
                      obtain ⟨ce311, hce311, hMe311, hcc311⟩ := Kd.S_get HO_0.out [] x6_1 p311 (by first | exact q311 | exact of_decide_eq_true (by first | (with_reducible assumption) | assumption) | (have e_ := (Kd.S_reads' HO_0.out).1; omega))
                      obtain ⟨ve311_0, rfl, ge311_0⟩ := hMe311
                      have hv311_0 := hcc311 0 _ rfl
                      rw [Nat.add_zero, show ((Kd.slice 3 (Kd.int .i64))).sz = 1 from rfl, Nat.mul_one] at hv311_0
                      replace hv311_0 := Option.some.inj (hv311_0.symm.trans hx311_0)
                      rw [hv311_0] at ge311_0
                      have HL311_0 := Aside0.mk (show Kd.R (Kd.int .i64) 3 _ _ _ _ (rd_L1 t308 x6_1) from ge311_0)
                      clear hv311_0 ge311_0
                      clear hcc311 hce311
                      have HR311_0 := Aside0.mk hi311_0
                      have HC311_0 := Aside0.mk hl311_0
                      clear hi311_0 hl311_0
                      replace p311 := eq_true p311
                      replace q311 := eq_true q311
                      have p312 : 0 ≤ (x6_1 : Int) := of_decide_eq_true (by first | (with_reducible assumption) | assumption)
                      have q312 : x6_1 < (t308.length : Int) := of_decide_eq_true (by first | (with_reducible assumption) | assumption)
                      obtain ⟨ad312, A312_0, c312_0, e312, hx312_0, hl312_0, hi312_0⟩ := at_L1 (Kd.S_reads' HO_0.out).2.2 x6_1 p312 q312
                      obtain rfl : ad311 = ad312 := (by injection e312)
                      obtain ⟨ce312, hce312, hMe312, hcc312⟩ := Kd.S_get HO_0.out [] x6_1 p312 (by first | exact q312 | exact of_decide_eq_true (by first | (with_reducible assumption) | assumption) | (have e_ := (Kd.S_reads' HO_0.out).1; omega))
                      obtain ⟨ve312_0, rfl, ge312_0⟩ := hMe312
                      have hv312_0 := hcc312 0 _ rfl
                      rw [Nat.add_zero, show ((Kd.slice 3 (Kd.int .i64))).sz = 1 from rfl, Nat.mul_one] at hv312_0
                      replace hv312_0 := Option.some.inj (hv312_0.symm.trans hx312_0)
                      rw [hv312_0] at ge312_0
                      have HL312_0 := Aside0.mk (show Kd.R (Kd.int .i64) 3 _ _ _ _ (rd_L1 t308 x6_1) from ge312_0)
                      clear hv312_0 ge312_0
                      clear hcc312 hce312
                      have HR312_0 := Aside0.mk hi312_0
                      have HC312_0 := Aside0.mk hl312_0
                      clear hi312_0 hl312_0
                      replace p312 := eq_true p312
                      replace q312 := eq_true q312
                      have ea_ := Option.some.inj (hx311_0.symm.trans hx312_0)
                      injection ea_ with ea_ en_ ec_
                      subst ea_
                      subst ec_
                      clear en_
                      have p313 : 0 ≤ (x7_2 : Int) := of_decide_eq_true (by first | (with_reducible assumption) | assumption)
                      have q313 : x7_2 < ((rd_L1 t308 x6_1).length : Int) := of_decide_eq_true (by first | (with_reducible assumption) | assumption)
                      obtain ⟨ad313, e313, hx313_0⟩ := Kd.at_int (by repeat (first | (with_reducible exact HR312_0.out) | (with_reducible refine Kd.C_alloc ?_ _) | (with_reducible refine Kd.C_drewN ?_ _) | (with_reducible refine Kd.C_drew ?_) | exact HR312_0.out)) x7_2 p313 q313
                      cases e313
                      replace p313 := eq_true p313
                      replace q313 := eq_true q313
                      go_wp2
                      go_ret
                      exact ⟨by first | rfl | (simp [errW_none, errW_some] <;> rfl) | (simp [*, errW_none, errW_some] <;> rfl), by repeat (first | (with_reducible first | exact HB.out | apply below_alloc | apply pw_below_drewN | apply below_drew1) | exact HB.out)⟩
                    · rw [if_neg c13] at H
                      have c13b0 : decide ((rd (rd_L1 t308 x6_1) x7_2) < (-8)) = false := decide_eq_false c13
                      clear c13
                      by_cases c14 : (rd (rd_L1 t308 x6_1) x7_2) > 8
                      · rw [if_pos c14] at H
                        have c14b0 : decide (8 < (rd (rd_L1 t308 x6_1) x7_2)) = true := decide_eq_true c14
                        clear c14
                        obtain rfl := Option.some.inj H
                        have p311 : 0 ≤ (x6_1 : Int) := of_decide_eq_true (by first | (with_reducible assumption) | assumption)
                        have q311 : x6_1 < (t308.length : Int) := of_decide_eq_true (by first | (with_reducible assumption) | assumption)
                        obtain ⟨ad311, A311_0, c311_0, e311, hx311_0, hl311_0, hi311_0⟩ := at_L1 (Kd.S_reads' HO_0.out).2.2 x6_1 p311 q311
                        cases e311
                        obtain ⟨ce311, hce311, hMe311, hcc311⟩ := Kd.S_get HO_0.out [] x6_1 p311 (by first | exact q311 | exact of_decide_eq_true (by first | (with_reducible assumption) | assumption) | (have e_ := (Kd.S_reads' HO_0.out).1; omega))
                        obtain ⟨ve311_0, rfl, ge311_0⟩ := hMe311
                        have hv311_0 := hcc311 0 _ rfl
                        rw [Nat.add_zero, show ((Kd.slice 3 (Kd.int .i64))).sz = 1 from rfl, Nat.mul_one] at hv311_0
                        replace hv311_0 := Option.some.inj (hv311_0.symm.trans hx311_0)
                        rw [hv311_0] at ge311_0
                        have HL311_0 := Aside0.mk (show Kd.R (Kd.int .i64) 3 _ _ _ _ (rd_L1 t308 x6_1) from ge311_0)
                        clear hv311_0 ge311_0
                        clear hcc311 hce311
                        have HR311_0 := Aside0.mk hi311_0
                        have HC311_0 := Aside0.mk hl311_0
                        clear hi311_0 hl311_0
                        replace p311 := eq_true p311
                        replace q311 := eq_true q311
                        have p312 : 0 ≤ (x6_1 : Int) := of_decide_eq_true (by first | (with_reducible assumption) | assumption)
                        have q312 : x6_1 < (t308.length : Int) := of_decide_eq_true (by first | (with_reducible assumption) | assumption)
                        obtain ⟨ad312, A312_0, c312_0, e312, hx312_0, hl312_0, hi312_0⟩ := at_L1 (Kd.S_reads' HO_0.out).2.2 x6_1 p312 q312
                        obtain rfl : ad311 = ad312 := (by injection e312)
                        obtain ⟨ce312, hce312, hMe312, hcc312⟩ := Kd.S_get HO_0.out [] x6_1 p312 (by first | exact q312 | exact of_decide_eq_true (by first | (with_reducible assumption) | assumption) | (have e_ := (Kd.S_reads' HO_0.out).1; omega))
                        obtain ⟨ve312_0, rfl, ge312_0⟩ := hMe312
                        have hv312_0 := hcc312 0 _ rfl
                        rw [Nat.add_zero, show ((Kd.slice 3 (Kd.int .i64))).sz = 1 from rfl, Nat.mul_one] at hv312_0
                        replace hv312_0 := Option.some.inj (hv312_0.symm.trans hx312_0)
                        rw [hv312_0] at ge312_0
                        have HL312_0 := Aside0.mk (show Kd.R (Kd.int .i64) 3 _ _ _ _ (rd_L1 t308 x6_1) from ge312_0)
                        clear hv312_0 ge312_0
                        clear hcc312 hce312
                        have HR312_0 := Aside0.mk hi312_0
                        have HC312_0 := Aside0.mk hl312_0
                        clear hi312_0 hl312_0
                        replace p312 := eq_true p312
                        replace q312 := eq_true q312
                        have ea_ := Option.some.inj (hx311_0.symm.trans hx312_0)
                        injection ea_ with ea_ en_ ec_
                        subst ea_
                        subst ec_
                        clear en_
                        have p313 : 0 ≤ (x7_2 : Int) := of_decide_eq_true (by first | (with_reducible assumption) | assumption)
                        have q313 : x7_2 < ((rd_L1 t308 x6_1).length : Int) := of_decide_eq_true (by first | (with_reducible assumption) | assumption)
                        obtain ⟨ad313, e313, hx313_0⟩ := Kd.at_int (by repeat (first | (with_reducible exact HR312_0.out) | (with_reducible refine Kd.C_alloc ?_ _) | (with_reducible refine Kd.C_drewN ?_ _) | (with_reducible refine Kd.C_drew ?_) | exact HR312_0.out)) x7_2 p313 q313
                        cases e313
                        replace p313 := eq_true p313
                        replace q313 := eq_true q313
                        have p314 : 0 ≤ (x6_1 : Int) := of_decide_eq_true (by first | (with_reducible assumption) | assumption)
                        have q314 : x6_1 < (t308.length : Int) := of_decide_eq_true (by first | (with_reducible assumption) | assumption)
                        obtain ⟨ad314, A314_0, c314_0, e314, hx314_0, hl314_0, hi314_0⟩ := at_L1 (Kd.S_reads' HO_0.out).2.2 x6_1 p314 q314
                        obtain rfl : ad311 = ad314 := (by injection e314)
                        obtain ⟨ce314, hce314, hMe314, hcc314⟩ := Kd.S_get HO_0.out [] x6_1 p314 (by first | exact q314 | exact of_decide_eq_true (by first | (with_reducible assumption) | assumption) | (have e_ := (Kd.S_reads' HO_0.out).1; omega))
                        obtain ⟨ve314_0, rfl, ge314_0⟩ := hMe314
                        have hv314_0 := hcc314 0 _ rfl
                        rw [Nat.add_zero, show ((Kd.slice 3 (Kd.int .i64))).sz = 1 from rfl, Nat.mul_one] at hv314_0
                        replace hv314_0 := Option.some.inj (hv314_0.symm.trans hx314_0)
                        rw [hv314_0] at ge314_0
                        have HL314_0 := Aside0.mk (show Kd.R (Kd.int .i64) 3 _ _ _ _ (rd_L1 t308 x6_1) from ge314_0)
                        clear hv314_0 ge314_0
                        clear hcc314 hce314
                        have HR314_0 := Aside0.mk hi314_0
                        have HC314_0 := Aside0.mk hl314_0
                        clear hi314_0 hl314_0
                        replace p314 := eq_true p314
                        replace q314 := eq_true q314
                        have ea_ := Option.some.inj (hx311_0.symm.trans hx314_0)
                        injection ea_ with ea_ en_ ec_
                        subst ea_
                        subst ec_
                        clear en_
                        have p315 : 0 ≤ (x7_2 : Int) := of_decide_eq_true (by first | (with_reducible assumption) | assumption)
                        have q315 : x7_2 < ((rd_L1 t308 x6_1).length : Int) := of_decide_eq_true (by first | (with_reducible assumption) | assumption)
                        obtain ⟨ad315, e315, hx315_0⟩ := Kd.at_int (by repeat (first | (with_reducible exact HR314_0.out) | (with_reducible refine Kd.C_alloc ?_ _) | (with_reducible refine Kd.C_drewN ?_ _) | (with_reducible refine Kd.C_drew ?_) | exact HR314_0.out)) x7_2 p315 q315
                        cases e315
                        replace p315 := eq_true p315
                        replace q315 := eq_true q315
                        go_wp2
                        go_ret
                        exact ⟨by first | rfl | (simp [errW_none, errW_some] <;> rfl) | (simp [*, errW_none, errW_some] <;> rfl), by repeat (first | (with_reducible first | exact HB.out | apply below_alloc | apply pw_below_drewN | apply below_drew1) | exact HB.out)⟩
                      · rw [if_neg c14] at H
                        have c14b0 : decide (8 < (rd (rd_L1 t308 x6_1) x7_2)) = false := decide_eq_false c14
                        clear c14
                        have H' := Aside0.mk H
                        clear H
                        have p311 : 0 ≤ (x6_1 : Int) := of_decide_eq_true (by first | (with_reducible assumption) | assumption)
                        have q311 : x6_1 < (t308.length : Int) := of_decide_eq_true (by first | (with_reducible assumption) | assumption)
                        obtain ⟨ad311, A311_0, c311_0, e311, hx311_0, hl311_0, hi311_0⟩ := at_L1 (Kd.S_reads' HO_0.out).2.2 x6_1 p311 q311
                        cases e311
                        obtain ⟨ce311, hce311, hMe311, hcc311⟩ := Kd.S_get HO_0.out [] x6_1 p311 (by first | exact q311 | exact of_decide_eq_true (by first | (with_reducible assumption) | assumption) | (have e_ := (Kd.S_reads' HO_0.out).1; omega))
                        obtain ⟨ve311_0, rfl, ge311_0⟩ := hMe311
                        have hv311_0 := hcc311 0 _ rfl
                        rw [Nat.add_zero, show ((Kd.slice 3 (Kd.int .i64))).sz = 1 from rfl, Nat.mul_one] at hv311_0
                        replace hv311_0 := Option.some.inj (hv311_0.symm.trans hx311_0)
                        rw [hv311_0] at ge311_0
                        have HL311_0 := Aside0.mk (show Kd.R (Kd.int .i64) 3 _ _ _ _ (rd_L1 t308 x6_1) from ge311_0)
                        clear hv311_0 ge311_0
                        clear hcc311 hce311
                        have HR311_0 := Aside0.mk hi311_0
                        have HC311_0 := Aside0.mk hl311_0
                        clear hi311_0 hl311_0
                        replace p311 := eq_true p311
                        replace q311 := eq_true q311
                        have p312 : 0 ≤ (x6_1 : Int) := of_decide_eq_true (by first | (with_reducible assumption) | assumption)
                        have q312 : x6_1 < (t308.length : Int) := of_decide_eq_true (by first | (with_reducible assumption) | assumption)
                        obtain ⟨ad312, A312_0, c312_0, e312, hx312_0, hl312_0, hi312_0⟩ := at_L1 (Kd.S_reads' HO_0.out).2.2 x6_1 p312 q312
                        obtain rfl : ad311 = ad312 := (by injection e312)
                        obtain ⟨ce312, hce312, hMe312, hcc312⟩ := Kd.S_get HO_0.out [] x6_1 p312 (by first | exact q312 | exact of_decide_eq_true (by first | (with_reducible assumption) | assumption) | (have e_ := (Kd.S_reads' HO_0.out).1; omega))
                        obtain ⟨ve312_0, rfl, ge312_0⟩ := hMe312
                        have hv312_0 := hcc312 0 _ rfl
                        rw [Nat.add_zero, show ((Kd.slice 3 (Kd.int .i64))).sz = 1 from rfl, Nat.mul_one] at hv312_0
                        replace hv312_0 := Option.some.inj (hv312_0.symm.trans hx312_0)
                        rw [hv312_0] at ge312_0
                        have HL312_0 := Aside0.mk (show Kd.R (Kd.int .i64) 3 _ _ _ _ (rd_L1 t308 x6_1) from ge312_0)
                        clear hv312_0 ge312_0
                        clear hcc312 hce312
                        have HR312_0 := Aside0.mk hi312_0
                        have HC312_0 := Aside0.mk hl312_0
                        clear hi312_0 hl312_0
                        replace p312 := eq_true p312
                        replace q312 := eq_true q312
                        have ea_ := Option.some.inj (hx311_0.symm.trans hx312_0)
                        injection ea_ with ea_ en_ ec_
                        subst ea_
                        subst ec_
                        clear en_
                        have p313 : 0 ≤ (x7_2 : Int) := of_decide_eq_true (by first | (with_reducible assumption) | assumption)
                        have q313 : x7_2 < ((rd_L1 t308 x6_1).length : Int) := of_decide_eq_true (by first | (with_reducible assumption) | assumption)
                        obtain ⟨ad313, e313, hx313_0⟩ := Kd.at_int (by repeat (first | (with_reducible exact HR312_0.out) | (with_reducible refine Kd.C_alloc ?_ _) | (with_reducible refine Kd.C_drewN ?_ _) | (with_reducible refine Kd.C_drew ?_) | exact HR312_0.out)) x7_2 p313 q313
                        cases e313
                        replace p313 := eq_true p313
                        replace q313 := eq_true q313
                        have p314 : 0 ≤ (x6_1 : Int) := of_decide_eq_true (by first | (with_reducible assumption) | assumption)
                        have q314 : x6_1 < (t308.length : Int) := of_decide_eq_true (by first | (with_reducible assumption) | assumption)
                        obtain ⟨ad314, A314_0, c314_0, e314, hx314_0, hl314_0, hi314_0⟩ := at_L1 (Kd.S_reads' HO_0.out).2.2 x6_1 p314 q314
                        obtain rfl : ad311 = ad314 := (by injection e314)
                        obtain ⟨ce314, hce314, hMe314, hcc314⟩ := Kd.S_get HO_0.out [] x6_1 p314 (by first | exact q314 | exact of_decide_eq_true (by first | (with_reducible assumption) | assumption) | (have e_ := (Kd.S_reads' HO_0.out).1; omega))
                        obtain ⟨ve314_0, rfl, ge314_0⟩ := hMe314
                        have hv314_0 := hcc314 0 _ rfl
                        rw [Nat.add_zero, show ((Kd.slice 3 (Kd.int .i64))).sz = 1 from rfl, Nat.mul_one] at hv314_0
                        replace hv314_0 := Option.some.inj (hv314_0.symm.trans hx314_0)
                        rw [hv314_0] at ge314_0
                        have HL314_0 := Aside0.mk (show Kd.R (Kd.int .i64) 3 _ _ _ _ (rd_L1 t308 x6_1) from ge314_0)
                        clear hv314_0 ge314_0
                        clear hcc314 hce314
                        have HR314_0 := Aside0.mk hi314_0
                        have HC314_0 := Aside0.mk hl314_0
                        clear hi314_0 hl314_0
                        replace p314 := eq_true p314
                        replace q314 := eq_true q314
                        have ea_ := Option.some.inj (hx311_0.symm.trans hx314_0)
                        injection ea_ with ea_ en_ ec_
                        subst ea_
                        subst ec_
                        clear en_
                        have p315 : 0 ≤ (x7_2 : Int) := of_decide_eq_true (by first | (with_reducible assumption) | assumption)
                        have q315 : x7_2 < ((rd_L1 t308 x6_1).length : Int) := of_decide_eq_true (by first | (with_reducible assumption) | assumption)
                        obtain ⟨ad315, e315, hx315_0⟩ := Kd.at_int (by repeat (first | (with_reducible exact HR314_0.out) | (with_reducible refine Kd.C_alloc ?_ _) | (with_reducible refine Kd.C_drewN ?_ _) | (with_reducible refine Kd.C_drew ?_) | exact HR314_0.out)) x7_2 p315 q315
                        cases e315
                        replace p315 := eq_true p315
                        replace q315 := eq_true q315
                        go_wp2
                        go_roundg k2
                        case measure => have := HK1.out; have := HK2.out; omega
                        case rel => exact ⟨(wrap64 (x7_2 + 1)), (by first | rfl | (simp; done) | (simp [*]; done)), H', ⟨by have := HK1.out; have := HK2.out; omega⟩, ⟨by (with_reducible repeat (first | apply Kd.S_alloc | apply Kd.S_drewN | apply Kd.S_drew)); exact HO_0.out⟩, ⟨by repeat (first | (with_reducible first | exact HB.out | apply below_alloc | apply pw_below_drewN | apply below_drew1) | exact HB.out)⟩⟩
                  · rw [if_neg c12] at H
                    exact absurd H (by simp)
                · rw [if_neg c11] at H
                  have c11b0 : decide (x7_2 < ((rd_L1 t308 x6_1).length : Int)) = false := decide_eq_false c11
                  clear c11
                  have H' := Aside0.mk H
                  clear H
                  have p311 : 0 ≤ (x6_1 : Int) := of_decide_eq_true (by first | (with_reducible assumption) | assumption)
                  have q311 : x6_1 < (t308.length : Int) := of_decide_eq_true (by first | (with_reducible assumption) | assumption)
                  obtain ⟨ad311, A311_0, c311_0, e311, hx311_0, hl311_0, hi311_0⟩ := at_L1 (Kd.S_reads' HO_0.out).2.2 x6_1 p311 q311
                  cases e311
                  obtain ⟨ce311, hce311, hMe311, hcc311⟩ := Kd.S_get HO_0.out [] x6_1 p311 (by first | exact q311 | exact of_decide_eq_true (by first | (with_reducible assumption) | assumption) | (have e_ := (Kd.S_reads' HO_0.out).1; omega))
                  obtain ⟨ve311_0, rfl, ge311_0⟩ := hMe311
                  have hv311_0 := hcc311 0 _ rfl
                  rw [Nat.add_zero, show ((Kd.slice 3 (Kd.int .i64))).sz = 1 from rfl, Nat.mul_one] at hv311_0
                  replace hv311_0 := Option.some.inj (hv311_0.symm.trans hx311_0)
                  rw [hv311_0] at ge311_0
                  have HL311_0 := Aside0.mk (show Kd.R (Kd.int .i64) 3 _ _ _ _ (rd_L1 t308 x6_1) from ge311_0)
                  clear hv311_0 ge311_0
                  clear hcc311 hce311
                  have HR311_0 := Aside0.mk hi311_0
                  have HC311_0 := Aside0.mk hl311_0
                  clear hi311_0 hl311_0
                  replace p311 := eq_true p311
                  replace q311 := eq_true q311
                  go_wp2
                  go_roundg k2
                  case measure => have := HK1.out; have := HK2.out; omega
                  case rel => exact ⟨(wrap64 (x6_1 + 1)), (by first | rfl | (simp; done) | (simp [*]; done)), H', ⟨by have := HK1.out; have := HK2.out; omega⟩, ⟨by (with_reducible repeat (first | apply Kd.S_alloc | apply Kd.S_drewN | apply Kd.S_drew)); exact HO_0.out⟩, ⟨by repeat (first | (with_reducible first | exact HB.out | apply below_alloc | apply pw_below_drewN | apply below_drew1) | exact HB.out)⟩⟩
              · rw [if_neg c10] at H
                exact absurd H (by simp)
            · rw [if_neg c9] at H
              exact absurd H (by simp)
      · rw [if_neg c7] at H
        have c7b0 : decide (x6_1 < (t308.length : Int)) = false := decide_eq_false c7
        clear c7
        replace H := Option.bind_eq_some_iff.mp H
        obtain ⟨t316, A150, H⟩ := H
        replace H : ((trace_Check.f k1 t308 t316).bind fun t319 => (if t319 = true then (ashlarlaw10_TraceSound.l2 k1 t308 t307 0) else (some t307))) = some r := H
        have A15 := Aside0.mk A150
        clear A150
        replace H := Option.bind_eq_some_iff.mp H
        obtain ⟨t319, A160, H⟩ := H
        replace H : (if t319 = true then (ashlarlaw10_TraceSound.l2 k1 t308 t307 0) else (some t307)) = some r := H
        have A16 := Aside0.mk A160
        clear A160
        by_cases c17 : t319 = true
        · subst c17
          have H1 : (ashlarlaw10_TraceSound.l2 k1 t308 t307 0) = some r := by rw [if_pos rfl] at H; exact H
          clear H
          have H := H1
          clear H1
          have H' := Aside0.mk H
          clear H
          obtain ⟨Ao18, co18, eo18⟩ := Kd.S_slice HO_0.out
          subst eo18
          go_wp2_with (first | ((with_reducible refine gate_callee (f := 11) rfl ?_); refine goesL_ (some 50) rfl rfl Try.func11 (by kernel_rfl) rfl #[.slice A1 l1.length c1] rfl (by (try simp only [List.map_toArray, List.map_cons, List.map_nil]); first | done | rfl | (simp only [List.length_drop, List.length_take]; rfl)) ?_; (with_reducible refine (ashlarlaw10_few.calls k1 _ _ l1 t316 _ ?side1 ?side2 A15.out).mono ?_); (case side1 => repeat (first | exact (Kd.C_below HR1.out HB.out) | (with_reducible refine Kd.C_alloc ?_ _) | (with_reducible refine Kd.C_drewN ?_ _) | (with_reducible refine Kd.C_drew ?_))); (case side2 => exact HC1.out); rintro e w19 ⟨v317, rfl, ho0, hb⟩; refine ⟨_, rfl, ?_⟩; have n0_ := Aside0.mk (Kd.S_elder' (by (with_reducible repeat (first | apply Kd.S_alloc | apply Kd.S_drewN | apply Kd.S_drew)); exact HO_0.out) (Kd.S_base ho0) hb); have n1_ := Aside0.mk (Kd.S_lower (Kd.S_new' ho0 (Kd.S_lt (by (with_reducible repeat (first | apply Kd.S_alloc | apply Kd.S_drewN | apply Kd.S_drew)); exact HO_0.out))) (below_size (by repeat (first | (with_reducible first | exact HB.out | apply below_alloc | apply pw_below_drewN | apply below_drew1) | exact HB.out)))); have n2_ := Aside0.mk (below_step (by repeat (first | (with_reducible first | exact HB.out | apply below_alloc | apply pw_below_drewN | apply below_drew1) | exact HB.out)) hb); clear HO_0; clear HB; have HO_0 := n0_; have HO318 := n1_; have HB := n2_; clear n0_ n1_ n2_; (try clear hb); (try clear hb2); (try clear hk); (try clear hi); (try clear ho0); obtain ⟨Ao20, co20, eo20⟩ := Kd.S_slice HO318.out; subst eo20) | ((with_reducible refine gate_callee (f := 12) rfl ?_); refine goesL_ (some 51) rfl rfl Try.func12 (by kernel_rfl) rfl #[.slice Ao18 t308.length co18, .slice Ao20 t316.length co20] rfl (by (try simp only [List.map_toArray, List.map_cons, List.map_nil]); first | done | rfl | (simp only [List.length_drop, List.length_take]; rfl)) ?_; (with_reducible refine (trace_Check.calls k1 _ _ t308 _ _ t316 true _ ?side1 ?side2 ?side3 ?side4 A16.out).mono ?_); (case side1 => repeat (first | exact (Kd.S_reads' HO_0.out).2.2 | (with_reducible refine Kd.C_alloc ?_ _) | (with_reducible refine Kd.C_drewN ?_ _) | (with_reducible refine Kd.C_drew ?_))); (case side2 => exact (Kd.S_reads' HO_0.out).2.1); (case side3 => repeat (first | exact (Kd.S_reads' HO318.out).2.2 | (with_reducible refine Kd.C_alloc ?_ _) | (with_reducible refine Kd.C_drewN ?_ _) | (with_reducible refine Kd.C_drew ?_))); (case side4 => exact (Kd.S_reads' HO318.out).2.1); rintro e w21 ⟨rfl, hb⟩; refine ⟨_, rfl, ?_⟩; have n0_ := Aside0.mk (Kd.S_below (by (with_reducible repeat (first | apply Kd.S_alloc | apply Kd.S_drewN | apply Kd.S_drew)); exact HO_0.out) hb); have n1_ := Aside0.mk (Kd.S_below (by (with_reducible repeat (first | apply Kd.S_alloc | apply Kd.S_drewN | apply Kd.S_drew)); exact HO318.out) hb); have n2_ := Aside0.mk (below_step (by repeat (first | (with_reducible first | exact HB.out | apply below_alloc | apply pw_below_drewN | apply below_drew1) | exact HB.out)) hb); clear HO_0; clear HO318; clear HB; have HO_0 := n0_; have HO318 := n1_; have HB := n2_; clear n0_ n1_ n2_; (try clear hb); (try clear hb2); (try clear hk); (try clear hi)))
          go_loopg [8] k1 (fun kq v8 w' => ∃ (x8_2 : Int), v8 = .int .i64 x8_2 ∧ Aside0 (ashlarlaw10_TraceSound.l2 kq t308 t307 x8_2 = some r) ∧ Aside0 (kq ≤ k1) ∧ Aside0 (Kd.S (Kd.slice 3 (Kd.int .i64)) 26 w' w.heap.size (fun _ => True) (.slice Ao18 t308.length co18) t308) ∧ Aside0 (Below w.heap.size w w'))
          case atStart => exact ⟨(0), (by first | rfl | (simp; done) | (simp [*]; done)), H', ⟨Nat.le_refl _⟩, ⟨by (with_reducible repeat (first | apply Kd.S_alloc | apply Kd.S_drewN | apply Kd.S_drew)); exact Kd.S_mono HO_0.out (fun _ hk => trivial)⟩, ⟨by repeat (first | (with_reducible first | exact HB.out | apply below_alloc | apply pw_below_drewN | apply below_drew1) | exact HB.out)⟩⟩
          case round =>
            clear H'
            try clear c1
            try clear p2
            try clear c3
            try clear p3
            try clear q3
            try clear hx3
            try clear c4
            try clear p6
            try clear c7
            try clear c7b0
            try clear c9
            try clear c9b0
            try clear c10
            try clear c10b0
            try clear c11
            try clear c11b0
            try clear c12
            try clear c12b0
            try clear c13
            try clear c13b0
            try clear c14
            try clear c14b0
            try clear c17
            try clear hx311_0
            try clear hx312_0
            try clear hx313_0
            try clear hx314_0
            try clear hx315_0
            try clear p2
            try clear p311
            try clear p312
            try clear p313
            try clear p314
            try clear p315
            try clear q311
            try clear q312
            try clear q313
            try clear q314
            try clear q315
            obtain ⟨x8_2, rfl, HA, HK2, HO_0, HB⟩ := hrel
            cases gk with
            | zero => exact absurd HA.out (by simp [ashlarlaw10_TraceSound.l2])
            | succ k2 =>
              have H := HA.out
              clear HA
              simp only [ashlarlaw10_TraceSound.l2] at H
              by_cases c22 : x8_2 < 256
              · rw [if_pos c22] at H
                have c22b0 : decide (x8_2 < 256) = true := decide_eq_true c22
                clear c22
                obtain ⟨y320, hy320⟩ : ∃ y_ : List Int, y_ = (([0, 0, 0, 0, 0, 0, 0, 0, 0] : List Int)) := ⟨_, rfl⟩
                replace H : (ashlarlaw10_TraceSound.l3 k2 t308 t307 x8_2 y320 1) = some r := by first | (rw [hy320]; with_reducible exact H) | (have H2_ := (Option.bind_some _ _).symm.trans H; rw [hy320]; with_reducible exact H2_) | (have H2_ := (Option.bind_some _ _).symm.trans H; with_reducible exact H2_) | with_reducible exact H | (rw [hy320]; exact H) | exact H
                have Ny320 := Aside0.mk hy320
                clear hy320
                have H' := Aside0.mk H
                clear H
                go_wp2_with (first | ((with_reducible refine gate_dst (N := 58) rfl ?_); refine Kd.R_lit (Kd.int .i8) _ 27 ?hg (N := 58) ?hd (xs := ([0, 0, 0, 0, 0, 0, 0, 0, 0] : List Int)) (inner := [.int .i8 0, .int .i8 0, .int .i8 0, .int .i8 0, .int .i8 0, .int .i8 0, .int .i8 0, .int .i8 0, .int .i8 0]) (ok := fun _ => True) (okp := fun _ => True) ?hr ?hp (fun _ hk => hk) trivial (Below.refl _ _) (Nat.le_refl _) (by simp) ?_; (case hd => rfl); (case hg => rfl); (case hr => first | (go_simp; done) | (go_simp; rfl)); (case hp => exact (Reps.one (show Kd.M (Kd.int .i8) _ _ _ 0 [.int .i8 0] from rfl) (Reps.one (show Kd.M (Kd.int .i8) _ _ _ 0 [.int .i8 0] from rfl) (Reps.one (show Kd.M (Kd.int .i8) _ _ _ 0 [.int .i8 0] from rfl) (Reps.one (show Kd.M (Kd.int .i8) _ _ _ 0 [.int .i8 0] from rfl) (Reps.one (show Kd.M (Kd.int .i8) _ _ _ 0 [.int .i8 0] from rfl) (Reps.one (show Kd.M (Kd.int .i8) _ _ _ 0 [.int .i8 0] from rfl) (Reps.one (show Kd.M (Kd.int .i8) _ _ _ 0 [.int .i8 0] from rfl) (Reps.one (show Kd.M (Kd.int .i8) _ _ _ 0 [.int .i8 0] from rfl) (Reps.one (show Kd.M (Kd.int .i8) _ _ _ 0 [.int .i8 0] from rfl) (Reps.none _ _))))))))))); intro v321 w23 ho24 hb hg_ hnew_; clear hg_ hnew_; (first | rw [← Ny320.out] at ho24 | (simp only [Int.reduceToNat] at ho24; rw [← Ny320.out] at ho24)); have n0_ := Aside0.mk (Kd.S_below (by (with_reducible repeat (first | apply Kd.S_alloc | apply Kd.S_drewN | apply Kd.S_drew)); exact HO_0.out) hb); have n1_ := Aside0.mk (Kd.R_lower ho24 (below_size (by repeat (first | (with_reducible first | exact HB.out | apply below_alloc | apply pw_below_drewN | apply below_drew1) | exact HB.out)))); have n2_ := Aside0.mk (below_step (by repeat (first | (with_reducible first | exact HB.out | apply below_alloc | apply pw_below_drewN | apply below_drew1) | exact HB.out)) hb); clear HO_0; clear HB; have HO_0 := n0_; have HO322 := n1_; have HB := n2_; clear n0_ n1_ n2_; clear hb ho24))
                go_loopg [10] k2 (fun kq v10 w' => ∃ (x9_3 : List Int) (x10_3 : Int), v10 = .int .i64 x10_3 ∧ Aside0 (ashlarlaw10_TraceSound.l3 kq t308 t307 x8_2 x9_3 x10_3 = some r) ∧ Aside0 (kq ≤ k2) ∧ Aside0 (Kd.S (Kd.slice 3 (Kd.int .i64)) 26 w' w.heap.size (fun _ => True) (.slice Ao18 t308.length co18) t308) ∧ Aside0 (Kd.R (Kd.int .i8) 27 w' w.heap.size (fun _ => True) v321 x9_3) ∧ Aside0 (Below w.heap.size w w'))
                case atStart => exact ⟨(y320), (1), (by first | rfl | (simp; done) | (simp [*]; done)), H', ⟨Nat.le_refl _⟩, ⟨by (with_reducible repeat (first | apply Kd.S_alloc | apply Kd.S_drewN | apply Kd.S_drew)); exact HO_0.out⟩, ⟨by (with_reducible repeat (first | apply Kd.R_alloc | apply Kd.R_drewN | apply Kd.R_drew)); exact HO322.out⟩, ⟨by repeat (first | (with_reducible first | exact HB.out | apply below_alloc | apply pw_below_drewN | apply below_drew1) | exact HB.out)⟩⟩
                case round =>
                  clear H'
                  try clear c1
                  try clear c2
                  try clear p2
                  try clear c3
                  try clear p3
                  try clear q3
                  try clear hx3
                  try clear c4
                  try clear p6
                  try clear c7
                  try clear c7b0
                  try clear c9
                  try clear c9b0
                  try clear c10
                  try clear c10b0
                  try clear c11
                  try clear c11b0
                  try clear c12
                  try clear c12b0
                  try clear c13
                  try clear c13b0
                  try clear c14
                  try clear c14b0
                  try clear c17
                  try clear c22
                  try clear c22b0
                  try clear hx311_0
                  try clear hx312_0
                  try clear hx313_0
                  try clear hx314_0
                  try clear hx315_0
                  try clear p2
                  try clear p3
                  try clear p311
                  try clear p312
                  try clear p313
                  try clear p314
                  try clear p315
                  try clear p6
                  try clear q3
                  try clear q311
                  try clear q312
                  try clear q313
                  try clear q314
                  try clear q315
                  obtain ⟨x9_3, x10_3, rfl, HA, HK3, HO_0, HO_9, HB⟩ := hrel
                  cases gk with
                  | zero => exact absurd HA.out (by simp [ashlarlaw10_TraceSound.l3])
                  | succ k3 =>
                    have H := HA.out
                    clear HA
                    simp only [ashlarlaw10_TraceSound.l3] at H
                    by_cases c25 : x10_3 ≤ 8
                    · rw [if_pos c25] at H
                      have c25b0 : decide (x10_3 ≤ 8) = true := decide_eq_true c25
                      clear c25
                      obtain ⟨ji26, hji26⟩ : ∃ j_ : Int, (IntKind.u64.wrap (wrap64 (x10_3 - 1))) = j_ := ⟨_, rfl⟩
                      replace H : (if 0 ≤ (ji26) then (if 0 ≤ x10_3 then (if x10_3 < (x9_3.length : Int) then (ashlarlaw10_TraceSound.l3 k3 t308 t307 x8_2 (x9_3.set (x10_3 : Int).toNat (IntKind.i8.wrap ((IntKind.i8.wrap ((IntKind.i8.wrap (Go.bits .and .i64 (shr .i64 x8_2 (ji26)) 1)) * 2)) - 1))) (wrap64 (x10_3 + 1))) else (none)) else (none)) else (none)) = some r := by first | (rw [hji26] at H; exact H) | (simp only [hji26] at H ⊢; exact H)
                      by_cases c27 : 0 ≤ (ji26)
                      · rw [if_pos c27] at H
                        have c27b0 := eq_true c27
                        have c27b1 : decide (0 ≤ (ji26)) = true := decide_eq_true c27
                        clear c27
                        obtain ⟨ji28, hji28⟩ : ∃ j_ : Int, (shr .i64 x8_2 (ji26)) = j_ := ⟨_, rfl⟩
                        replace H : (if 0 ≤ x10_3 then (if x10_3 < (x9_3.length : Int) then (ashlarlaw10_TraceSound.l3 k3 t308 t307 x8_2 (x9_3.set (x10_3 : Int).toNat (IntKind.i8.wrap ((IntKind.i8.wrap ((IntKind.i8.wrap (Go.bits .and .i64 (ji28) 1)) * 2)) - 1))) (wrap64 (x10_3 + 1))) else (none)) else (none)) = some r := by first | (rw [hji28] at H; exact H) | (simp only [hji28] at H ⊢; exact H)
                        have hji28_ : (x8_2 / 2 ^ min (ji26).toNat 64) = ji28 := hji28
                        have hji28z : (ji26) ≤ 64 → (x8_2 / 2 ^ (ji26).toNat) = ji28 := shr_small hji28
                        by_cases c29 : 0 ≤ x10_3
                        · rw [if_pos c29] at H
                          have c29b0 : decide (0 ≤ x10_3) = true := decide_eq_true c29
                          clear c29
                          by_cases c30 : x10_3 < (x9_3.length : Int)
                          · rw [if_pos c30] at H
                            have c30b0 : decide (x10_3 < (x9_3.length : Int)) = true := decide_eq_true c30
                            clear c30
                            obtain ⟨y323, hy323⟩ : ∃ y_ : List Int, y_ = (x9_3.set (x10_3 : Int).toNat (IntKind.i8.wrap ((IntKind.i8.wrap ((IntKind.i8.wrap (Go.bits .and .i64 (ji28) 1)) * 2)) - 1))) := ⟨_, rfl⟩
                            replace H : (ashlarlaw10_TraceSound.l3 k3 t308 t307 x8_2 y323 (wrap64 (x10_3 + 1))) = some r := by first | (rw [hy323]; with_reducible exact H) | (have H2_ := (Option.bind_some _ _).symm.trans H; rw [hy323]; with_reducible exact H2_) | (have H2_ := (Option.bind_some _ _).symm.trans H; with_reducible exact H2_) | with_reducible exact H | (rw [hy323]; exact H) | exact H
                            have Ny323 := Aside0.mk hy323
                            clear hy323
                            have H' := Aside0.mk H
                            clear H
                            have p31 : 0 ≤ (x10_3 : Int) := of_decide_eq_true (by first | (with_reducible assumption) | assumption)
                            have q31 : (x10_3 : Int) < ((x9_3.length : Int) : Int) := of_decide_eq_true (by first | (with_reducible assumption) | assumption)
                            obtain ⟨go31, co31, eo31, gb31, gl31, cl31, HG31⟩ := Kd.R_form HO_9.out (by omega)
                            (first | cases eo31 | (injection eo31 with ea_ en_ ec_; (first | subst ea_ | (injection ea_ with ea_; subst ea_)); subst ec_; clear en_))
                            have GB31 := Aside0.mk gb31
                            have GG31 := Aside0.mk HG31
                            clear gb31 gl31 HG31
                            obtain ⟨hx31_0, hf31_0⟩ := Kd.R_celln 0 HO_9.out (x10_3 : Int) p31 q31
                            replace p31 := eq_true p31
                            replace q31 := eq_true q31
                            have HP32 := Kd.R_putg HO_9.out (x10_3 : Int) (IntKind.i8.wrap ((IntKind.i8.wrap ((IntKind.i8.wrap (Go.bits .and .i64 (ji28) 1)) * 2)) - 1))
                            go_wp2_with (first | ((with_reducible refine gate_store (t := 27) (p := 74) rfl ?_); refine store_event (t := 27) (p := 74) (v := ?vo_w33) (w1 := (wr.setCell ⟨go31, (x10_3 : Int).toNat, none⟩ (.int .i8 (IntKind.i8.wrap ((IntKind.i8.wrap ((IntKind.i8.wrap (Go.bits .and .i64 (ji28) 1)) * 2)) - 1))))) ?hg ?ho ?hn ?hr ?_; (case ho => rfl); (case hg => rfl); (case hn => rfl); (case hr => first | (go_simp; done) | (go_simp; rfl)); intro w33 hw; have hg : wr.grownBy w33 (some go31) := (by rw [hw]; exact HP32.2); have hp_ : Kd.R (Kd.int .i8) 27 w33 w.heap.size (fun _ => True) (.slice (some ⟨go31, 0, none⟩) x9_3.length co31) y323 := (by rw [hw, Ny323.out]; exact HP32.1); clear HP32; have n0_ := Aside0.mk (Kd.S_over' (v := (.slice (some ⟨go31, 0, none⟩) x9_3.length co31)) (by (with_reducible repeat (first | apply Kd.S_alloc | apply Kd.S_drewN | apply Kd.S_drew)); exact HO_0.out) (Kd.R_typed HO_9.out) (by decide) hg); have n1_ := Aside0.mk (hp_); have n2_ := Aside0.mk ((by rw [hw]; exact below_set (HB.out) GB31.out : Below w.heap.size w w33)); clear HO_0; clear HO_9; clear HB; have HO_0 := n0_; have HO_9 := n1_; have HB := n2_; clear n0_ n1_ n2_; clear hg hw hp_))
                            go_roundg k3
                            case measure => have := HK1.out; have := HK2.out; have := HK3.out; omega
                            case rel => exact ⟨(y323), (wrap64 (x10_3 + 1)), (by first | rfl | (simp; done) | (simp [*]; done)), H', ⟨by have := HK1.out; have := HK2.out; have := HK3.out; omega⟩, ⟨by (with_reducible repeat (first | apply Kd.S_alloc | apply Kd.S_drewN | apply Kd.S_drew)); exact HO_0.out⟩, ⟨by (with_reducible repeat (first | apply Kd.R_alloc | apply Kd.R_drewN | apply Kd.R_drew)); exact HO_9.out⟩, ⟨by repeat (first | (with_reducible first | exact HB.out | apply below_alloc | apply pw_below_drewN | apply below_drew1) | exact HB.out)⟩⟩
                          · rw [if_neg c30] at H
                            exact absurd H (by simp)
                        · rw [if_neg c29] at H
                          exact absurd H (by simp)
                      · rw [if_neg c27] at H
                        exact absurd H (by simp)
                    · rw [if_neg c25] at H
                      have c25b0 : decide (x10_3 ≤ 8) = false := decide_eq_false c25
                      clear c25
                      replace H := Option.bind_eq_some_iff.mp H
                      obtain ⟨t324, A340, H⟩ := H
                      replace H : (if t324 = 1 then (some false) else (ashlarlaw10_TraceSound.l2 k3 t308 t307 (wrap64 (x8_2 + 1)))) = some r := H
                      have A34 := Aside0.mk A340
                      clear A340
                      by_cases c35 : t324 = 1
                      · rw [if_pos c35] at H
                        have c35b0 : (t324 == 1) = true := beq_iff_eq.mpr c35
                        have c35b1 : (t324 != 1) = false := bne_eq_false_iff_eq.mpr c35
                        clear c35
                        obtain rfl := Option.some.inj H
                        obtain ⟨Ao36, co36, eo36⟩ := Kd.R_slice HO_9.out
                        subst eo36
                        go_wp2_with (first | ((with_reducible refine gate_callee (f := 14) rfl ?_); refine goesL_ (some 77) rfl rfl Try.func14 (by kernel_rfl) rfl #[.slice Ao18 t308.length co18, .slice Ao36 x9_3.length co36] rfl (by (try simp only [List.map_toArray, List.map_cons, List.map_nil]); first | done | rfl | (simp only [List.length_drop, List.length_take]; rfl)) ?_; (with_reducible refine (ashlarref08_Eval.calls k3 _ _ t308 _ _ x9_3 t324 _ ?side1 ?side2 ?side3 ?side4 A34.out).mono ?_); (case side1 => repeat (first | exact (Kd.S_reads' HO_0.out).2.2 | (with_reducible refine Kd.C_alloc ?_ _) | (with_reducible refine Kd.C_drewN ?_ _) | (with_reducible refine Kd.C_drew ?_))); (case side2 => exact (Kd.S_reads' HO_0.out).2.1); (case side3 => repeat (first | exact (Kd.R_reads' HO_9.out).2.2 | (with_reducible refine Kd.C_alloc ?_ _) | (with_reducible refine Kd.C_drewN ?_ _) | (with_reducible refine Kd.C_drew ?_))); (case side4 => exact (Kd.R_reads' HO_9.out).2.1); rintro e w37 ⟨rfl, hb⟩; refine ⟨_, rfl, ?_⟩; have n0_ := Aside0.mk (Kd.S_below (by (with_reducible repeat (first | apply Kd.S_alloc | apply Kd.S_drewN | apply Kd.S_drew)); exact HO_0.out) hb); have n1_ := Aside0.mk (Kd.R_below (by (with_reducible repeat (first | apply Kd.R_alloc | apply Kd.R_drewN | apply Kd.R_drew)); exact HO_9.out) hb); have n2_ := Aside0.mk (below_step (by repeat (first | (with_reducible first | exact HB.out | apply below_alloc | apply pw_below_drewN | apply below_drew1) | exact HB.out)) hb); clear HO_0; clear HO_9; clear HB; have HO_0 := n0_; have HO_9 := n1_; have HB := n2_; clear n0_ n1_ n2_; (try clear hb); (try clear hb2); (try clear hk); (try clear hi)))
                        go_ret
                        exact ⟨by first | rfl | (simp [errW_none, errW_some] <;> rfl) | (simp [*, errW_none, errW_some] <;> rfl), by repeat (first | (with_reducible first | exact HB.out | apply below_alloc | apply pw_below_drewN | apply below_drew1) | exact HB.out)⟩
                      · rw [if_neg c35] at H
                        have c35b0 : (t324 == 1) = false := beq_eq_false_iff_ne.mpr c35
                        have c35b1 : (t324 != 1) = true := bne_iff_ne.mpr c35
                        have H' := Aside0.mk H
                        clear H
                        obtain ⟨Ao38, co38, eo38⟩ := Kd.R_slice HO_9.out
                        subst eo38
                        go_wp2_with (first | ((with_reducible refine gate_callee (f := 14) rfl ?_); refine goesL_ (some 77) rfl rfl Try.func14 (by kernel_rfl) rfl #[.slice Ao18 t308.length co18, .slice Ao38 x9_3.length co38] rfl (by (try simp only [List.map_toArray, List.map_cons, List.map_nil]); first | done | rfl | (simp only [List.length_drop, List.length_take]; rfl)) ?_; (with_reducible refine (ashlarref08_Eval.calls k3 _ _ t308 _ _ x9_3 t324 _ ?side1 ?side2 ?side3 ?side4 A34.out).mono ?_); (case side1 => repeat (first | exact (Kd.S_reads' HO_0.out).2.2 | (with_reducible refine Kd.C_alloc ?_ _) | (with_reducible refine Kd.C_drewN ?_ _) | (with_reducible refine Kd.C_drew ?_))); (case side2 => exact (Kd.S_reads' HO_0.out).2.1); (case side3 => repeat (first | exact (Kd.R_reads' HO_9.out).2.2 | (with_reducible refine Kd.C_alloc ?_ _) | (with_reducible refine Kd.C_drewN ?_ _) | (with_reducible refine Kd.C_drew ?_))); (case side4 => exact (Kd.R_reads' HO_9.out).2.1); rintro e w39 ⟨rfl, hb⟩; refine ⟨_, rfl, ?_⟩; have n0_ := Aside0.mk (Kd.S_below (by (with_reducible repeat (first | apply Kd.S_alloc | apply Kd.S_drewN | apply Kd.S_drew)); exact HO_0.out) hb); have n1_ := Aside0.mk (Kd.R_below (by (with_reducible repeat (first | apply Kd.R_alloc | apply Kd.R_drewN | apply Kd.R_drew)); exact HO_9.out) hb); have n2_ := Aside0.mk (below_step (by repeat (first | (with_reducible first | exact HB.out | apply below_alloc | apply pw_below_drewN | apply below_drew1) | exact HB.out)) hb); clear HO_0; clear HO_9; clear HB; have HO_0 := n0_; have HO_9 := n1_; have HB := n2_; clear n0_ n1_ n2_; (try clear hb); (try clear hb2); (try clear hk); (try clear hi)))
                        go_roundg k3
                        case measure => have := HK1.out; have := HK2.out; have := HK3.out; omega
                        case rel => exact ⟨(wrap64 (x8_2 + 1)), (by first | rfl | (simp; done) | (simp [*]; done)), H', ⟨by have := HK1.out; have := HK2.out; have := HK3.out; omega⟩, ⟨by (with_reducible repeat (first | apply Kd.S_alloc | apply Kd.S_drewN | apply Kd.S_drew)); exact HO_0.out⟩, ⟨by repeat (first | (with_reducible first | exact HB.out | apply below_alloc | apply pw_below_drewN | apply below_drew1) | exact HB.out)⟩⟩
              · rw [if_neg c22] at H
                have c22b0 : decide (x8_2 < 256) = false := decide_eq_false c22
                clear c22
                obtain rfl := Option.some.inj H
                go_wp2
                go_ret
                exact ⟨by first | rfl | (simp [errW_none, errW_some] <;> rfl) | (simp [*, errW_none, errW_some] <;> rfl), by repeat (first | (with_reducible first | exact HB.out | apply below_alloc | apply pw_below_drewN | apply below_drew1) | exact HB.out)⟩
        · replace c17 := Bool.eq_false_iff.mpr c17
          subst c17
          have H1 : (some t307) = some r := by rw [if_neg (show ¬ (false = true) by decide)] at H; exact H
          clear H
          have H := H1
          clear H1
          obtain rfl := Option.some.inj H
          obtain ⟨Ao40, co40, eo40⟩ := Kd.S_slice HO_0.out
          subst eo40
          go_wp2_with (first | ((with_reducible refine gate_callee (f := 11) rfl ?_); refine goesL_ (some 50) rfl rfl Try.func11 (by kernel_rfl) rfl #[.slice A1 l1.length c1] rfl (by (try simp only [List.map_toArray, List.map_cons, List.map_nil]); first | done | rfl | (simp only [List.length_drop, List.length_take]; rfl)) ?_; (with_reducible refine (ashlarlaw10_few.calls k1 _ _ l1 t316 _ ?side1 ?side2 A15.out).mono ?_); (case side1 => repeat (first | exact (Kd.C_below HR1.out HB.out) | (with_reducible refine Kd.C_alloc ?_ _) | (with_reducible refine Kd.C_drewN ?_ _) | (with_reducible refine Kd.C_drew ?_))); (case side2 => exact HC1.out); rintro e w41 ⟨v317, rfl, ho0, hb⟩; refine ⟨_, rfl, ?_⟩; have n0_ := Aside0.mk (Kd.S_elder' (by (with_reducible repeat (first | apply Kd.S_alloc | apply Kd.S_drewN | apply Kd.S_drew)); exact HO_0.out) (Kd.S_base ho0) hb); have n1_ := Aside0.mk (Kd.S_lower (Kd.S_new' ho0 (Kd.S_lt (by (with_reducible repeat (first | apply Kd.S_alloc | apply Kd.S_drewN | apply Kd.S_drew)); exact HO_0.out))) (below_size (by repeat (first | (with_reducible first | exact HB.out | apply below_alloc | apply pw_below_drewN | apply below_drew1) | exact HB.out)))); have n2_ := Aside0.mk (below_step (by repeat (first | (with_reducible first | exact HB.out | apply below_alloc | apply pw_below_drewN | apply below_drew1) | exact HB.out)) hb); clear HO_0; clear HB; have HO_0 := n0_; have HO318 := n1_; have HB := n2_; clear n0_ n1_ n2_; (try clear hb); (try clear hb2); (try clear hk); (try clear hi); (try clear ho0); obtain ⟨Ao42, co42, eo42⟩ := Kd.S_slice HO318.out; subst eo42) | ((with_reducible refine gate_callee (f := 12) rfl ?_); refine goesL_ (some 51) rfl rfl Try.func12 (by kernel_rfl) rfl #[.slice Ao40 t308.length co40, .slice Ao42 t316.length co42] rfl (by (try simp only [List.map_toArray, List.map_cons, List.map_nil]); first | done | rfl | (simp only [List.length_drop, List.length_take]; rfl)) ?_; (with_reducible refine (trace_Check.calls k1 _ _ t308 _ _ t316 false _ ?side1 ?side2 ?side3 ?side4 A16.out).mono ?_); (case side1 => repeat (first | exact (Kd.S_reads' HO_0.out).2.2 | (with_reducible refine Kd.C_alloc ?_ _) | (with_reducible refine Kd.C_drewN ?_ _) | (with_reducible refine Kd.C_drew ?_))); (case side2 => exact (Kd.S_reads' HO_0.out).2.1); (case side3 => repeat (first | exact (Kd.S_reads' HO318.out).2.2 | (with_reducible refine Kd.C_alloc ?_ _) | (with_reducible refine Kd.C_drewN ?_ _) | (with_reducible refine Kd.C_drew ?_))); (case side4 => exact (Kd.S_reads' HO318.out).2.1); rintro e w43 ⟨rfl, hb⟩; refine ⟨_, rfl, ?_⟩; have n0_ := Aside0.mk (Kd.S_below (by (with_reducible repeat (first | apply Kd.S_alloc | apply Kd.S_drewN | apply Kd.S_drew)); exact HO_0.out) hb); have n1_ := Aside0.mk (Kd.S_below (by (with_reducible repeat (first | apply Kd.S_alloc | apply Kd.S_drewN | apply Kd.S_drew)); exact HO318.out) hb); have n2_ := Aside0.mk (below_step (by repeat (first | (with_reducible first | exact HB.out | apply below_alloc | apply pw_below_drewN | apply below_drew1) | exact HB.out)) hb); clear HO_0; clear HO318; clear HB; have HO_0 := n0_; have HO318 := n1_; have HB := n2_; clear n0_ n1_ n2_; (try clear hb); (try clear hb2); (try clear hk); (try clear hi)))
          go_ret
          exact ⟨by first | rfl | (simp [errW_none, errW_some] <;> rfl) | (simp [*, errW_none, errW_some] <;> rfl), by repeat (first | (with_reducible first | exact HB.out | apply below_alloc | apply pw_below_drewN | apply below_drew1) | exact HB.out)⟩

end Go.Proofs.Ytbmnoofffodakaa.Q
