/- written by a program of this session (wip/tools/printx.py, over the kit's printing program) out of the translation -/
import Derived.Test.YtglpafflpcgnpaaQx0
namespace Go.Proofs.Ytglpafflpcgnpaa.Q
open Go.RowKit Go.Proofs.YtglpafflpcgnpaaW.PrintWords Go.Proofs.YtglpafflpcgnpaaW.PrintLast Go.Proofs.YtglpafflpcgnpaaW.PrintMore
attribute [local go_sem] max2_int min2_int max_two min_two max_three min_three max_four min_four   -- for this text's walks alone
set_option linter.unusedVariables false
set_option linter.unusedSimpArgs false

-- NOT PRINTED: function 19 (math_Float64bits)

-- NOT PRINTED: function 20 (math_Float64frombits)

/-! ### math_Copysign: function 34 -/
def math_Copysign.f (a0 : Nat) (a1 : Nat) : Option (Nat) := some ((Go.bits .or .u64 (Go.bits .andNot .u64 ((a0 : Nat) : Int) 9223372036854775808) (Go.bits .and .u64 ((a1 : Nat) : Int) 9223372036854775808)).toNat)
set_option maxHeartbeats 8000000 in
set_option maxRecDepth 100000 in
theorem math_Copysign.calls (a0 : Nat) (a1 : Nat) (r : Nat) (w : World) (h : math_Copysign.f a0 a1 = some r) :
    Calls Try.prog 34 #[.float .f64 a0, .float .f64 a1] w fun e w' => e = .returned (.float .f64 r) ∧ Drawn0 w w' := by
  have H : (some ((Go.bits .or .u64 (Go.bits .andNot .u64 ((a0 : Nat) : Int) 9223372036854775808) (Go.bits .and .u64 ((a1 : Nat) : Int) 9223372036854775808)).toNat)) = some r := h
  clear h
  obtain rfl := Option.some.inj H
  go_enter Try.func34, Try.ntmps34
  go_wp2
  go_ret
  exact ⟨by first | rfl | (simp; done) | (simp [*]; done), by repeat (first | exact Drawn0.refl _ | apply Drawn0.step)⟩

/-! ### math_Abs: function 25 -/
def math_Abs.f (a0 : Nat) : Option (Nat) := some ((Go.bits .andNot .u64 ((a0 : Nat) : Int) 9223372036854775808).toNat)
set_option maxHeartbeats 8000000 in
set_option maxRecDepth 100000 in
theorem math_Abs.calls (a0 : Nat) (r : Nat) (w : World) (h : math_Abs.f a0 = some r) :
    Calls Try.prog 25 #[.float .f64 a0] w fun e w' => e = .returned (.float .f64 r) ∧ Drawn0 w w' := by
  have H : (some ((Go.bits .andNot .u64 ((a0 : Nat) : Int) 9223372036854775808).toNat)) = some r := h
  clear h
  obtain rfl := Option.some.inj H
  go_enter Try.func25, Try.ntmps25
  go_wp2
  go_ret
  exact ⟨by first | rfl | (simp; done) | (simp [*]; done), by repeat (first | exact Drawn0.refl _ | apply Drawn0.step)⟩

/-! ### math_IsInf: function 37 -/
def math_IsInf.f (a0 : Nat) (a1 : Int) : Option (Bool) := if a1 = 0 then ((math_Abs.f a0).bind fun t101 => (some (fGt t101 9218868437227405311))) else (if a1 < 0 then (some (fGt (fNeg a0) 9218868437227405311)) else (some (fGt a0 9218868437227405311)))
set_option maxHeartbeats 8000000 in
set_option maxRecDepth 100000 in
theorem math_IsInf.calls (a0 : Nat) (a1 : Int) (r : Bool) (w : World) (h : math_IsInf.f a0 a1 = some r) :
    Calls Try.prog 37 #[.float .f64 a0, .int .i64 a1] w fun e w' => e = .returned (.bool r) ∧ Drawn0 w w' := by
  have H : (if a1 = 0 then ((math_Abs.f a0).bind fun t101 => (some (fGt t101 9218868437227405311))) else (if a1 < 0 then (some (fGt (fNeg a0) 9218868437227405311)) else (some (fGt a0 9218868437227405311)))) = some r := h
  clear h
  by_cases c3 : a1 = 0
  · rw [if_pos c3] at H
    have c3b0 : (a1 == 0) = true := beq_iff_eq.mpr c3
    have c3b1 : (a1 != 0) = false := bne_eq_false_iff_eq.mpr c3
    clear c3
    replace H := Option.bind_eq_some_iff.mp H
    obtain ⟨t101, A40, H⟩ := H
    replace H : (some (fGt t101 9218868437227405311)) = some r := H
    have A4 := Aside0.mk A40
    clear A40
    obtain rfl := Option.some.inj H
    go_enter Try.func37, Try.ntmps37
    go_wp2_with (first | ((with_reducible refine gate_callee (f := 25) rfl ?_); refine goesL_ (some 8) rfl rfl Try.func25 (by kernel_rfl) rfl #[.float .f64 a0] rfl (by (try simp only [List.map_toArray, List.map_cons, List.map_nil]); first | done | rfl | (simp only [List.length_drop, List.length_take]; rfl)) ?_; (with_reducible refine (math_Abs.calls a0 t101 _ A4.out).mono ?_); rintro e w' ⟨rfl, ⟨nd, rfl⟩⟩; refine ⟨_, rfl, ?_⟩))
    go_ret
    exact ⟨by first | rfl | (simp; done) | (simp [*]; done), by repeat (first | exact Drawn0.refl _ | apply Drawn0.step)⟩
  · rw [if_neg c3] at H
    have c3b0 : (a1 == 0) = false := beq_eq_false_iff_ne.mpr c3
    have c3b1 : (a1 != 0) = true := bne_iff_ne.mpr c3
    by_cases c5 : a1 < 0
    · rw [if_pos c5] at H
      have c5b0 : decide (a1 < 0) = true := decide_eq_true c5
      clear c5
      obtain rfl := Option.some.inj H
      go_enter Try.func37, Try.ntmps37
      go_wp2
      go_ret
      exact ⟨by first | rfl | (simp; done) | (simp [*]; done), by repeat (first | exact Drawn0.refl _ | apply Drawn0.step)⟩
    · rw [if_neg c5] at H
      have c5b0 : decide (a1 < 0) = false := decide_eq_false c5
      clear c5
      obtain rfl := Option.some.inj H
      go_enter Try.func37, Try.ntmps37
      go_wp2
      go_ret
      exact ⟨by first | rfl | (simp; done) | (simp [*]; done), by repeat (first | exact Drawn0.refl _ | apply Drawn0.step)⟩

/-! ### weigh_Tame: function 22 -/
def weigh_Tame.f (a0 : Nat) : Option (Nat) := if fNe a0 a0 = true then (some 0) else ((math_IsInf.f a0 0).bind fun t102 => (if t102 = true then ((math_Copysign.f 9218868437227405311 a0).bind fun t103 => (some t103)) else (some a0)))
set_option maxHeartbeats 8000000 in
set_option maxRecDepth 100000 in
theorem weigh_Tame.calls (a0 : Nat) (r : Nat) (w : World) (h : weigh_Tame.f a0 = some r) :
    Calls Try.prog 22 #[.float .f64 a0] w fun e w' => e = .returned (.float .f64 r) ∧ Drawn0 w w' := by
  have H : (if fNe a0 a0 = true then (some 0) else ((math_IsInf.f a0 0).bind fun t102 => (if t102 = true then ((math_Copysign.f 9218868437227405311 a0).bind fun t103 => (some t103)) else (some a0)))) = some r := h
  clear h
  by_cases c2 : fNe a0 a0 = true
  · rw [if_pos c2] at H
    have c2b0 : fNe a0 a0 = true := c2
    clear c2
    obtain rfl := Option.some.inj H
    go_enter Try.func22, Try.ntmps22
    go_wp2
    go_ret
    exact ⟨by first | rfl | (simp; done) | (simp [*]; done), by repeat (first | exact Drawn0.refl _ | apply Drawn0.step)⟩
  · rw [if_neg c2] at H
    have c2b0 : fNe a0 a0 = false := by simpa using c2
    clear c2
    replace H := Option.bind_eq_some_iff.mp H
    obtain ⟨t102, A30, H⟩ := H
    replace H : (if t102 = true then ((math_Copysign.f 9218868437227405311 a0).bind fun t103 => (some t103)) else (some a0)) = some r := H
    have A3 := Aside0.mk A30
    clear A30
    by_cases c4 : t102 = true
    · subst c4
      have H1 : ((math_Copysign.f 9218868437227405311 a0).bind fun t103 => (some t103)) = some r := by rw [if_pos rfl] at H; exact H
      clear H
      have H := H1
      clear H1
      replace H := Option.bind_eq_some_iff.mp H
      obtain ⟨t103, A50, H⟩ := H
      replace H : (some t103) = some r := H
      have A5 := Aside0.mk A50
      clear A50
      obtain rfl := Option.some.inj H
      go_enter Try.func22, Try.ntmps22
      go_wp2_with (first | ((with_reducible refine gate_callee (f := 37) rfl ?_); refine goesL_ (some 9) rfl rfl Try.func37 (by kernel_rfl) rfl #[.float .f64 a0, .int .i64 0] rfl (by (try simp only [List.map_toArray, List.map_cons, List.map_nil]); first | done | rfl | (simp only [List.length_drop, List.length_take]; rfl)) ?_; (with_reducible refine (math_IsInf.calls a0 0 true _ A3.out).mono ?_); rintro e w' ⟨rfl, ⟨nd, rfl⟩⟩; refine ⟨_, rfl, ?_⟩) | ((with_reducible refine gate_callee (f := 34) rfl ?_); refine goesL_ (some 11) rfl rfl Try.func34 (by kernel_rfl) rfl #[.float .f64 9218868437227405311, .float .f64 a0] rfl (by (try simp only [List.map_toArray, List.map_cons, List.map_nil]); first | done | rfl | (simp only [List.length_drop, List.length_take]; rfl)) ?_; (with_reducible refine (math_Copysign.calls 9218868437227405311 a0 t103 _ A5.out).mono ?_); rintro e w' ⟨rfl, ⟨nd, rfl⟩⟩; refine ⟨_, rfl, ?_⟩))
      go_ret
      exact ⟨by first | rfl | (simp; done) | (simp [*]; done), by repeat (first | exact Drawn0.refl _ | apply Drawn0.step)⟩
    · replace c4 := Bool.eq_false_iff.mpr c4
      subst c4
      have H1 : (some a0) = some r := by rw [if_neg (show ¬ (false = true) by decide)] at H; exact H
      clear H
      have H := H1
      clear H1
      obtain rfl := Option.some.inj H
      go_enter Try.func22, Try.ntmps22
      go_wp2_with (first | ((with_reducible refine gate_callee (f := 37) rfl ?_); refine goesL_ (some 9) rfl rfl Try.func37 (by kernel_rfl) rfl #[.float .f64 a0, .int .i64 0] rfl (by (try simp only [List.map_toArray, List.map_cons, List.map_nil]); first | done | rfl | (simp only [List.length_drop, List.length_take]; rfl)) ?_; (with_reducible refine (math_IsInf.calls a0 0 false _ A3.out).mono ?_); rintro e w' ⟨rfl, ⟨nd, rfl⟩⟩; refine ⟨_, rfl, ?_⟩))
      go_ret
      exact ⟨by first | rfl | (simp; done) | (simp [*]; done), by repeat (first | exact Drawn0.refl _ | apply Drawn0.step)⟩

/-! ### weigh_Rescale: function 14 -/
mutual
def weigh_Rescale.l0 : Nat → List Nat → Bool → List Nat → Int → Int → Option (List Nat × Bool)
  | 0, _, _, _, _, _ => none
  | k + 1, x4, x5, x12, x13, x14 => if x14 < x13 then (if 0 ≤ x14 then (if x14 < (x12.length : Int) then ((weigh_Tame.f (rdOf (0 : Nat) x12 x14)).bind fun t108 => (if x14 < (x4.length : Int) then ((some (x4.set (x14 : Int).toNat t108 : List Nat)).bind fun y109 => (if x5 = true then (weigh_Rescale.l0 k y109 true x12 x13 (wrap64 (x14 + 1))) else ((math_Abs.f (rdOf (0 : Nat) y109 x14)).bind fun t111 => (weigh_Rescale.l0 k y109 (fGt t111 6103021453049119613) x12 x13 (wrap64 (x14 + 1)))))) else (none))) else (none)) else (none)) else (weigh_Rescale.l1 k x4 x5 (x4.length : Int) 0)
def weigh_Rescale.l1 : Nat → List Nat → Bool → Int → Int → Option (List Nat × Bool)
  | 0, _, _, _, _ => none
  | k + 1, x4, x5, x35, x36 => if x36 < x35 then (if x5 = true then (if 0 ≤ x36 then (if x36 < (x4.length : Int) then (if fMulOk (rdOf (0 : Nat) x4 x36) 3110860544497550640 = true then (weigh_Rescale.l1 k (x4.set (x36 : Int).toNat (fMul (rdOf (0 : Nat) x4 x36) 3110860544497550640)) x5 x35 (wrap64 (x36 + 1))) else (none)) else (none)) else (none)) else (weigh_Rescale.l1 k x4 x5 x35 (wrap64 (x36 + 1)))) else (some (x4, x5))
end
def weigh_Rescale.f (k : Nat) (l0 : List Nat) : Option (List Nat × Bool) := if 0 ≤ (l0.length : Int) then (if ((l0.length : Int) : Int).toNat ≤ 35184372088832 then (weigh_Rescale.l0 k (List.replicate ((l0.length : Int) : Int).toNat (0 : Nat)) false l0 (l0.length : Int) 0) else (none)) else (none)
theorem weigh_Rescale.mono_l : ∀ k, (∀ y0 y1 y2 y3 y4, LeO (weigh_Rescale.l0 k y0 y1 y2 y3 y4) (weigh_Rescale.l0 (k + 1) y0 y1 y2 y3 y4)) ∧ (∀ y0 y1 y2 y3, LeO (weigh_Rescale.l1 k y0 y1 y2 y3) (weigh_Rescale.l1 (k + 1) y0 y1 y2 y3))
  | 0 => ⟨fun _ _ _ _ _ r h => by simp [weigh_Rescale.l0] at h, fun _ _ _ _ r h => by simp [weigh_Rescale.l1] at h⟩
  | k + 1 => by
    obtain ⟨ih0, ih1⟩ := weigh_Rescale.mono_l k
    refine ⟨?_, ?_⟩
    · intro y0 y1 y2 y3 y4
      unfold weigh_Rescale.l0
      repeat' first
      | (with_reducible exact ih0 _ _ _ _ _)
      | (with_reducible exact ih1 _ _ _ _)
      | (with_reducible exact LeO.refl _)
      | (with_reducible exact LeO.none _)
      | (with_reducible refine LeO.ite ?_ ?_)
      | (with_reducible refine LeO.bind ?_ (fun _ => ?_))
      | exact ih0 _ _ _ _ _
      | exact ih1 _ _ _ _
      | exact LeO.none _
      | refine LeO.ite ?_ ?_
      | refine LeO.bind ?_ (fun _ => ?_)
    · intro y0 y1 y2 y3
      unfold weigh_Rescale.l1
      repeat' first
      | (with_reducible exact ih0 _ _ _ _ _)
      | (with_reducible exact ih1 _ _ _ _)
      | (with_reducible exact LeO.refl _)
      | (with_reducible exact LeO.none _)
      | (with_reducible refine LeO.ite ?_ ?_)
      | (with_reducible refine LeO.bind ?_ (fun _ => ?_))
      | exact ih0 _ _ _ _ _
      | exact ih1 _ _ _ _
      | exact LeO.none _
      | refine LeO.ite ?_ ?_
      | refine LeO.bind ?_ (fun _ => ?_)
theorem weigh_Rescale.mono : ∀ a0 k, LeO (weigh_Rescale.f k a0) (weigh_Rescale.f (k + 1) a0) := by
  intro a0 k
  obtain ⟨ih0, ih1⟩ := weigh_Rescale.mono_l k
  unfold weigh_Rescale.f
  repeat' first
      | (with_reducible exact ih0 _ _ _ _ _)
      | (with_reducible exact ih1 _ _ _ _)
      | (with_reducible exact LeO.refl _)
      | (with_reducible exact LeO.none _)
      | (with_reducible refine LeO.ite ?_ ?_)
      | (with_reducible refine LeO.bind ?_ (fun _ => ?_))
      | exact ih0 _ _ _ _ _
      | exact ih1 _ _ _ _
      | exact LeO.none _
      | refine LeO.ite ?_ ?_
      | refine LeO.bind ?_ (fun _ => ?_)
set_option maxHeartbeats 8000000 in
set_option maxRecDepth 100000 in
theorem weigh_Rescale.calls (k : Nat) (A0 : Option Addr) (c0 : Nat) (l0 : List Nat) (r1 : List Nat) (r2 : Bool) (w : World) (hr0 : Kd.C Kd.f64 w A0 l0.length l0) (hc0 : l0.length ≤ c0) (h : weigh_Rescale.f k l0 = some (r1, r2)) :
    Calls Try.prog 14 #[.slice A0 l0.length c0] w fun e w' => ∃ v0_ : Value, e = .returned (.tuple #[v0_, .bool r2]) ∧ Kd.R Kd.f64 30 w' w.heap.size (fun _ => True) v0_ r1 ∧ Below w.heap.size w w' := by
  have HR0 := Aside0.mk hr0
  have HC0 := Aside0.mk hc0
  clear hr0 hc0
  have HB := Aside0.mk (Below.refl w.heap.size w)
  have H : (if 0 ≤ (l0.length : Int) then (if ((l0.length : Int) : Int).toNat ≤ 35184372088832 then (weigh_Rescale.l0 k (List.replicate ((l0.length : Int) : Int).toNat (0 : Nat)) false l0 (l0.length : Int) 0) else (none)) else (none)) = some (r1, r2) := h
  clear h
  by_cases c2 : 0 ≤ (l0.length : Int)
  · rw [if_pos c2] at H
    have c2b0 := eq_true c2
    have c2b1 : decide (0 ≤ (l0.length : Int)) = true := decide_eq_true c2
    clear c2
    by_cases c3 : ((l0.length : Int) : Int).toNat ≤ 35184372088832
    · rw [if_pos c3] at H
      have c3b0 := eq_true c3
      have c3b1 : decide (((l0.length : Int) : Int).toNat ≤ 35184372088832) = true := decide_eq_true c3
      clear c3
      obtain ⟨y104, hy104⟩ : ∃ y_ : List Nat, y_ = (List.replicate ((l0.length : Int) : Int).toNat (0 : Nat)) := ⟨_, rfl⟩
      replace H : (weigh_Rescale.l0 k y104 false l0 (l0.length : Int) 0) = some (r1, r2) := by first | (rw [hy104]; with_reducible exact H) | (have H2_ := (Option.bind_some _ _).symm.trans H; rw [hy104]; with_reducible exact H2_) | (have H2_ := (Option.bind_some _ _).symm.trans H; with_reducible exact H2_) | with_reducible exact H | (rw [hy104]; exact H) | exact H
      have Ny104 := Aside0.mk hy104
      clear hy104
      have H' := Aside0.mk H
      clear H
      go_enter Try.func14, Try.ntmps14
      go_wp2_with (first | ((with_reducible refine gate_dst (N := 11) rfl ?_); refine Kd.R_make Kd.f64 _ 30 rfl (N := 11) rfl 24 _ _ rfl (l0.length : Int) rfl rfl Try.underlying24 (.float .f64 0) 8 info30 rfl (by decide) (by omega) (0 : Nat) (ok := fun _ => True) (okp := fun _ => True) rfl (fun _ hk => hk) trivial (of_decide_eq_true (by first | (with_reducible assumption) | assumption)) (Nat.le_trans (Nat.mul_le_mul_right _ (of_decide_eq_true (by first | (with_reducible assumption) | assumption) : (l0.length : Int).toNat ≤ 35184372088832)) (by omega)) (Below.refl _ _) (Nat.le_refl _) ?_; intro v105 w4 ho5 hb hg_ hnew_; clear hg_ hnew_; (first | rw [← Ny104.out] at ho5 | (simp only [Int.reduceToNat] at ho5; rw [← Ny104.out] at ho5)); have n0_ := Aside0.mk (Kd.R_lower ho5 (below_size (by repeat (first | (with_reducible first | exact HB.out | apply below_alloc | apply pw_below_drewN | apply below_drew1) | exact HB.out)))); have n1_ := Aside0.mk (below_step (by repeat (first | (with_reducible first | exact HB.out | apply below_alloc | apply pw_below_drewN | apply below_drew1) | exact HB.out)) hb); clear HB; have HO106 := n0_; have HB := n1_; clear n0_ n1_; clear hb ho5))
      go_loopg [5, 14] k (fun kq v5 v14 w' => ∃ (x4_1 : List Nat) (x5_1 : Bool) (x14_1 : Int), v5 = .bool x5_1 ∧ v14 = .int .i64 x14_1 ∧ Aside0 (weigh_Rescale.l0 kq x4_1 x5_1 l0 (l0.length : Int) x14_1 = some (r1, r2)) ∧ Aside0 (kq ≤ k) ∧ Aside0 (Kd.R Kd.f64 30 w' w.heap.size (fun _ => True) v105 x4_1) ∧ Aside0 (Below w.heap.size w w'))
      case atStart => exact ⟨(y104), (false), (0), (by first | rfl | (simp; done) | (simp [*]; done)), (by first | rfl | (simp; done) | (simp [*]; done)), H', ⟨Nat.le_refl _⟩, ⟨by (with_reducible repeat (first | apply Kd.R_alloc | apply Kd.R_drewN | apply Kd.R_drew)); exact HO106.out⟩, ⟨by repeat (first | (with_reducible first | exact HB.out | apply below_alloc | apply pw_below_drewN | apply below_drew1) | exact HB.out)⟩⟩
      case round =>
        clear H'
        try clear c1
        try clear c2
        try clear c2b0
        try clear c2b1
        try clear p2
        try clear c3
        try clear c3b0
        try clear c3b1
        obtain ⟨x4_1, x5_1, x14_1, rfl, rfl, HA, HK1, HO_4, HB⟩ := hrel
        cases gk with
        | zero => exact absurd HA.out (by simp [weigh_Rescale.l0])
        | succ k1 =>
          have H := HA.out
          clear HA
          simp only [weigh_Rescale.l0] at H
          by_cases c6 : x14_1 < (l0.length : Int)
          · rw [if_pos c6] at H
            have c6b0 : decide (x14_1 < (l0.length : Int)) = true := decide_eq_true c6
            clear c6
            by_cases c7 : 0 ≤ x14_1
            · rw [if_pos c7] at H
              have c7b0 : decide (0 ≤ x14_1) = true := decide_eq_true c7
              clear c7
              by_cases c8 : x14_1 < (l0.length : Int)
              · rw [if_pos c8] at H
                have c8b0 : decide (x14_1 < (l0.length : Int)) = true := decide_eq_true c8
                clear c8
                replace H := Option.bind_eq_some_iff.mp H
                obtain ⟨t108, A90, H⟩ := H
                replace H : (if x14_1 < (x4_1.length : Int) then ((some (x4_1.set (x14_1 : Int).toNat t108 : List Nat)).bind fun y109 => (if x5_1 = true then (weigh_Rescale.l0 k1 y109 true l0 (l0.length : Int) (wrap64 (x14_1 + 1))) else ((math_Abs.f (rdOf (0 : Nat) y109 x14_1)).bind fun t111 => (weigh_Rescale.l0 k1 y109 (fGt t111 6103021453049119613) l0 (l0.length : Int) (wrap64 (x14_1 + 1)))))) else (none)) = some (r1, r2) := H
                have A9 := Aside0.mk A90
                clear A90
                by_cases c10 : x14_1 < (x4_1.length : Int)
                · rw [if_pos c10] at H
                  have c10b0 : decide (x14_1 < (x4_1.length : Int)) = true := decide_eq_true c10
                  clear c10
                  obtain ⟨y109, hy109⟩ : ∃ y_ : List Nat, y_ = (x4_1.set (x14_1 : Int).toNat t108) := ⟨_, rfl⟩
                  replace H : (if x5_1 = true then (weigh_Rescale.l0 k1 y109 true l0 (l0.length : Int) (wrap64 (x14_1 + 1))) else ((math_Abs.f (rdOf (0 : Nat) y109 x14_1)).bind fun t111 => (weigh_Rescale.l0 k1 y109 (fGt t111 6103021453049119613) l0 (l0.length : Int) (wrap64 (x14_1 + 1))))) = some (r1, r2) := by first | (rw [hy109]; with_reducible exact H) | (have H2_ := (Option.bind_some _ _).symm.trans H; rw [hy109]; with_reducible exact H2_) | (have H2_ := (Option.bind_some _ _).symm.trans H; with_reducible exact H2_) | with_reducible exact H | (rw [hy109]; exact H) | exact H
                  have Ny109 := Aside0.mk hy109
                  clear hy109
                  by_cases c12 : x5_1 = true
                  · subst c12
                    have H1 : (weigh_Rescale.l0 k1 y109 true l0 (l0.length : Int) (wrap64 (x14_1 + 1))) = some (r1, r2) := by rw [if_pos rfl] at H; exact H
                    clear H
                    have H := H1
                    clear H1
                    have H' := Aside0.mk H
                    clear H
                    have p107 : 0 ≤ (x14_1 : Int) := of_decide_eq_true (by first | (with_reducible assumption) | assumption)
                    have q107 : x14_1 < (l0.length : Int) := of_decide_eq_true (by first | (with_reducible assumption) | assumption)
                    obtain ⟨ad107, e107, hx107_0⟩ := Kd.at_f64 HR0.out x14_1 p107 q107
                    cases e107
                    replace hx107_0 := (HB.out.cell (World.block_lt_of_cell? w _ hx107_0)).trans hx107_0
                    replace p107 := eq_true p107
                    replace q107 := eq_true q107
                    go_wp2_with (first | ((with_reducible refine gate_callee (f := 22) rfl ?_); refine goesL_ (some 22) rfl rfl Try.func22 (by kernel_rfl) rfl #[.float .f64 (rdOf (0 : Nat) l0 x14_1)] rfl (by (try simp only [List.map_toArray, List.map_cons, List.map_nil]); first | done | rfl | (simp only [List.length_drop, List.length_take]; rfl)) ?_; (with_reducible refine (weigh_Tame.calls (rdOf (0 : Nat) l0 x14_1) t108 _ A9.out).mono ?_); rintro e w' ⟨rfl, ⟨nd, rfl⟩⟩; refine ⟨_, rfl, ?_⟩; (try (rw [drewN_self wr]; generalize hq_ : World.drewN wr _ = wr; have n0_ : Aside0 (Kd.R Kd.f64 30 wr w.heap.size (fun _ => True) v105 x4_1) := ⟨by rw [← hq_]; exact (by (with_reducible repeat (first | apply Kd.R_alloc | apply Kd.R_drewN | apply Kd.R_drew)); exact HO_4.out)⟩; have n1_ : Aside0 (Below w.heap.size w wr) := ⟨by rw [← hq_]; exact (by repeat (first | (with_reducible first | exact HB.out | apply below_alloc | apply pw_below_drewN | apply below_drew1) | exact HB.out))⟩; clear HO_4 HB hq_; have HO_4 := n0_; have HB := n1_; clear n0_ n1_)); have p11 : 0 ≤ (x14_1 : Int) := of_decide_eq_true (by first | (with_reducible assumption) | assumption); have q11 : (x14_1 : Int) < ((x4_1.length : Int) : Int) := of_decide_eq_true (by first | (with_reducible assumption) | assumption); obtain ⟨go11, co11, eo11, gb11, gl11, cl11, HG11⟩ := Kd.R_form HO_4.out (by omega); (first | cases eo11 | (injection eo11 with ea_ en_ ec_; (first | subst ea_ | (injection ea_ with ea_; subst ea_)); subst ec_; clear en_)); have GB11 := Aside0.mk gb11; have GG11 := Aside0.mk HG11; clear gb11 gl11 HG11; obtain ⟨hx11_0, hf11_0⟩ := Kd.R_celln (0 : Nat) HO_4.out (x14_1 : Int) p11 q11; replace p11 := eq_true p11; replace q11 := eq_true q11; obtain ⟨hy13_, hz13_⟩ := Kd.R_celln (0 : Nat) HO_4.out (x14_1 : Int) (of_decide_eq_true (by first | (with_reducible assumption) | assumption)) (of_decide_eq_true (by first | (with_reducible assumption) | assumption)); have HP13 := Kd.R_putg HO_4.out (x14_1 : Int) t108) | ((with_reducible refine gate_store (t := 30) (p := 23) rfl ?_); refine store_event (t := 30) (p := 23) (v := ?vo_w14) (w1 := (wr.setCell ⟨go11, (x14_1 : Int).toNat, none⟩ (.float .f64 t108))) ?hg ?ho ?hn ?hr ?_; (case ho => rfl); (case hg => rfl); (case hn => rfl); (case hr => first | (go_simp; done) | (go_simp; rfl)); intro w14 hw; have hg : wr.grownBy w14 (some go11) := (by rw [hw]; exact HP13.2); have hp_ : Kd.R Kd.f64 30 w14 w.heap.size (fun _ => True) (.slice (some ⟨go11, 0, none⟩) x4_1.length co11) y109 := (by rw [hw, Ny109.out]; exact HP13.1); clear HP13; have n0_ := Aside0.mk (hp_); have n1_ := Aside0.mk ((by rw [hw]; exact below_set (HB.out) GB11.out : Below w.heap.size w w14)); clear HO_4; clear HB; have HO_4 := n0_; have HB := n1_; clear n0_ n1_; clear hg hw hp_))
                    go_roundg k1
                    case measure => have := HK1.out; omega
                    case rel => exact ⟨(y109), (true), (wrap64 (x14_1 + 1)), (by first | rfl | (simp; done) | (simp [*]; done)), (by first | rfl | (simp; done) | (simp [*]; done)), H', ⟨by have := HK1.out; omega⟩, ⟨by (with_reducible repeat (first | apply Kd.R_alloc | apply Kd.R_drewN | apply Kd.R_drew)); exact HO_4.out⟩, ⟨by repeat (first | (with_reducible first | exact HB.out | apply below_alloc | apply pw_below_drewN | apply below_drew1) | exact HB.out)⟩⟩
                  · replace c12 := Bool.eq_false_iff.mpr c12
                    subst c12
                    have H1 : ((math_Abs.f (rdOf (0 : Nat) y109 x14_1)).bind fun t111 => (weigh_Rescale.l0 k1 y109 (fGt t111 6103021453049119613) l0 (l0.length : Int) (wrap64 (x14_1 + 1)))) = some (r1, r2) := by rw [if_neg (show ¬ (false = true) by decide)] at H; exact H
                    clear H
                    have H := H1
                    clear H1
                    replace H := Option.bind_eq_some_iff.mp H
                    obtain ⟨t111, A150, H⟩ := H
                    replace H : (weigh_Rescale.l0 k1 y109 (fGt t111 6103021453049119613) l0 (l0.length : Int) (wrap64 (x14_1 + 1))) = some (r1, r2) := H
                    have A15 := Aside0.mk A150
                    clear A150
                    have H' := Aside0.mk H
                    clear H
                    have p107 : 0 ≤ (x14_1 : Int) := of_decide_eq_true (by first | (with_reducible assumption) | assumption)
                    have q107 : x14_1 < (l0.length : Int) := of_decide_eq_true (by first | (with_reducible assumption) | assumption)
                    obtain ⟨ad107, e107, hx107_0⟩ := Kd.at_f64 HR0.out x14_1 p107 q107
                    cases e107
                    replace hx107_0 := (HB.out.cell (World.block_lt_of_cell? w _ hx107_0)).trans hx107_0
                    replace p107 := eq_true p107
                    replace q107 := eq_true q107
                    go_wp2_with (first | ((with_reducible refine gate_callee (f := 22) rfl ?_); refine goesL_ (some 22) rfl rfl Try.func22 (by kernel_rfl) rfl #[.float .f64 (rdOf (0 : Nat) l0 x14_1)] rfl (by (try simp only [List.map_toArray, List.map_cons, List.map_nil]); first | done | rfl | (simp only [List.length_drop, List.length_take]; rfl)) ?_; (with_reducible refine (weigh_Tame.calls (rdOf (0 : Nat) l0 x14_1) t108 _ A9.out).mono ?_); rintro e w' ⟨rfl, ⟨nd, rfl⟩⟩; refine ⟨_, rfl, ?_⟩; (try (rw [drewN_self wr]; generalize hq_ : World.drewN wr _ = wr; have n0_ : Aside0 (Kd.R Kd.f64 30 wr w.heap.size (fun _ => True) v105 x4_1) := ⟨by rw [← hq_]; exact (by (with_reducible repeat (first | apply Kd.R_alloc | apply Kd.R_drewN | apply Kd.R_drew)); exact HO_4.out)⟩; have n1_ : Aside0 (Below w.heap.size w wr) := ⟨by rw [← hq_]; exact (by repeat (first | (with_reducible first | exact HB.out | apply below_alloc | apply pw_below_drewN | apply below_drew1) | exact HB.out))⟩; clear HO_4 HB hq_; have HO_4 := n0_; have HB := n1_; clear n0_ n1_)); have p11 : 0 ≤ (x14_1 : Int) := of_decide_eq_true (by first | (with_reducible assumption) | assumption); have q11 : (x14_1 : Int) < ((x4_1.length : Int) : Int) := of_decide_eq_true (by first | (with_reducible assumption) | assumption); obtain ⟨go11, co11, eo11, gb11, gl11, cl11, HG11⟩ := Kd.R_form HO_4.out (by omega); (first | cases eo11 | (injection eo11 with ea_ en_ ec_; (first | subst ea_ | (injection ea_ with ea_; subst ea_)); subst ec_; clear en_)); have GB11 := Aside0.mk gb11; have GG11 := Aside0.mk HG11; clear gb11 gl11 HG11; obtain ⟨hx11_0, hf11_0⟩ := Kd.R_celln (0 : Nat) HO_4.out (x14_1 : Int) p11 q11; replace p11 := eq_true p11; replace q11 := eq_true q11; obtain ⟨hy16_, hz16_⟩ := Kd.R_celln (0 : Nat) HO_4.out (x14_1 : Int) (of_decide_eq_true (by first | (with_reducible assumption) | assumption)) (of_decide_eq_true (by first | (with_reducible assumption) | assumption)); have HP16 := Kd.R_putg HO_4.out (x14_1 : Int) t108) | ((with_reducible refine gate_store (t := 30) (p := 23) rfl ?_); refine store_event (t := 30) (p := 23) (v := ?vo_w17) (w1 := (wr.setCell ⟨go11, (x14_1 : Int).toNat, none⟩ (.float .f64 t108))) ?hg ?ho ?hn ?hr ?_; (case ho => rfl); (case hg => rfl); (case hn => rfl); (case hr => first | (go_simp; done) | (go_simp; rfl)); intro w17 hw; have hg : wr.grownBy w17 (some go11) := (by rw [hw]; exact HP16.2); have hp_ : Kd.R Kd.f64 30 w17 w.heap.size (fun _ => True) (.slice (some ⟨go11, 0, none⟩) x4_1.length co11) y109 := (by rw [hw, Ny109.out]; exact HP16.1); clear HP16; have n0_ := Aside0.mk (hp_); have n1_ := Aside0.mk ((by rw [hw]; exact below_set (HB.out) GB11.out : Below w.heap.size w w17)); clear HO_4; clear HB; have HO_4 := n0_; have HB := n1_; clear n0_ n1_; clear hg hw hp_; have p110 : 0 ≤ (x14_1 : Int) := of_decide_eq_true (by first | (with_reducible assumption) | assumption); have q110 : x14_1 < (y109.length : Int) := (by have h_ : (x14_1 : Int) < ((x4_1.length : Int) : Int) := of_decide_eq_true (by first | (with_reducible assumption) | assumption); first | (have e_ := (Kd.R_reads' HO_4.out).1; omega) | simpa only [Ny109.out, List.length_set] using h_); have ql110 : ((x14_1 : Int) < ((x4_1.length : Int) : Int)) = True := eq_true (of_decide_eq_true (by first | (with_reducible assumption) | assumption)); obtain ⟨ad110, e110, hx110_0⟩ := Kd.at_f64 (Kd.R_reads' HO_4.out).2.2 x14_1 p110 q110; obtain rfl : (⟨go11, 0, none⟩ : Addr) = ad110 := (by injection e110); (first | simp only [add_plain] at hx110_0 | simp only [add_at] at hx110_0 | simp only [Addr.add, Nat.zero_add] at hx110_0 | skip); replace p110 := eq_true p110; replace q110 := eq_true q110) | (go_at_call 25; (with_reducible refine (math_Abs.calls (rdOf (0 : Nat) y109 x14_1) t111 _ A15.out).mono ?_); rintro e w' ⟨rfl, ⟨nd, rfl⟩⟩))
                    go_roundg k1
                    case measure => have := HK1.out; omega
                    case rel => exact ⟨(y109), (fGt t111 6103021453049119613), (wrap64 (x14_1 + 1)), (by first | rfl | (simp; done) | (simp [*]; done)), (by first | rfl | (simp; done) | (simp [*]; done)), H', ⟨by have := HK1.out; omega⟩, ⟨by (with_reducible repeat (first | apply Kd.R_alloc | apply Kd.R_drewN | apply Kd.R_drew)); exact HO_4.out⟩, ⟨by repeat (first | (with_reducible first | exact HB.out | apply below_alloc | apply pw_below_drewN | apply below_drew1) | exact HB.out)⟩⟩
                · rw [if_neg c10] at H
                  exact absurd H (by simp)
              · rw [if_neg c8] at H
                exact absurd H (by simp)
            · rw [if_neg c7] at H
              exact absurd H (by simp)
          · rw [if_neg c6] at H
            have c6b0 : decide (x14_1 < (l0.length : Int)) = false := decide_eq_false c6
            clear c6
            have H' := Aside0.mk H
            clear H
            obtain ⟨Ao18, co18, eo18⟩ := Kd.R_slice HO_4.out
            subst eo18
            go_wp2
            go_loopg [36] k1 (fun kq v36 w' => ∃ (x4_2 : List Nat) (x36_2 : Int), v36 = .int .i64 x36_2 ∧ Aside0 (weigh_Rescale.l1 kq x4_2 x5_1 (x4_1.length : Int) x36_2 = some (r1, r2)) ∧ Aside0 (kq ≤ k1) ∧ Aside0 (Kd.R Kd.f64 30 w' w.heap.size (fun _ => True) (.slice Ao18 x4_1.length co18) x4_2) ∧ Aside0 (Below w.heap.size w w'))
            case atStart => exact ⟨(x4_1), (0), (by first | rfl | (simp; done) | (simp [*]; done)), H', ⟨Nat.le_refl _⟩, ⟨by (with_reducible repeat (first | apply Kd.R_alloc | apply Kd.R_drewN | apply Kd.R_drew)); exact HO_4.out⟩, ⟨by repeat (first | (with_reducible first | exact HB.out | apply below_alloc | apply pw_below_drewN | apply below_drew1) | exact HB.out)⟩⟩
            case round =>
              clear H'
              try clear c1
              try clear p1
              try clear q1
              try clear hx1
              try clear hf1
              try clear c2
              try clear c2b0
              try clear c2b1
              try clear p2
              try clear c3
              try clear c3b0
              try clear c3b1
              try clear c6
              try clear c6b0
              try clear p6
              try clear c7
              try clear c7b0
              try clear c8
              try clear c8b0
              try clear c10
              try clear c10b0
              try clear p10
              try clear q10
              try clear hx10
              try clear p11
              try clear q11
              try clear hx11
              try clear hf11
              try clear c12
              try clear c14
              try clear hx107_0
              try clear hx110_0
              try clear hx11_0
              try clear p107
              try clear p11
              try clear p110
              try clear p2
              try clear q107
              try clear q11
              try clear q110
              obtain ⟨x4_2, x36_2, rfl, HA, HK2, HO_4, HB⟩ := hrel
              have hl4_2 := (Kd.R_reads' HO_4.out).1
              rw [hl4_2] at HO_4
              (try simp only [hl4_2])
              cases gk with
              | zero => exact absurd HA.out (by simp [weigh_Rescale.l1])
              | succ k2 =>
                have H := HA.out
                clear HA
                simp only [weigh_Rescale.l1] at H
                by_cases c19 : x36_2 < (x4_1.length : Int)
                · rw [if_pos c19] at H
                  have c19b0 : decide (x36_2 < (x4_1.length : Int)) = true := decide_eq_true c19; (try rw [hl4_2] at c19b0)
                  clear c19
                  by_cases c20 : x5_1 = true
                  · subst c20
                    have H1 : (if 0 ≤ x36_2 then (if x36_2 < (x4_2.length : Int) then (if fMulOk (rdOf (0 : Nat) x4_2 x36_2) 3110860544497550640 = true then (weigh_Rescale.l1 k2 (x4_2.set (x36_2 : Int).toNat (fMul (rdOf (0 : Nat) x4_2 x36_2) 3110860544497550640)) true (x4_1.length : Int) (wrap64 (x36_2 + 1))) else (none)) else (none)) else (none)) = some (r1, r2) := by rw [if_pos rfl] at H; exact H
                    clear H
                    have H := H1
                    clear H1
                    by_cases c21 : 0 ≤ x36_2
                    · rw [if_pos c21] at H
                      have c21b0 : decide (0 ≤ x36_2) = true := decide_eq_true c21
                      clear c21
                      by_cases c22 : x36_2 < (x4_2.length : Int)
                      · rw [if_pos c22] at H
                        have c22b0 : decide (x36_2 < (x4_2.length : Int)) = true := decide_eq_true c22
                        clear c22
                        by_cases c23 : fMulOk (rdOf (0 : Nat) x4_2 x36_2) 3110860544497550640 = true
                        · rw [if_pos c23] at H
                          have c23b0 := eq_true c23
                          have c23b1 : decide (fMulOk (rdOf (0 : Nat) x4_2 x36_2) 3110860544497550640 = true) = true := decide_eq_true c23
                          clear c23
                          obtain ⟨y113, hy113⟩ : ∃ y_ : List Nat, y_ = (x4_2.set (x36_2 : Int).toNat (fMul (rdOf (0 : Nat) x4_2 x36_2) 3110860544497550640)) := ⟨_, rfl⟩
                          replace H : (weigh_Rescale.l1 k2 y113 true (x4_1.length : Int) (wrap64 (x36_2 + 1))) = some (r1, r2) := by first | (rw [hy113]; with_reducible exact H) | (have H2_ := (Option.bind_some _ _).symm.trans H; rw [hy113]; with_reducible exact H2_) | (have H2_ := (Option.bind_some _ _).symm.trans H; with_reducible exact H2_) | with_reducible exact H | (rw [hy113]; exact H) | exact H
                          have Ny113 := Aside0.mk hy113
                          clear hy113
                          have H' := Aside0.mk H
                          clear H
                          have p112 : 0 ≤ (x36_2 : Int) := of_decide_eq_true (by first | (with_reducible assumption) | assumption)
                          have q112 : x36_2 < (x4_2.length : Int) := of_decide_eq_true (by first | (with_reducible assumption) | assumption)
                          obtain ⟨ad112, e112, hx112_0⟩ := Kd.at_f64 (Kd.R_reads' HO_4.out).2.2 x36_2 p112 q112
                          cases e112
                          replace p112 := eq_true p112
                          replace q112 := eq_true q112
                          have p24 : 0 ≤ (x36_2 : Int) := of_decide_eq_true (by first | (with_reducible assumption) | assumption)
                          have q24 : (x36_2 : Int) < ((x4_2.length : Int) : Int) := of_decide_eq_true (by first | (with_reducible assumption) | assumption)
                          obtain ⟨go24, co24, eo24, gb24, gl24, cl24, HG24⟩ := Kd.R_form HO_4.out (by omega)
                          (first | cases eo24 | (injection eo24 with ea_ en_ ec_; (first | subst ea_ | (injection ea_ with ea_; subst ea_)); subst ec_; clear en_))
                          have GB24 := Aside0.mk gb24
                          have GG24 := Aside0.mk HG24
                          clear gb24 gl24 HG24
                          (first | simp only [add_plain] at hx112_0 | skip)
                          obtain ⟨hx24_0, hf24_0⟩ := Kd.R_celln (0 : Nat) HO_4.out (x36_2 : Int) p24 q24
                          replace p24 := eq_true p24
                          replace q24 := eq_true q24
                          have HP25 := Kd.R_putg HO_4.out (x36_2 : Int) (fMul (rdOf (0 : Nat) x4_2 x36_2) 3110860544497550640)
                          go_wp2_with (first | ((with_reducible refine gate_store (t := 30) (p := 45) rfl ?_); refine store_event (t := 30) (p := 45) (v := ?vo_w26) (w1 := (wr.setCell ⟨go24, (x36_2 : Int).toNat, none⟩ (.float .f64 (fMul (rdOf (0 : Nat) x4_2 x36_2) 3110860544497550640)))) ?hg ?ho ?hn ?hr ?_; (case ho => rfl); (case hg => rfl); (case hn => rfl); (case hr => first | (go_simp; done) | (go_simp; rfl)); intro w26 hw; have hg : wr.grownBy w26 (some go24) := (by rw [hw]; exact HP25.2); have hp_ : Kd.R Kd.f64 30 w26 w.heap.size (fun _ => True) (.slice (some ⟨go24, 0, none⟩) x4_2.length co18) y113 := (by rw [hw, Ny113.out]; exact HP25.1); clear HP25; have n0_ := Aside0.mk (hp_); have n1_ := Aside0.mk ((by rw [hw]; exact below_set (HB.out) GB24.out : Below w.heap.size w w26)); clear HO_4; clear HB; have HO_4 := n0_; have HB := n1_; clear n0_ n1_; clear hg hw hp_))
                          (try simp only [← hl4_2])
                          go_roundg k2
                          case measure => have := HK1.out; have := HK2.out; omega
                          case rel => exact ⟨(y113), (wrap64 (x36_2 + 1)), (by first | rfl | (simp; done) | (simp [*]; done)), H', ⟨by have := HK1.out; have := HK2.out; omega⟩, ⟨by (try simp only [hl4_2]); (with_reducible repeat (first | apply Kd.R_alloc | apply Kd.R_drewN | apply Kd.R_drew)); exact HO_4.out⟩, ⟨by repeat (first | (with_reducible first | exact HB.out | apply below_alloc | apply pw_below_drewN | apply below_drew1) | exact HB.out)⟩⟩
                        · rw [if_neg c23] at H
                          exact absurd H (by simp)
                      · rw [if_neg c22] at H
                        exact absurd H (by simp)
                    · rw [if_neg c21] at H
                      exact absurd H (by simp)
                  · replace c20 := Bool.eq_false_iff.mpr c20
                    subst c20
                    have H1 : (weigh_Rescale.l1 k2 x4_2 false (x4_1.length : Int) (wrap64 (x36_2 + 1))) = some (r1, r2) := by rw [if_neg (show ¬ (false = true) by decide)] at H; exact H
                    clear H
                    have H := H1
                    clear H1
                    have H' := Aside0.mk H
                    clear H
                    go_wp2
                    (try simp only [← hl4_2])
                    go_roundg k2
                    case measure => have := HK1.out; have := HK2.out; omega
                    case rel => exact ⟨(x4_2), (wrap64 (x36_2 + 1)), (by first | rfl | (simp; done) | (simp [*]; done)), H', ⟨by have := HK1.out; have := HK2.out; omega⟩, ⟨by (try simp only [hl4_2]); (with_reducible repeat (first | apply Kd.R_alloc | apply Kd.R_drewN | apply Kd.R_drew)); exact HO_4.out⟩, ⟨by repeat (first | (with_reducible first | exact HB.out | apply below_alloc | apply pw_below_drewN | apply below_drew1) | exact HB.out)⟩⟩
                · rw [if_neg c19] at H
                  have c19b0 : decide (x36_2 < (x4_1.length : Int)) = false := decide_eq_false c19; (try rw [hl4_2] at c19b0)
                  clear c19
                  simp only [Option.some.injEq, Prod.mk.injEq] at H
                  obtain ⟨rfl, rfl⟩ := H
                  go_wp2
                  go_ret2
                  exact ⟨_, by first | rfl | (simp [errW_none, errW_some] <;> rfl) | (simp [*, errW_none, errW_some] <;> rfl), by (with_reducible repeat (first | apply Kd.R_alloc | apply Kd.R_drewN | apply Kd.R_drew)); exact HO_4.out, by repeat (first | (with_reducible first | exact HB.out | apply below_alloc | apply pw_below_drewN | apply below_drew1) | exact HB.out)⟩
    · rw [if_neg c3] at H
      exact absurd H (by simp)
  · rw [if_neg c2] at H
    exact absurd H (by simp)

/-! ### math_Signbit: function 36 -/
def math_Signbit.f (a0 : Nat) : Option (Bool) := some (decide ((wrap64 (((a0 : Nat) : Int))) < 0))
set_option maxHeartbeats 8000000 in
set_option maxRecDepth 100000 in
theorem math_Signbit.calls (a0 : Nat) (r : Bool) (w : World) (h : math_Signbit.f a0 = some r) :
    Calls Try.prog 36 #[.float .f64 a0] w fun e w' => e = .returned (.bool r) ∧ Drawn0 w w' := by
  have H : (some (decide ((wrap64 (((a0 : Nat) : Int))) < 0))) = some r := h
  clear h
  obtain rfl := Option.some.inj H
  go_enter Try.func36, Try.ntmps36
  go_wp2
  go_ret
  exact ⟨by first | rfl | (simp; done) | (simp [*]; done), by repeat (first | exact Drawn0.refl _ | apply Drawn0.step)⟩

/-! ### weigh_Less: function 21 -/
def weigh_Less.j0 : Nat → Nat → Nat → Bool → Option (Bool)
  | 0, _, _, _ => none
  | k + 1, x0, x1, x13 => if x13 = true then ((math_Signbit.f x0).bind fun t114 => (if t114 = true then ((math_Signbit.f x1).bind fun t115 => (some (!t115))) else (some false))) else (some (fLt x0 x1))
def weigh_Less.f (k : Nat) (a0 : Nat) (a1 : Nat) : Option (Bool) := if fNe a1 a1 = true then (some false) else (if fNe a0 a0 = true then (some true) else (if fEq a0 0 = true then (weigh_Less.j0 k a0 a1 (fEq a1 0)) else (weigh_Less.j0 k a0 a1 false)))
theorem weigh_Less.mono_l : ∀ k, (∀ y0 y1 y2, LeO (weigh_Less.j0 k y0 y1 y2) (weigh_Less.j0 (k + 1) y0 y1 y2))
  | 0 => fun _ _ _ r h => by simp [weigh_Less.j0] at h
  | k + 1 => by
    have ih0 := weigh_Less.mono_l k
    · intro y0 y1 y2
      unfold weigh_Less.j0
      repeat' first
      | (with_reducible exact ih0 _ _ _)
      | (with_reducible exact LeO.refl _)
      | (with_reducible exact LeO.none _)
      | (with_reducible refine LeO.ite ?_ ?_)
      | (with_reducible refine LeO.bind ?_ (fun _ => ?_))
      | exact ih0 _ _ _
      | exact LeO.none _
      | refine LeO.ite ?_ ?_
      | refine LeO.bind ?_ (fun _ => ?_)
theorem weigh_Less.mono : ∀ a0 a1 k, LeO (weigh_Less.f k a0 a1) (weigh_Less.f (k + 1) a0 a1) := by
  intro a0 a1 k
  have ih0 := weigh_Less.mono_l k
  unfold weigh_Less.f
  repeat' first
      | (with_reducible exact ih0 _ _ _)
      | (with_reducible exact LeO.refl _)
      | (with_reducible exact LeO.none _)
      | (with_reducible refine LeO.ite ?_ ?_)
      | (with_reducible refine LeO.bind ?_ (fun _ => ?_))
      | exact ih0 _ _ _
      | exact LeO.none _
      | refine LeO.ite ?_ ?_
      | refine LeO.bind ?_ (fun _ => ?_)
set_option maxHeartbeats 8000000 in
set_option maxRecDepth 100000 in
theorem weigh_Less.calls (k : Nat) (a0 : Nat) (a1 : Nat) (r : Bool) (w : World) (h : weigh_Less.f k a0 a1 = some r) :
    Calls Try.prog 21 #[.float .f64 a0, .float .f64 a1] w fun e w' => e = .returned (.bool r) ∧ Drawn0 w w' := by
  have H : (if fNe a1 a1 = true then (some false) else (if fNe a0 a0 = true then (some true) else (if fEq a0 0 = true then (weigh_Less.j0 k a0 a1 (fEq a1 0)) else (weigh_Less.j0 k a0 a1 false)))) = some r := h
  clear h
  by_cases c3 : fNe a1 a1 = true
  · rw [if_pos c3] at H
    have c3b0 : fNe a1 a1 = true := c3
    clear c3
    obtain rfl := Option.some.inj H
    go_enter Try.func21, Try.ntmps21
    go_wp2
    go_ret
    exact ⟨by first | rfl | (simp; done) | (simp [*]; done), by repeat (first | exact Drawn0.refl _ | apply Drawn0.step)⟩
  · rw [if_neg c3] at H
    have c3b0 : fNe a1 a1 = false := by simpa using c3
    clear c3
    by_cases c4 : fNe a0 a0 = true
    · rw [if_pos c4] at H
      have c4b0 : fNe a0 a0 = true := c4
      clear c4
      obtain rfl := Option.some.inj H
      go_enter Try.func21, Try.ntmps21
      go_wp2
      go_ret
      exact ⟨by first | rfl | (simp; done) | (simp [*]; done), by repeat (first | exact Drawn0.refl _ | apply Drawn0.step)⟩
    · rw [if_neg c4] at H
      have c4b0 : fNe a0 a0 = false := by simpa using c4
      clear c4
      have HC5 := Aside0.mk H
      clear H
      go_enter Try.func21, Try.ntmps21
      go_upto_region 5 with (fail)
      go_cut [13] (fun v13 wc => ∃ (kq : Nat) (x13_4 : Bool), v13 = .bool x13_4 ∧ Aside0 (weigh_Less.j0 kq a0 a1 x13_4 = some r) ∧ Aside0 (kq ≤ k) ∧ Drawn0 w wc)
      case first =>
        have H := HC5.out
        clear HC5
        by_cases c6 : fEq a0 0 = true
        · rw [if_pos c6] at H
          have c6b0 : fEq a0 0 = true := c6
          clear c6
          (first | rw [c6b0] | (simp only [i64_w, i32_w]; rw [c6b0]) | skip)
          have H' := Aside0.mk H
          clear H
          go_wp2
          go_meet
          case rel => exact ⟨_, (fEq a1 0), (by first | rfl | (simp; done) | (simp [*]; done)), H', ⟨by first | omega | exact Nat.le_refl _⟩, by repeat (first | exact Drawn0.refl _ | apply Drawn0.step)⟩
        · rw [if_neg c6] at H
          have c6b0 : fEq a0 0 = false := by simpa using c6
          clear c6
          (first | rw [c6b0] | (simp only [i64_w, i32_w]; rw [c6b0]) | skip)
          have H' := Aside0.mk H
          clear H
          go_wp2
          go_meet
          case rel => exact ⟨_, (false), (by first | rfl | (simp; done) | (simp [*]; done)), H', ⟨by first | omega | exact Nat.le_refl _⟩, by repeat (first | exact Drawn0.refl _ | apply Drawn0.step)⟩
      case rest =>
        clear HC5
        try clear c2
        try clear p2
        try clear c3
        try clear c3b0
        try clear c4
        try clear c4b0
        try clear c6
        try clear c6b0
        obtain ⟨kq, x13_4, rfl, HA, HJ4, ⟨mc4, rfl⟩⟩ := hcut
        cases kq with
        | zero => exact absurd HA.out (by simp [weigh_Less.j0])
        | succ kj4 =>
          have H := HA.out
          clear HA
          simp only [weigh_Less.j0] at H
          by_cases c7 : x13_4 = true
          · subst c7
            have H1 : ((math_Signbit.f a0).bind fun t114 => (if t114 = true then ((math_Signbit.f a1).bind fun t115 => (some (!t115))) else (some false))) = some r := by rw [if_pos rfl] at H; exact H
            clear H
            have H := H1
            clear H1
            replace H := Option.bind_eq_some_iff.mp H
            obtain ⟨t114, A80, H⟩ := H
            replace H : (if t114 = true then ((math_Signbit.f a1).bind fun t115 => (some (!t115))) else (some false)) = some r := H
            have A8 := Aside0.mk A80
            clear A80
            by_cases c9 : t114 = true
            · subst c9
              have H1 : ((math_Signbit.f a1).bind fun t115 => (some (!t115))) = some r := by rw [if_pos rfl] at H; exact H
              clear H
              have H := H1
              clear H1
              replace H := Option.bind_eq_some_iff.mp H
              obtain ⟨t115, A100, H⟩ := H
              replace H : (some (!t115)) = some r := H
              have A10 := Aside0.mk A100
              clear A100
              obtain rfl := Option.some.inj H
              go_wp2_with (first | ((with_reducible refine gate_callee (f := 36) rfl ?_); refine goesL_ (some 21) rfl rfl Try.func36 (by kernel_rfl) rfl #[.float .f64 a0] rfl (by (try simp only [List.map_toArray, List.map_cons, List.map_nil]); first | done | rfl | (simp only [List.length_drop, List.length_take]; rfl)) ?_; (with_reducible refine (math_Signbit.calls a0 true _ A8.out).mono ?_); rintro e w' ⟨rfl, ⟨nd, rfl⟩⟩; refine ⟨_, rfl, ?_⟩) | (go_at_call 36; (with_reducible refine (math_Signbit.calls a1 t115 _ A10.out).mono ?_); rintro e w' ⟨rfl, ⟨nd, rfl⟩⟩))
              go_ret
              exact ⟨by first | rfl | (simp; done) | (simp [*]; done), by repeat (first | exact Drawn0.refl _ | apply Drawn0.step)⟩
            · replace c9 := Bool.eq_false_iff.mpr c9
              subst c9
              have H1 : (some false) = some r := by rw [if_neg (show ¬ (false = true) by decide)] at H; exact H
              clear H
              have H := H1
              clear H1
              obtain rfl := Option.some.inj H
              go_wp2_with (first | ((with_reducible refine gate_callee (f := 36) rfl ?_); refine goesL_ (some 21) rfl rfl Try.func36 (by kernel_rfl) rfl #[.float .f64 a0] rfl (by (try simp only [List.map_toArray, List.map_cons, List.map_nil]); first | done | rfl | (simp only [List.length_drop, List.length_take]; rfl)) ?_; (with_reducible refine (math_Signbit.calls a0 false _ A8.out).mono ?_); rintro e w' ⟨rfl, ⟨nd, rfl⟩⟩; refine ⟨_, rfl, ?_⟩))
              go_ret
              exact ⟨by first | rfl | (simp; done) | (simp [*]; done), by repeat (first | exact Drawn0.refl _ | apply Drawn0.step)⟩
          · replace c7 := Bool.eq_false_iff.mpr c7
            subst c7
            have H1 : (some (fLt a0 a1)) = some r := by rw [if_neg (show ¬ (false = true) by decide)] at H; exact H
            clear H
            have H := H1
            clear H1
            obtain rfl := Option.some.inj H
            go_wp2
            go_ret
            exact ⟨by first | rfl | (simp; done) | (simp [*]; done), by repeat (first | exact Drawn0.refl _ | apply Drawn0.step)⟩

/-! ### weigh_Heavy: function 16 -/
/-- Less, as a Bool. -/
def lessB (a b : Nat) : Bool := (weigh_Less.f 1 a b).getD false
theorem ite_some {α : Type} {c : Prop} [Decidable c] {a b : Option α} (ha : ∃ r, a = some r) (hb : ∃ r, b = some r) : ∃ r, (if c then a else b) = some r := by
  split
  · exact ha
  · exact hb
theorem less_some (a b : Nat) : weigh_Less.f 1 a b = some (lessB a b) := by
  have hj : ∀ x, ∃ r, weigh_Less.j0 1 a b x = some r := by
    intro x
    simp only [weigh_Less.j0]
    exact ite_some (by unfold math_Signbit.f; rw [Option.bind_some]; refine ite_some ?_ ⟨_, rfl⟩; rw [Option.bind_some]; exact ⟨_, rfl⟩) ⟨_, rfl⟩
  have : ∃ r, weigh_Less.f 1 a b = some r := by
    unfold weigh_Less.f
    exact ite_some ⟨_, rfl⟩ (ite_some ⟨_, rfl⟩ (ite_some (hj _) (hj _)))
  obtain ⟨r, hr⟩ := this
  unfold lessB
  rw [hr]; rfl
/-- The place of the greatest of the first k elements. -/
def heavyK (l : List Nat) : Nat → Int
  | 0 => -1
  | k + 1 => if heavyK l k < 0 ∨ lessB (rdOf (0 : Nat) l (heavyK l k)) (rdOf (0 : Nat) l k) = true then (k : Int) else heavyK l k
theorem heavyK_bd (l : List Nat) (k : Nat) : -1 ≤ heavyK l k ∧ heavyK l k < k := by
  induction k with
  | zero => unfold heavyK; omega
  | succ k ih => unfold heavyK; split <;> omega
def weigh_Heavy.f (l0 : List Nat) : Option (Int) := if l0.length ≤ 35184372088832 then some (heavyK l0 l0.length) else none
set_option maxHeartbeats 8000000 in
set_option maxRecDepth 100000 in
theorem heavy1_neg (A : Option Addr) (c : Nat) (l : List Nat) (bl ba : Nat) (i : Int) (x : Nat) (w : World) (hl : w.cell? ⟨bl, 0, none⟩ = some (.slice A l.length c)) (ha : w.cell? ⟨ba, 0, none⟩ = some (.int .i64 i)) (hi : i < 0) :
    Calls Try.prog 35 #[.float .f64 x, .pointer (some ⟨ba, 0, none⟩), .pointer (some ⟨bl, 0, none⟩)] w fun e w' => e = .returned (.bool true) ∧ Drawn0 w w' := by
  have hd : decide (i < 0) = true := decide_eq_true hi
  clear hi
  go_enter Try.func35, Try.ntmps35
  go_wp2
  repeat (go_quiet (fail); try go_wp2)
  go_ret
  exact ⟨by first | rfl | (simp; done) | (simp [*]; done), by repeat (first | exact Drawn0.refl _ | apply Drawn0.step)⟩
set_option maxHeartbeats 8000000 in
set_option maxRecDepth 100000 in
theorem heavy1_pos (A : Option Addr) (c : Nat) (l : List Nat) (bl ba : Nat) (i : Int) (x : Nat) (w : World) (hl : w.cell? ⟨bl, 0, none⟩ = some (.slice A l.length c)) (ha : w.cell? ⟨ba, 0, none⟩ = some (.int .i64 i)) (hr : Kd.f64.C w A l.length l) (h0 : 0 ≤ i) (hi : i < l.length) :
    Calls Try.prog 35 #[.float .f64 x, .pointer (some ⟨ba, 0, none⟩), .pointer (some ⟨bl, 0, none⟩)] w fun e w' => e = .returned (.bool (lessB (rdOf (0 : Nat) l i) x)) ∧ Drawn0 w w' := by
  have hd : decide (i < 0) = false := decide_eq_false (by omega)
  have A7 := Aside0.mk (less_some (rdOf (0 : Nat) l i) x)
  obtain ⟨ad, e, hx⟩ := Kd.at_f64 hr i h0 hi
  subst e
  have d0 : decide (0 ≤ i) = true := decide_eq_true h0
  have d1 : decide (i < (l.length : Int)) = true := decide_eq_true hi
  replace h0 := eq_true h0
  replace hi := eq_true hi
  have HR := Aside0.mk hr
  clear hr
  go_enter Try.func35, Try.ntmps35
  go_wp2_with (first | (go_at_call 21; (with_reducible refine (weigh_Less.calls 1 (rdOf (0 : Nat) l i) x _ _ A7.out).mono ?_); rintro e w' ⟨rfl, ⟨nd, rfl⟩⟩; (try first | exact ⟨rfl, _, World.drewN_drewN _ _ _⟩ | exact ⟨rfl, _, Eq.trans (World.drewN_drewN _ _ _) (congrArg (World.drewN _) (Nat.add_assoc _ _ _))⟩)))
  go_ret
  exact ⟨by first | rfl | (simp; done) | (simp [*]; done), by repeat (first | exact Drawn0.refl _ | apply Drawn0.step)⟩
structure HeavyInv (w : World) (A0 : Option Addr) (c0 : Nat) (l0 : List Nat) (i : Int) (wr : World) : Prop where
  below : Below w.heap.size w wr
  l : wr.cell? ⟨w.heap.size, 0, none⟩ = some (.slice A0 l0.length c0)
  at_ : wr.cell? ⟨w.heap.size + 1, 0, none⟩ = some (.int .i64 i)
  free : wr.frozen? ⟨w.heap.size + 1, 0, none⟩ = false
theorem HeavyInv.drewN {w : World} {A0 : Option Addr} {c0 : Nat} {l0 : List Nat} {i : Int} {wr : World} (h : HeavyInv w A0 c0 l0 i wr) (n : Nat) : HeavyInv w A0 c0 l0 i (wr.drewN n) :=
  ⟨pw_below_drewN h.below n, by rw [World.cell?_drewN]; exact h.l, by rw [World.cell?_drewN]; exact h.at_, by rw [World.frozen?_drewN]; exact h.free⟩
theorem HeavyInv.set {w : World} {A0 : Option Addr} {c0 : Nat} {l0 : List Nat} {i : Int} {wr : World} (h : HeavyInv w A0 c0 l0 i wr) (j : Int) : HeavyInv w A0 c0 l0 j (wr.setCell ⟨w.heap.size + 1, 0, none⟩ (.int .i64 j)) :=
  ⟨h.below.setCell (by simp) _, by rw [World.cell?_setCell_other _ _ _ _ (by simp)]; exact h.l, by rw [World.cell?_setCell_same' _ _ _ (by rw [h.at_]; rfl)], by rw [World.frozen?_setCell]; exact h.free⟩
set_option maxHeartbeats 8000000 in
set_option maxRecDepth 100000 in
theorem weigh_Heavy.calls (A0 : Option Addr) (c0 : Nat) (l0 : List Nat) (r : Int) (w : World) (hr0 : Kd.C Kd.f64 w A0 l0.length l0) (hc0 : l0.length ≤ c0) (h : weigh_Heavy.f l0 = some r) :
    Calls Try.prog 16 #[.slice A0 l0.length c0] w fun e w' => e = .returned (.int .i64 r) ∧ Below w.heap.size w w' := by
  have hmf : ∀ (fn : Fn) (first cap : Array Value) (w : World), (Instr.makeFunc fn first cap).run Try.prog w = .ok (.func fn first cap) w := fun _ _ _ _ => rfl
  unfold weigh_Heavy.f at h
  by_cases hL : l0.length ≤ 35184372088832
  · rw [if_pos hL] at h
    have HH := Aside0.mk (Option.some.inj h)
    clear h
    have HR0 := Aside0.mk hr0
    clear hr0
    go_enter Try.func16, Try.ntmps16
    go_wp2
    go_loopw [10] (fun v wr => ∃ k : Nat, k ≤ l0.length ∧ v = .int .i64 (k : Int) ∧ HeavyInv w A0 c0 l0 (heavyK l0 k) wr) (fun v _ => l0.length - (intOf v).toNat)
    case atStart =>
      refine ⟨0, Nat.zero_le _, rfl, ⟨?_, ?_, ?_, ?_⟩⟩
      · exact ((Below.refl _ _).alloc (Nat.le_refl _) _).alloc (by simp) _
      · rw [World.cell?_alloc_past _ _ _ (by simp), World.cell?_alloc_at _ _ _ _ rfl]; rfl
      · rw [World.cell?_alloc_at _ _ _ _ (by simp)]; rfl
      · exact World.frozen?_alloc_at _ _ _ _ (by simp)
    case round =>
      obtain ⟨k, hk, rfl, hinv⟩ := hrel
      have hbd := heavyK_bd l0 k
      have hB := Aside0.mk hinv.below
      have hl := hinv.l
      have ha := hinv.at_
      have hf := hinv.free
      have HI := Aside0.mk hinv
      clear hinv
      have hC : Kd.f64.C wr A0 l0.length l0 := Kd.C_below HR0.out hB.out
      by_cases hlt : k < l0.length
      · have d0 : decide ((k : Int) < (l0.length : Int)) = true := decide_eq_true (by omega)
        obtain ⟨ad, e, hx⟩ := Kd.at_f64 hC (k : Int) (by omega) (by omega)
        subst e
        have HC := Aside0.mk hC
        clear hC
        have hwr : wrap64 ((k : Int) + 1) = ((k + 1 : Nat) : Int) := by unfold wrap64; omega
        have HW := Aside0.mk hwr
        clear hwr
        simp only [Int.toNat_natCast] at hx
        have hs : heavyK l0 (k + 1) = if heavyK l0 k < 0 ∨ lessB (rdOf (0 : Nat) l0 (heavyK l0 k)) (rdOf (0 : Nat) l0 k) = true then (k : Int) else heavyK l0 k := rfl
        generalize heavyK l0 k = i0 at hs ha hbd HI
        by_cases hn : i0 < 0
        · rw [if_pos (Or.inl hn)] at hs
          have HS := Aside0.mk hs
          clear hs
          go_wp2_with (first | (go_at_call 35; (with_reducible refine (heavy1_neg _ c0 l0 w.heap.size (w.heap.size + 1) i0 (rdOf (0 : Nat) l0 k) _ hl ha hn).mono ?_); rintro e w' ⟨rfl, ⟨nd, rfl⟩⟩))
          go_roundw
          case rel => exact ⟨k + 1, by omega, rfl, by rw [HS.out]; exact (HI.out.drewN nd).set _⟩
          case measure => simp [intOf]; omega
        · have c1 := heavy1_pos _ c0 l0 w.heap.size (w.heap.size + 1) i0 (rdOf (0 : Nat) l0 k) wr hl ha HC.out (by omega) (by omega)
          have C1 := Aside0.mk c1
          clear c1
          cases hb : lessB (rdOf (0 : Nat) l0 i0) (rdOf (0 : Nat) l0 k) with
          | true =>
            rw [if_pos (Or.inr hb)] at hs
            have HS := Aside0.mk hs
            clear hs
            rw [hb] at C1
            clear hb hn hbd
            go_wp2_with (first | (go_at_call 35; (with_reducible refine C1.out.mono ?_); rintro e w' ⟨rfl, ⟨nd, rfl⟩⟩))
            go_roundw
            case rel => exact ⟨k + 1, by omega, rfl, by rw [HS.out]; exact (HI.out.drewN nd).set _⟩
            case measure => simp [intOf]; omega
          | false =>
            rw [if_neg (by simp [hb]; omega)] at hs
            have HS := Aside0.mk hs
            clear hs
            rw [hb] at C1
            clear hb hn hbd
            go_wp2_with (first | (go_at_call 35; (with_reducible refine C1.out.mono ?_); rintro e w' ⟨rfl, ⟨nd, rfl⟩⟩))
            go_roundw
            case rel => exact ⟨k + 1, by omega, rfl, by rw [HS.out]; exact HI.out.drewN nd⟩
            case measure => simp [intOf]; omega
      · have hK := Aside0.mk (show k = l0.length by omega)
        have d0 : decide (k < l0.length) = false := decide_eq_false hlt
        have HC := Aside0.mk hC
        clear hlt hk hbd hC
        obtain rfl : heavyK l0 k = r := by rw [hK.out]; exact HH.out
        clear HH
        go_wp2
        go_ret
        exact ⟨rfl, hB.out⟩
  · rw [if_neg hL] at h; cases h

/-! ### weigh_Bump: function 23 -/
def weigh_Bump.f (a0 : Nat) (a1 : Nat) : Option (Nat) := (weigh_Tame.f a0).bind fun t119 => ((weigh_Tame.f a1).bind fun t120 => (if fAddOk t119 t120 = true then ((weigh_Tame.f (fAdd t119 t120)).bind fun t121 => (some t121)) else (none)))
set_option maxHeartbeats 8000000 in
set_option maxRecDepth 100000 in
theorem weigh_Bump.calls (a0 : Nat) (a1 : Nat) (r : Nat) (w : World) (h : weigh_Bump.f a0 a1 = some r) :
    Calls Try.prog 23 #[.float .f64 a0, .float .f64 a1] w fun e w' => e = .returned (.float .f64 r) ∧ Drawn0 w w' := by
  have H : ((weigh_Tame.f a0).bind fun t119 => ((weigh_Tame.f a1).bind fun t120 => (if fAddOk t119 t120 = true then ((weigh_Tame.f (fAdd t119 t120)).bind fun t121 => (some t121)) else (none)))) = some r := h
  clear h
  replace H := Option.bind_eq_some_iff.mp H
  obtain ⟨t119, A30, H⟩ := H
  replace H : ((weigh_Tame.f a1).bind fun t120 => (if fAddOk t119 t120 = true then ((weigh_Tame.f (fAdd t119 t120)).bind fun t121 => (some t121)) else (none))) = some r := H
  have A3 := Aside0.mk A30
  clear A30
  replace H := Option.bind_eq_some_iff.mp H
  obtain ⟨t120, A40, H⟩ := H
  replace H : (if fAddOk t119 t120 = true then ((weigh_Tame.f (fAdd t119 t120)).bind fun t121 => (some t121)) else (none)) = some r := H
  have A4 := Aside0.mk A40
  clear A40
  by_cases c5 : fAddOk t119 t120 = true
  · rw [if_pos c5] at H
    have c5b0 := eq_true c5
    have c5b1 : decide (fAddOk t119 t120 = true) = true := decide_eq_true c5
    clear c5
    replace H := Option.bind_eq_some_iff.mp H
    obtain ⟨t121, A60, H⟩ := H
    replace H : (some t121) = some r := H
    have A6 := Aside0.mk A60
    clear A60
    obtain rfl := Option.some.inj H
    go_enter Try.func23, Try.ntmps23
    go_wp2_with (first | ((with_reducible refine gate_callee (f := 22) rfl ?_); refine goesL_ (some 6) rfl rfl Try.func22 (by kernel_rfl) rfl #[.float .f64 a0] rfl (by (try simp only [List.map_toArray, List.map_cons, List.map_nil]); first | done | rfl | (simp only [List.length_drop, List.length_take]; rfl)) ?_; (with_reducible refine (weigh_Tame.calls a0 t119 _ A3.out).mono ?_); rintro e w' ⟨rfl, ⟨nd, rfl⟩⟩; refine ⟨_, rfl, ?_⟩) | ((with_reducible refine gate_callee (f := 22) rfl ?_); refine goesL_ (some 8) rfl rfl Try.func22 (by kernel_rfl) rfl #[.float .f64 a1] rfl (by (try simp only [List.map_toArray, List.map_cons, List.map_nil]); first | done | rfl | (simp only [List.length_drop, List.length_take]; rfl)) ?_; (with_reducible refine (weigh_Tame.calls a1 t120 _ A4.out).mono ?_); rintro e w' ⟨rfl, ⟨nd, rfl⟩⟩; refine ⟨_, rfl, ?_⟩) | ((with_reducible refine gate_callee (f := 22) rfl ?_); refine goesL_ (some 10) rfl rfl Try.func22 (by kernel_rfl) rfl #[.float .f64 (fAdd t119 t120)] rfl (by (try simp only [List.map_toArray, List.map_cons, List.map_nil]); first | done | rfl | (simp only [List.length_drop, List.length_take]; rfl)) ?_; (with_reducible refine (weigh_Tame.calls (fAdd t119 t120) t121 _ A6.out).mono ?_); rintro e w' ⟨rfl, ⟨nd, rfl⟩⟩; refine ⟨_, rfl, ?_⟩))
    go_ret
    exact ⟨by first | rfl | (simp; done) | (simp [*]; done), by repeat (first | exact Drawn0.refl _ | apply Drawn0.step)⟩
  · rw [if_neg c5] at H
    exact absurd H (by simp)

/-! ### math_NaN: function 24 -/
def math_NaN.f  : Option (Nat) := some 9221120237041090561
set_option maxHeartbeats 8000000 in
set_option maxRecDepth 100000 in
theorem math_NaN.calls  (r : Nat) (w : World) (h : math_NaN.f  = some r) :
    Calls Try.prog 24 #[] w fun e w' => e = .returned (.float .f64 r) ∧ Drawn0 w w' := by
  have H : (some 9221120237041090561) = some r := h
  clear h
  obtain rfl := Option.some.inj H
  go_enter Try.func24, Try.ntmps24
  go_wp2
  go_ret
  exact ⟨by first | rfl | (simp; done) | (simp [*]; done), by repeat (first | exact Drawn0.refl _ | apply Drawn0.step)⟩

/-! ### math_Inf: function 33 -/
def math_Inf.f (a0 : Int) : Option (Nat) := if a0 ≥ 0 then (some 9218868437227405312) else (some 18442240474082181120)
set_option maxHeartbeats 8000000 in
set_option maxRecDepth 100000 in
theorem math_Inf.calls (a0 : Int) (r : Nat) (w : World) (h : math_Inf.f a0 = some r) :
    Calls Try.prog 33 #[.int .i64 a0] w fun e w' => e = .returned (.float .f64 r) ∧ Drawn0 w w' := by
  have H : (if a0 ≥ 0 then (some 9218868437227405312) else (some 18442240474082181120)) = some r := h
  clear h
  by_cases c2 : a0 ≥ 0
  · rw [if_pos c2] at H
    have c2b0 : decide (0 ≤ a0) = true := decide_eq_true c2
    clear c2
    obtain rfl := Option.some.inj H
    go_enter Try.func33, Try.ntmps33
    go_wp2
    go_ret
    exact ⟨by first | rfl | (simp; done) | (simp [*]; done), by repeat (first | exact Drawn0.refl _ | apply Drawn0.step)⟩
  · rw [if_neg c2] at H
    have c2b0 : decide (0 ≤ a0) = false := decide_eq_false c2
    clear c2
    obtain rfl := Option.some.inj H
    go_enter Try.func33, Try.ntmps33
    go_wp2
    go_ret
    exact ⟨by first | rfl | (simp; done) | (simp [*]; done), by repeat (first | exact Drawn0.refl _ | apply Drawn0.step)⟩

end Go.Proofs.Ytglpafflpcgnpaa.Q
