/- Texts of this seat, joined by a program of this session (wip/tools/pack.py). -/
import Derived.Test.YtmdjlhmifhnpdaaProg
import Derived.Below
import Derived.Deep.Draws
import Derived.Deep.AppendLies
import Derived.Maps.AppendAt
import Derived.OwnWalk
import Derived.Laws.BytesArg
import Derived.Laws.MakeOwn
import Derived.Laws.OwnMore
import Derived.Deep.OwnRows
import Derived.Tactics
import Derived.Lib.ConvBytes
import Derived.Laws.Slices
import Derived.WalkKit
import Derived.KernelRfl
import Derived.RowKit3
import Derived.Deep.LoopGhost
import Derived.Deep.QuietTactic
import Derived.BigQuiet
import Derived.WideLaws
import Derived.Deep.DeepCutAuto
import Derived.Deep.CutBlock
import Derived.Deep.RegionHeld3
import Derived.Laws.Rows
import Derived.Lib.AppendStr
import Derived.ArgAppend
import Derived.Laws.IdiomCopy
import Derived.OrdersHeld
import Derived.Laws.BitsLemmas
import Derived.RowKit
import Derived.ScopeJumps
import Derived.WalkMore
import Derived.Laws.CopyOwn
import Derived.Deep.Slices
import Derived.WalkSpells
import Derived.Outline
import Derived.Test.YtmdjlhmifhnpdaaZw
import Derived.Test.YtmdjlhmifhnpdaaZf
namespace Go.Proofs.Ytmdjlhmifhnpdaa.B
open Go.RowKit Go.Proofs.YtmdjlhmifhnpdaaW.PrintWords Go.Proofs.YtmdjlhmifhnpdaaW.PrintLast Go.Proofs.YtmdjlhmifhnpdaaW.PrintMore
attribute [local go_sem] max2_int min2_int max_two min_two max_three min_three max_four min_four   -- for this text's walks alone
set_option linter.unusedVariables false
set_option linter.unusedSimpArgs false



def errW : Option Int → Value
  | none => .nilIface
  | some c => .iface 0 (.int .i64 c)
theorem errW_none : errW none = .nilIface := rfl
theorem errW_some (c : Int) : errW (some c) = .iface 0 (.int .i64 c) := rfl

theorem info44 : (Try.prog.info? 44).map (fun i => (i.zero, i.size, i.bytes)) = some (some (.float .f64 0), 1, 8) := by kernel_rfl
-- the values' own types

end Go.Proofs.Ytmdjlhmifhnpdaa.B
namespace Go.Proofs.Ytmdjlhmifhnpdaa.B
open Go.RowKit Go.Proofs.YtmdjlhmifhnpdaaW.PrintWords Go.Proofs.YtmdjlhmifhnpdaaW.PrintLast Go.Proofs.YtmdjlhmifhnpdaaW.PrintMore
attribute [local go_sem] max2_int min2_int max_two min_two max_three min_three max_four min_four   -- for this text's walks alone
set_option linter.unusedVariables false
set_option linter.unusedSimpArgs false

-- NOT PRINTED: function 52 (math_Float64frombits)

-- NOT PRINTED: function 58 (math_Float64bits)

/-! ### math_Abs: function 45 -/
def math_Abs.f (a0 : Nat) : Option (Nat) := some ((Go.bits .andNot .u64 ((a0 : Nat) : Int) 9223372036854775808).toNat)
set_option maxHeartbeats 8000000 in
set_option maxRecDepth 100000 in
theorem math_Abs.calls (a0 : Nat) (r : Nat) (w : World) (h : math_Abs.f a0 = some r) :
  Calls Try.prog 45 #[.float .f64 a0] w fun e w' => e = .returned (.float .f64 r) ∧ Drawn0 w w' := by
 have H : (some ((Go.bits .andNot .u64 ((a0 : Nat) : Int) 9223372036854775808).toNat)) = some r := h
 clear h
 obtain rfl := Option.some.inj H
 go_enter Try.func45, Try.ntmps45
 go_wp2
 go_ret
 exact ⟨by first | rfl | (simp; done) | (simp [*]; done), by repeat (first | exact Drawn0.refl _ | apply Drawn0.step)⟩

/-! ### math_IsInf: function 56 -/
def math_IsInf.f (a0 : Nat) (a1 : Int) : Option (Bool) := if a1 = 0 then ((math_Abs.f a0).bind fun t101 => (some (fGt t101 9218868437227405311))) else (if a1 < 0 then (some (fGt (fNeg a0) 9218868437227405311)) else (some (fGt a0 9218868437227405311)))
set_option maxHeartbeats 8000000 in
set_option maxRecDepth 100000 in
theorem math_IsInf.calls (a0 : Nat) (a1 : Int) (r : Bool) (w : World) (h : math_IsInf.f a0 a1 = some r) :
  Calls Try.prog 56 #[.float .f64 a0, .int .i64 a1] w fun e w' => e = .returned (.bool r) ∧ Drawn0 w w' := by
 have H : (if a1 = 0 then ((math_Abs.f a0).bind fun t101 => (some (fGt t101 9218868437227405311))) else (if a1 < 0 then (some (fGt (fNeg a0) 9218868437227405311)) else (some (fGt a0 9218868437227405311)))) = some r := h
 clear h
 by_cases c3 : a1 = 0
 ·rw [if_pos c3] at H
  have c3b0 : (a1 == 0) = true := beq_iff_eq.mpr c3
  have c3b1 : (a1 != 0) = false := bne_eq_false_iff_eq.mpr c3
  clear c3
  replace H := Option.bind_eq_some_iff.mp H
  obtain ⟨t101, A40, H⟩ := H
  replace H : (some (fGt t101 9218868437227405311)) = some r := H
  have A4 := Aside0.mk A40
  clear A40
  obtain rfl := Option.some.inj H
  go_enter Try.func56, Try.ntmps56
  go_wp2_with (first | ((with_reducible refine gate_callee (f := 45) rfl ?_); refine goesL_ (some 8) rfl rfl Try.func45 (by kernel_rfl) rfl #[.float .f64 a0] rfl (by (try simp only [List.map_toArray, List.map_cons, List.map_nil]); first | done | rfl | (simp only [List.length_drop, List.length_take]; rfl)) ?_; (with_reducible refine (math_Abs.calls a0 t101 _ A4.out).mono ?_); rintro e w' ⟨rfl, ⟨nd, rfl⟩⟩; refine ⟨_, rfl, ?_⟩))
  go_ret
  exact ⟨by first | rfl | (simp; done) | (simp [*]; done), by repeat (first | exact Drawn0.refl _ | apply Drawn0.step)⟩
 ·rw [if_neg c3] at H
  have c3b0 : (a1 == 0) = false := beq_eq_false_iff_ne.mpr c3
  have c3b1 : (a1 != 0) = true := bne_iff_ne.mpr c3
  by_cases c5 : a1 < 0
  ·rw [if_pos c5] at H
   have c5b0 : decide (a1 < 0) = true := decide_eq_true c5
   clear c5
   obtain rfl := Option.some.inj H
   go_enter Try.func56, Try.ntmps56
   go_wp2
   go_ret
   exact ⟨by first | rfl | (simp; done) | (simp [*]; done), by repeat (first | exact Drawn0.refl _ | apply Drawn0.step)⟩
  ·rw [if_neg c5] at H
   have c5b0 : decide (a1 < 0) = false := decide_eq_false c5
   clear c5
   obtain rfl := Option.some.inj H
   go_enter Try.func56, Try.ntmps56
   go_wp2
   go_ret
   exact ⟨by first | rfl | (simp; done) | (simp [*]; done), by repeat (first | exact Drawn0.refl _ | apply Drawn0.step)⟩

/-! ### math_Copysign: function 57 -/
def math_Copysign.f (a0 : Nat) (a1 : Nat) : Option (Nat) := some ((Go.bits .or .u64 (Go.bits .andNot .u64 ((a0 : Nat) : Int) 9223372036854775808) (Go.bits .and .u64 ((a1 : Nat) : Int) 9223372036854775808)).toNat)
set_option maxHeartbeats 8000000 in
set_option maxRecDepth 100000 in
theorem math_Copysign.calls (a0 : Nat) (a1 : Nat) (r : Nat) (w : World) (h : math_Copysign.f a0 a1 = some r) :
  Calls Try.prog 57 #[.float .f64 a0, .float .f64 a1] w fun e w' => e = .returned (.float .f64 r) ∧ Drawn0 w w' := by
 have H : (some ((Go.bits .or .u64 (Go.bits .andNot .u64 ((a0 : Nat) : Int) 9223372036854775808) (Go.bits .and .u64 ((a1 : Nat) : Int) 9223372036854775808)).toNat)) = some r := h
 clear h
 obtain rfl := Option.some.inj H
 go_enter Try.func57, Try.ntmps57
 go_wp2
 go_ret
 exact ⟨by first | rfl | (simp; done) | (simp [*]; done), by repeat (first | exact Drawn0.refl _ | apply Drawn0.step)⟩

/-! ### weigh_Tame: function 44 -/
def weigh_Tame.f (a0 : Nat) : Option (Nat) := if fNe a0 a0 = true then (some 0) else ((math_IsInf.f a0 0).bind fun t102 => (if t102 = true then ((math_Copysign.f 9218868437227405311 a0).bind fun t103 => (some t103)) else (some a0)))
set_option maxHeartbeats 8000000 in
set_option maxRecDepth 100000 in
theorem weigh_Tame.calls (a0 : Nat) (r : Nat) (w : World) (h : weigh_Tame.f a0 = some r) :
  Calls Try.prog 44 #[.float .f64 a0] w fun e w' => e = .returned (.float .f64 r) ∧ Drawn0 w w' := by
 have H : (if fNe a0 a0 = true then (some 0) else ((math_IsInf.f a0 0).bind fun t102 => (if t102 = true then ((math_Copysign.f 9218868437227405311 a0).bind fun t103 => (some t103)) else (some a0)))) = some r := h
 clear h
 by_cases c2 : fNe a0 a0 = true
 ·rw [if_pos c2] at H
  have c2b0 : fNe a0 a0 = true := c2
  clear c2
  obtain rfl := Option.some.inj H
  go_enter Try.func44, Try.ntmps44
  go_wp2
  go_ret
  exact ⟨by first | rfl | (simp; done) | (simp [*]; done), by repeat (first | exact Drawn0.refl _ | apply Drawn0.step)⟩
 ·rw [if_neg c2] at H
  have c2b0 : fNe a0 a0 = false := by simpa using c2
  clear c2
  replace H := Option.bind_eq_some_iff.mp H
  obtain ⟨t102, A30, H⟩ := H
  replace H : (if t102 = true then ((math_Copysign.f 9218868437227405311 a0).bind fun t103 => (some t103)) else (some a0)) = some r := H
  have A3 := Aside0.mk A30
  clear A30
  by_cases c4 : t102 = true
  ·subst c4
   have H1 : ((math_Copysign.f 9218868437227405311 a0).bind fun t103 => (some t103)) = some r := by rw [if_pos rfl] at H; exact H
   clear H
   have H := H1
   clear H1
   replace H := Option.bind_eq_some_iff.mp H
   obtain ⟨t103, A50, H⟩ := H
   replace H : (some t103) = some r := H
   have A5 := Aside0.mk A50
   clear A50
   obtain rfl := Option.some.inj H
   go_enter Try.func44, Try.ntmps44
   go_wp2_with (first | ((with_reducible refine gate_callee (f := 56) rfl ?_); refine goesL_ (some 9) rfl rfl Try.func56 (by kernel_rfl) rfl #[.float .f64 a0, .int .i64 0] rfl (by (try simp only [List.map_toArray, List.map_cons, List.map_nil]); first | done | rfl | (simp only [List.length_drop, List.length_take]; rfl)) ?_; (with_reducible refine (math_IsInf.calls a0 0 true _ A3.out).mono ?_); rintro e w' ⟨rfl, ⟨nd, rfl⟩⟩; refine ⟨_, rfl, ?_⟩) | ((with_reducible refine gate_callee (f := 57) rfl ?_); refine goesL_ (some 11) rfl rfl Try.func57 (by kernel_rfl) rfl #[.float .f64 9218868437227405311, .float .f64 a0] rfl (by (try simp only [List.map_toArray, List.map_cons, List.map_nil]); first | done | rfl | (simp only [List.length_drop, List.length_take]; rfl)) ?_; (with_reducible refine (math_Copysign.calls 9218868437227405311 a0 t103 _ A5.out).mono ?_); rintro e w' ⟨rfl, ⟨nd, rfl⟩⟩; refine ⟨_, rfl, ?_⟩))
   go_ret
   exact ⟨by first | rfl | (simp; done) | (simp [*]; done), by repeat (first | exact Drawn0.refl _ | apply Drawn0.step)⟩
  ·replace c4 := Bool.eq_false_iff.mpr c4
   subst c4
   have H1 : (some a0) = some r := by rw [if_neg (show ¬ (false = true) by decide)] at H; exact H
   clear H
   have H := H1
   clear H1
   obtain rfl := Option.some.inj H
   go_enter Try.func44, Try.ntmps44
   go_wp2_with (first | ((with_reducible refine gate_callee (f := 56) rfl ?_); refine goesL_ (some 9) rfl rfl Try.func56 (by kernel_rfl) rfl #[.float .f64 a0, .int .i64 0] rfl (by (try simp only [List.map_toArray, List.map_cons, List.map_nil]); first | done | rfl | (simp only [List.length_drop, List.length_take]; rfl)) ?_; (with_reducible refine (math_IsInf.calls a0 0 false _ A3.out).mono ?_); rintro e w' ⟨rfl, ⟨nd, rfl⟩⟩; refine ⟨_, rfl, ?_⟩))
   go_ret
   exact ⟨by first | rfl | (simp; done) | (simp [*]; done), by repeat (first | exact Drawn0.refl _ | apply Drawn0.step)⟩

/-! ### weigh_Rescale: function 29 -/
mutual
def weigh_Rescale.l0 : Nat → List Nat → Bool → List Nat → Int → Int → Option (List Nat × Bool)
 | 0, _, _, _, _, _ => none
 | k + 1, x4, x5, x12, x13, x14 => if x14 < x13 then (if 0 ≤ x14 then (if x14 < (x12.length : Int) then ((weigh_Tame.f (rdOf (0 : Nat) x12 x14)).bind fun t108 => (if x14 < (x4.length : Int) then ((some (x4.set (x14 : Int).toNat t108 : List Nat)).bind fun y109 => (if x5 = true then (weigh_Rescale.l0 k y109 true x12 x13 (wrap64 (x14 + 1))) else ((math_Abs.f (rdOf (0 : Nat) y109 x14)).bind fun t111 => (weigh_Rescale.l0 k y109 (fGt t111 6103021453049119613) x12 x13 (wrap64 (x14 + 1)))))) else (none))) else (none)) else (none)) else (weigh_Rescale.l1 k x4 x5 (x4.length : Int) 0)
def weigh_Rescale.l1 : Nat → List Nat → Bool → Int → Int → Option (List Nat × Bool)
 | 0, _, _, _, _ => none
 | k + 1, x4, x5, x35, x36 => if x36 < x35 then (if x5 = true then (if 0 ≤ x36 then (if x36 < (x4.length : Int) then (if fMulOk (rdOf (0 : Nat) x4 x36) 3110860544497550640 = true then (weigh_Rescale.l1 k (x4.set (x36 : Int).toNat (fMul (rdOf (0 : Nat) x4 x36) 3110860544497550640)) x5 x35 (wrap64 (x36 + 1))) else (none)) else (none)) else (none)) else (weigh_Rescale.l1 k x4 x5 x35 (wrap64 (x36 + 1)))) else (some (x4, x5))
end
def weigh_Rescale.f (k : Nat) (l0 : List Nat) : Option (List Nat × Bool) := if 0 ≤ (l0.length : Int) then (if ((l0.length : Int) : Int).toNat ≤ 35184372088832 then (weigh_Rescale.l0 k (List.replicate ((l0.length : Int) : Int).toNat (0 : Nat)) false l0 (l0.length : Int) 0) else (none)) else (none)
theorem weigh_Rescale.mono_l : ∀ k, (∀ y0 y1 y2 y3 y4, LeO (weigh_Rescale.l0 k y0 y1 y2 y3 y4) (weigh_Rescale.l0 (k + 1) y0 y1 y2 y3 y4)) ∧ (∀ y0 y1 y2 y3, LeO (weigh_Rescale.l1 k y0 y1 y2 y3) (weigh_Rescale.l1 (k + 1) y0 y1 y2 y3))
 | 0 => ⟨fun _ _ _ _ _ r h => by simp [weigh_Rescale.l0] at h, fun _ _ _ _ r h => by simp [weigh_Rescale.l1] at h⟩
 | k + 1 => by
  obtain ⟨ih0, ih1⟩ := weigh_Rescale.mono_l k
  refine ⟨?_, ?_⟩
  ·intro y0 y1 y2 y3 y4
   unfold weigh_Rescale.l0
   repeat' first
   | (with_reducible exact ih0 _ _ _ _ _)
   | (with_reducible exact ih1 _ _ _ _)
   | (with_reducible exact LeO.refl _)
   | (with_reducible exact LeO.none _)
   | (with_reducible refine LeO.ite ?_ ?_)
   | (with_reducible refine LeO.bind ?_ (fun _ => ?_))
   | exact ih0 _ _ _ _ _
   | exact ih1 _ _ _ _
   | exact LeO.none _
   | refine LeO.ite ?_ ?_
   | refine LeO.bind ?_ (fun _ => ?_)
  ·intro y0 y1 y2 y3
   unfold weigh_Rescale.l1
   repeat' first
   | (with_reducible exact ih0 _ _ _ _ _)
   | (with_reducible exact ih1 _ _ _ _)
   | (with_reducible exact LeO.refl _)
   | (with_reducible exact LeO.none _)
   | (with_reducible refine LeO.ite ?_ ?_)
   | (with_reducible refine LeO.bind ?_ (fun _ => ?_))
   | exact ih0 _ _ _ _ _
   | exact ih1 _ _ _ _
   | exact LeO.none _
   | refine LeO.ite ?_ ?_
   | refine LeO.bind ?_ (fun _ => ?_)
theorem weigh_Rescale.mono : ∀ a0 k, LeO (weigh_Rescale.f k a0) (weigh_Rescale.f (k + 1) a0) := by
 intro a0 k
 obtain ⟨ih0, ih1⟩ := weigh_Rescale.mono_l k
 unfold weigh_Rescale.f
 repeat' first
   | (with_reducible exact ih0 _ _ _ _ _)
   | (with_reducible exact ih1 _ _ _ _)
   | (with_reducible exact LeO.refl _)
   | (with_reducible exact LeO.none _)
   | (with_reducible refine LeO.ite ?_ ?_)
   | (with_reducible refine LeO.bind ?_ (fun _ => ?_))
   | exact ih0 _ _ _ _ _
   | exact ih1 _ _ _ _
   | exact LeO.none _
   | refine LeO.ite ?_ ?_
   | refine LeO.bind ?_ (fun _ => ?_)
set_option maxHeartbeats 8000000 in
set_option maxRecDepth 100000 in
theorem weigh_Rescale.calls (k : Nat) (A0 : Option Addr) (c0 : Nat) (l0 : List Nat) (r1 : List Nat) (r2 : Bool) (w : World) (hr0 : Kd.C Kd.f64 w A0 l0.length l0) (hc0 : l0.length ≤ c0) (h : weigh_Rescale.f k l0 = some (r1, r2)) :
  Calls Try.prog 29 #[.slice A0 l0.length c0] w fun e w' => ∃ v0_ : Value, e = .returned (.tuple #[v0_, .bool r2]) ∧ Kd.R Kd.f64 44 w' w.heap.size (fun _ => True) v0_ r1 ∧ Below w.heap.size w w' := by
 have HR0 := Aside0.mk hr0
 have HC0 := Aside0.mk hc0
 clear hr0 hc0
 have HB := Aside0.mk (Below.refl w.heap.size w)
 have H : (if 0 ≤ (l0.length : Int) then (if ((l0.length : Int) : Int).toNat ≤ 35184372088832 then (weigh_Rescale.l0 k (List.replicate ((l0.length : Int) : Int).toNat (0 : Nat)) false l0 (l0.length : Int) 0) else (none)) else (none)) = some (r1, r2) := h
 clear h
 by_cases c2 : 0 ≤ (l0.length : Int)
 ·rw [if_pos c2] at H
  have c2b0 := eq_true c2
  have c2b1 : decide (0 ≤ (l0.length : Int)) = true := decide_eq_true c2
  clear c2
  by_cases c3 : ((l0.length : Int) : Int).toNat ≤ 35184372088832
  ·rw [if_pos c3] at H
   have c3b0 := eq_true c3
   have c3b1 : decide (((l0.length : Int) : Int).toNat ≤ 35184372088832) = true := decide_eq_true c3
   clear c3
   obtain ⟨y104, hy104⟩ : ∃ y_ : List Nat, y_ = (List.replicate ((l0.length : Int) : Int).toNat (0 : Nat)) := ⟨_, rfl⟩
   replace H : (weigh_Rescale.l0 k y104 false l0 (l0.length : Int) 0) = some (r1, r2) := by first | (rw [hy104]; with_reducible exact H) | (have H2_ := (Option.bind_some _ _).symm.trans H; rw [hy104]; with_reducible exact H2_) | (have H2_ := (Option.bind_some _ _).symm.trans H; with_reducible exact H2_) | with_reducible exact H | (rw [hy104]; exact H) | exact H
   have Ny104 := Aside0.mk hy104
   clear hy104
   have H' := Aside0.mk H
   clear H
   go_enter Try.func29, Try.ntmps29
   go_wp2_with (first | ((with_reducible refine gate_dst (N := 11) rfl ?_); refine Kd.R_make Kd.f64 _ 44 rfl (N := 11) rfl 43 _ _ rfl (l0.length : Int) rfl rfl Try.underlying43 (.float .f64 0) 8 info44 rfl (by decide) (by omega) (0 : Nat) (ok := fun _ => True) (okp := fun _ => True) rfl (fun _ hk => hk) trivial (of_decide_eq_true (by first | (with_reducible assumption) | assumption)) (Nat.le_trans (Nat.mul_le_mul_right _ (of_decide_eq_true (by first | (with_reducible assumption) | assumption) : (l0.length : Int).toNat ≤ 35184372088832)) (by omega)) (Below.refl _ _) (Nat.le_refl _) ?_; intro v105 w4 ho5 hb hg_ hnew_; clear hg_ hnew_; (first | rw [← Ny104.out] at ho5 | (simp only [Int.reduceToNat] at ho5; rw [← Ny104.out] at ho5)); have n0_ := Aside0.mk (Kd.R_lower ho5 (below_size (by repeat (first | (with_reducible first | exact HB.out | apply below_alloc | apply pw_below_drewN | apply below_drew1) | exact HB.out)))); have n1_ := Aside0.mk (below_step (by repeat (first | (with_reducible first | exact HB.out | apply below_alloc | apply pw_below_drewN | apply below_drew1) | exact HB.out)) hb); clear HB; have HO106 := n0_; have HB := n1_; clear n0_ n1_; clear hb ho5))
   go_loopg [5, 14] k (fun kq v5 v14 w' => ∃ (x4_1 : List Nat) (x5_1 : Bool) (x14_1 : Int), v5 = .bool x5_1 ∧ v14 = .int .i64 x14_1 ∧ Aside0 (weigh_Rescale.l0 kq x4_1 x5_1 l0 (l0.length : Int) x14_1 = some (r1, r2)) ∧ Aside0 (kq ≤ k) ∧ Aside0 (Kd.R Kd.f64 44 w' w.heap.size (fun _ => True) v105 x4_1) ∧ Aside0 (Below w.heap.size w w'))
   case atStart => exact ⟨(y104), (false), (0), (by first | rfl | (simp; done) | (simp [*]; done)), (by first | rfl | (simp; done) | (simp [*]; done)), H', ⟨Nat.le_refl _⟩, ⟨by (with_reducible repeat (first | apply Kd.R_alloc | apply Kd.R_drewN | apply Kd.R_drew)); exact HO106.out⟩, ⟨by repeat (first | (with_reducible first | exact HB.out | apply below_alloc | apply pw_below_drewN | apply below_drew1) | exact HB.out)⟩⟩
   case round =>
    clear H'
    try clear c2
    try clear c2b0
    try clear c2b1
    try clear p2
    try clear c3
    try clear c3b0
    try clear c3b1
    obtain ⟨x4_1, x5_1, x14_1, rfl, rfl, HA, HK1, HO_4, HB⟩ := hrel
    cases gk with
    | zero => exact absurd HA.out (by simp [weigh_Rescale.l0])
    | succ k1 =>
     have H := HA.out
     clear HA
     simp only [weigh_Rescale.l0] at H
     by_cases c6 : x14_1 < (l0.length : Int)
     ·rw [if_pos c6] at H
      have c6b0 : decide (x14_1 < (l0.length : Int)) = true := decide_eq_true c6
      clear c6
      by_cases c7 : 0 ≤ x14_1
      ·rw [if_pos c7] at H
       have c7b0 : decide (0 ≤ x14_1) = true := decide_eq_true c7
       clear c7
       by_cases c8 : x14_1 < (l0.length : Int)
       ·rw [if_pos c8] at H
        have c8b0 : decide (x14_1 < (l0.length : Int)) = true := decide_eq_true c8
        clear c8
        replace H := Option.bind_eq_some_iff.mp H
        obtain ⟨t108, A90, H⟩ := H
        replace H : (if x14_1 < (x4_1.length : Int) then ((some (x4_1.set (x14_1 : Int).toNat t108 : List Nat)).bind fun y109 => (if x5_1 = true then (weigh_Rescale.l0 k1 y109 true l0 (l0.length : Int) (wrap64 (x14_1 + 1))) else ((math_Abs.f (rdOf (0 : Nat) y109 x14_1)).bind fun t111 => (weigh_Rescale.l0 k1 y109 (fGt t111 6103021453049119613) l0 (l0.length : Int) (wrap64 (x14_1 + 1)))))) else (none)) = some (r1, r2) := H
        have A9 := Aside0.mk A90
        clear A90
        by_cases c10 : x14_1 < (x4_1.length : Int)
        ·rw [if_pos c10] at H
         have c10b0 : decide (x14_1 < (x4_1.length : Int)) = true := decide_eq_true c10
         clear c10
         obtain ⟨y109, hy109⟩ : ∃ y_ : List Nat, y_ = (x4_1.set (x14_1 : Int).toNat t108) := ⟨_, rfl⟩
         replace H : (if x5_1 = true then (weigh_Rescale.l0 k1 y109 true l0 (l0.length : Int) (wrap64 (x14_1 + 1))) else ((math_Abs.f (rdOf (0 : Nat) y109 x14_1)).bind fun t111 => (weigh_Rescale.l0 k1 y109 (fGt t111 6103021453049119613) l0 (l0.length : Int) (wrap64 (x14_1 + 1))))) = some (r1, r2) := by first | (rw [hy109]; with_reducible exact H) | (have H2_ := (Option.bind_some _ _).symm.trans H; rw [hy109]; with_reducible exact H2_) | (have H2_ := (Option.bind_some _ _).symm.trans H; with_reducible exact H2_) | with_reducible exact H | (rw [hy109]; exact H) | exact H
         have Ny109 := Aside0.mk hy109
         clear hy109
         by_cases c12 : x5_1 = true
         ·subst c12
          have H1 : (weigh_Rescale.l0 k1 y109 true l0 (l0.length : Int) (wrap64 (x14_1 + 1))) = some (r1, r2) := by rw [if_pos rfl] at H; exact H
          clear H
          have H := H1
          clear H1
          have H' := Aside0.mk H
          clear H
          have p107 : 0 ≤ (x14_1 : Int) := of_decide_eq_true (by first | (with_reducible assumption) | assumption)
          have q107 : x14_1 < (l0.length : Int) := of_decide_eq_true (by first | (with_reducible assumption) | assumption)
          obtain ⟨ad107, e107, hx107_0⟩ := Kd.at_f64 HR0.out x14_1 p107 q107
          cases e107
          replace hx107_0 := (HB.out.cell (World.block_lt_of_cell? w _ hx107_0)).trans hx107_0
          replace p107 := eq_true p107
          replace q107 := eq_true q107
          go_wp2_with (first | ((with_reducible refine gate_callee (f := 44) rfl ?_); refine goesL_ (some 22) rfl rfl Try.func44 (by kernel_rfl) rfl #[.float .f64 (rdOf (0 : Nat) l0 x14_1)] rfl (by (try simp only [List.map_toArray, List.map_cons, List.map_nil]); first | done | rfl | (simp only [List.length_drop, List.length_take]; rfl)) ?_; (with_reducible refine (weigh_Tame.calls (rdOf (0 : Nat) l0 x14_1) t108 _ A9.out).mono ?_); rintro e w' ⟨rfl, ⟨nd, rfl⟩⟩; refine ⟨_, rfl, ?_⟩; (try (rw [drewN_self wr]; generalize hq_ : World.drewN wr _ = wr; have n0_ : Aside0 (Kd.R Kd.f64 44 wr w.heap.size (fun _ => True) v105 x4_1) := ⟨by rw [← hq_]; exact (by (with_reducible repeat (first | apply Kd.R_alloc | apply Kd.R_drewN | apply Kd.R_drew)); exact HO_4.out)⟩; have n1_ : Aside0 (Below w.heap.size w wr) := ⟨by rw [← hq_]; exact (by repeat (first | (with_reducible first | exact HB.out | apply below_alloc | apply pw_below_drewN | apply below_drew1) | exact HB.out))⟩; clear HO_4 HB hq_; have HO_4 := n0_; have HB := n1_; clear n0_ n1_)); have p11 : 0 ≤ (x14_1 : Int) := of_decide_eq_true (by first | (with_reducible assumption) | assumption); have q11 : (x14_1 : Int) < ((x4_1.length : Int) : Int) := of_decide_eq_true (by first | (with_reducible assumption) | assumption); obtain ⟨go11, co11, eo11, gb11, gl11, cl11, HG11⟩ := Kd.R_form HO_4.out (by omega); (first | cases eo11 | (injection eo11 with ea_ en_ ec_; (first | subst ea_ | (injection ea_ with ea_; subst ea_)); subst ec_; clear en_)); have GB11 := Aside0.mk gb11; have GG11 := Aside0.mk HG11; clear gb11 gl11 HG11; obtain ⟨hx11_0, hf11_0⟩ := Kd.R_celln (0 : Nat) HO_4.out (x14_1 : Int) p11 q11; replace p11 := eq_true p11; replace q11 := eq_true q11; obtain ⟨hy13_, hz13_⟩ := Kd.R_celln (0 : Nat) HO_4.out (x14_1 : Int) (of_decide_eq_true (by first | (with_reducible assumption) | assumption)) (of_decide_eq_true (by first | (with_reducible assumption) | assumption)); have HP13 := Kd.R_putg HO_4.out (x14_1 : Int) t108) | ((with_reducible refine gate_store (t := 44) (p := 23) rfl ?_); refine store_event (t := 44) (p := 23) (v := ?vo_w14) (w1 := (wr.setCell ⟨go11, (x14_1 : Int).toNat, none⟩ (.float .f64 t108))) ?hg ?ho ?hn ?hr ?_; (case ho => rfl); (case hg => rfl); (case hn => rfl); (case hr => first | (go_simp; done) | (go_simp; rfl)); intro w14 hw; have hg : wr.grownBy w14 (some go11) := (by rw [hw]; exact HP13.2); have hp_ : Kd.R Kd.f64 44 w14 w.heap.size (fun _ => True) (.slice (some ⟨go11, 0, none⟩) x4_1.length co11) y109 := (by rw [hw, Ny109.out]; exact HP13.1); clear HP13; have n0_ := Aside0.mk (hp_); have n1_ := Aside0.mk ((by rw [hw]; exact below_set (HB.out) GB11.out : Below w.heap.size w w14)); clear HO_4; clear HB; have HO_4 := n0_; have HB := n1_; clear n0_ n1_; clear hg hw hp_))
          go_roundg k1
          case measure => have := HK1.out; omega
          case rel => exact ⟨(y109), (true), (wrap64 (x14_1 + 1)), (by first | rfl | (simp; done) | (simp [*]; done)), (by first | rfl | (simp; done) | (simp [*]; done)), H', ⟨by have := HK1.out; omega⟩, ⟨by (with_reducible repeat (first | apply Kd.R_alloc | apply Kd.R_drewN | apply Kd.R_drew)); exact HO_4.out⟩, ⟨by repeat (first | (with_reducible first | exact HB.out | apply below_alloc | apply pw_below_drewN | apply below_drew1) | exact HB.out)⟩⟩
         ·replace c12 := Bool.eq_false_iff.mpr c12
          subst c12
          have H1 : ((math_Abs.f (rdOf (0 : Nat) y109 x14_1)).bind fun t111 => (weigh_Rescale.l0 k1 y109 (fGt t111 6103021453049119613) l0 (l0.length : Int) (wrap64 (x14_1 + 1)))) = some (r1, r2) := by rw [if_neg (show ¬ (false = true) by decide)] at H; exact H
          clear H
          have H := H1
          clear H1
          replace H := Option.bind_eq_some_iff.mp H
          obtain ⟨t111, A150, H⟩ := H
          replace H : (weigh_Rescale.l0 k1 y109 (fGt t111 6103021453049119613) l0 (l0.length : Int) (wrap64 (x14_1 + 1))) = some (r1, r2) := H
          have A15 := Aside0.mk A150
          clear A150
          have H' := Aside0.mk H
          clear H
          have p107 : 0 ≤ (x14_1 : Int) := of_decide_eq_true (by first | (with_reducible assumption) | assumption)
          have q107 : x14_1 < (l0.length : Int) := of_decide_eq_true (by first | (with_reducible assumption) | assumption)
          obtain ⟨ad107, e107, hx107_0⟩ := Kd.at_f64 HR0.out x14_1 p107 q107
          cases e107
          replace hx107_0 := (HB.out.cell (World.block_lt_of_cell? w _ hx107_0)).trans hx107_0
          replace p107 := eq_true p107
          replace q107 := eq_true q107
          go_wp2_with (first | ((with_reducible refine gate_callee (f := 44) rfl ?_); refine goesL_ (some 22) rfl rfl Try.func44 (by kernel_rfl) rfl #[.float .f64 (rdOf (0 : Nat) l0 x14_1)] rfl (by (try simp only [List.map_toArray, List.map_cons, List.map_nil]); first | done | rfl | (simp only [List.length_drop, List.length_take]; rfl)) ?_; (with_reducible refine (weigh_Tame.calls (rdOf (0 : Nat) l0 x14_1) t108 _ A9.out).mono ?_); rintro e w' ⟨rfl, ⟨nd, rfl⟩⟩; refine ⟨_, rfl, ?_⟩; (try (rw [drewN_self wr]; generalize hq_ : World.drewN wr _ = wr; have n0_ : Aside0 (Kd.R Kd.f64 44 wr w.heap.size (fun _ => True) v105 x4_1) := ⟨by rw [← hq_]; exact (by (with_reducible repeat (first | apply Kd.R_alloc | apply Kd.R_drewN | apply Kd.R_drew)); exact HO_4.out)⟩; have n1_ : Aside0 (Below w.heap.size w wr) := ⟨by rw [← hq_]; exact (by repeat (first | (with_reducible first | exact HB.out | apply below_alloc | apply pw_below_drewN | apply below_drew1) | exact HB.out))⟩; clear HO_4 HB hq_; have HO_4 := n0_; have HB := n1_; clear n0_ n1_)); have p11 : 0 ≤ (x14_1 : Int) := of_decide_eq_true (by first | (with_reducible assumption) | assumption); have q11 : (x14_1 : Int) < ((x4_1.length : Int) : Int) := of_decide_eq_true (by first | (with_reducible assumption) | assumption); obtain ⟨go11, co11, eo11, gb11, gl11, cl11, HG11⟩ := Kd.R_form HO_4.out (by omega); (first | cases eo11 | (injection eo11 with ea_ en_ ec_; (first | subst ea_ | (injection ea_ with ea_; subst ea_)); subst ec_; clear en_)); have GB11 := Aside0.mk gb11; have GG11 := Aside0.mk HG11; clear gb11 gl11 HG11; obtain ⟨hx11_0, hf11_0⟩ := Kd.R_celln (0 : Nat) HO_4.out (x14_1 : Int) p11 q11; replace p11 := eq_true p11; replace q11 := eq_true q11; obtain ⟨hy16_, hz16_⟩ := Kd.R_celln (0 : Nat) HO_4.out (x14_1 : Int) (of_decide_eq_true (by first | (with_reducible assumption) | assumption)) (of_decide_eq_true (by first | (with_reducible assumption) | assumption)); have HP16 := Kd.R_putg HO_4.out (x14_1 : Int) t108) | ((with_reducible refine gate_store (t := 44) (p := 23) rfl ?_); refine store_event (t := 44) (p := 23) (v := ?vo_w17) (w1 := (wr.setCell ⟨go11, (x14_1 : Int).toNat, none⟩ (.float .f64 t108))) ?hg ?ho ?hn ?hr ?_; (case ho => rfl); (case hg => rfl); (case hn => rfl); (case hr => first | (go_simp; done) | (go_simp; rfl)); intro w17 hw; have hg : wr.grownBy w17 (some go11) := (by rw [hw]; exact HP16.2); have hp_ : Kd.R Kd.f64 44 w17 w.heap.size (fun _ => True) (.slice (some ⟨go11, 0, none⟩) x4_1.length co11) y109 := (by rw [hw, Ny109.out]; exact HP16.1); clear HP16; have n0_ := Aside0.mk (hp_); have n1_ := Aside0.mk ((by rw [hw]; exact below_set (HB.out) GB11.out : Below w.heap.size w w17)); clear HO_4; clear HB; have HO_4 := n0_; have HB := n1_; clear n0_ n1_; clear hg hw hp_; have p110 : 0 ≤ (x14_1 : Int) := of_decide_eq_true (by first | (with_reducible assumption) | assumption); have q110 : x14_1 < (y109.length : Int) := (by have h_ : (x14_1 : Int) < ((x4_1.length : Int) : Int) := of_decide_eq_true (by first | (with_reducible assumption) | assumption); first | (have e_ := (Kd.R_reads' HO_4.out).1; omega) | simpa only [Ny109.out, List.length_set] using h_); have ql110 : ((x14_1 : Int) < ((x4_1.length : Int) : Int)) = True := eq_true (of_decide_eq_true (by first | (with_reducible assumption) | assumption)); obtain ⟨ad110, e110, hx110_0⟩ := Kd.at_f64 (Kd.R_reads' HO_4.out).2.2 x14_1 p110 q110; obtain rfl : (⟨go11, 0, none⟩ : Addr) = ad110 := (by injection e110); (first | simp only [add_plain] at hx110_0 | simp only [add_at] at hx110_0 | simp only [Addr.add, Nat.zero_add] at hx110_0 | skip); replace p110 := eq_true p110; replace q110 := eq_true q110) | (go_at_call 45; (with_reducible refine (math_Abs.calls (rdOf (0 : Nat) y109 x14_1) t111 _ A15.out).mono ?_); rintro e w' ⟨rfl, ⟨nd, rfl⟩⟩))
          go_roundg k1
          case measure => have := HK1.out; omega
          case rel => exact ⟨(y109), (fGt t111 6103021453049119613), (wrap64 (x14_1 + 1)), (by first | rfl | (simp; done) | (simp [*]; done)), (by first | rfl | (simp; done) | (simp [*]; done)), H', ⟨by have := HK1.out; omega⟩, ⟨by (with_reducible repeat (first | apply Kd.R_alloc | apply Kd.R_drewN | apply Kd.R_drew)); exact HO_4.out⟩, ⟨by repeat (first | (with_reducible first | exact HB.out | apply below_alloc | apply pw_below_drewN | apply below_drew1) | exact HB.out)⟩⟩
        ·rw [if_neg c10] at H
         exact absurd H (by simp)
       ·rw [if_neg c8] at H
        exact absurd H (by simp)
      ·rw [if_neg c7] at H
       exact absurd H (by simp)
     ·rw [if_neg c6] at H
      have c6b0 : decide (x14_1 < (l0.length : Int)) = false := decide_eq_false c6
      clear c6
      have H' := Aside0.mk H
      clear H
      obtain ⟨Ao18, co18, eo18⟩ := Kd.R_slice HO_4.out
      subst eo18
      go_wp2
      go_loopg [36] k1 (fun kq v36 w' => ∃ (x4_2 : List Nat) (x36_2 : Int), v36 = .int .i64 x36_2 ∧ Aside0 (weigh_Rescale.l1 kq x4_2 x5_1 (x4_1.length : Int) x36_2 = some (r1, r2)) ∧ Aside0 (kq ≤ k1) ∧ Aside0 (Kd.R Kd.f64 44 w' w.heap.size (fun _ => True) (.slice Ao18 x4_1.length co18) x4_2) ∧ Aside0 (Below w.heap.size w w'))
      case atStart => exact ⟨(x4_1), (0), (by first | rfl | (simp; done) | (simp [*]; done)), H', ⟨Nat.le_refl _⟩, ⟨by (with_reducible repeat (first | apply Kd.R_alloc | apply Kd.R_drewN | apply Kd.R_drew)); exact HO_4.out⟩, ⟨by repeat (first | (with_reducible first | exact HB.out | apply below_alloc | apply pw_below_drewN | apply below_drew1) | exact HB.out)⟩⟩
      case round =>
       clear H'
       try clear c1
       try clear p1
       try clear q1
       try clear hx1
       try clear hf1
       try clear c2
       try clear c2b0
       try clear c2b1
       try clear p2
       try clear c3
       try clear c3b0
       try clear c3b1
       try clear c4
       try clear c6
       try clear c6b0
       try clear p6
       try clear c7
       try clear c7b0
       try clear c8
       try clear c8b0
       try clear c10
       try clear c10b0
       try clear p10
       try clear q10
       try clear hx10
       try clear p11
       try clear q11
       try clear hx11
       try clear hf11
       try clear c12
       try clear hx107_0
       try clear hx110_0
       try clear hx11_0
       try clear p107
       try clear p11
       try clear p110
       try clear p2
       try clear q107
       try clear q11
       try clear q110
       obtain ⟨x4_2, x36_2, rfl, HA, HK2, HO_4, HB⟩ := hrel
       have hl4_2 := (Kd.R_reads' HO_4.out).1
       rw [hl4_2] at HO_4
       (try simp only [hl4_2])
       cases gk with
       | zero => exact absurd HA.out (by simp [weigh_Rescale.l1])
       | succ k2 =>
        have H := HA.out
        clear HA
        simp only [weigh_Rescale.l1] at H
        by_cases c19 : x36_2 < (x4_1.length : Int)
        ·rw [if_pos c19] at H
         have c19b0 : decide (x36_2 < (x4_1.length : Int)) = true := decide_eq_true c19; (try rw [hl4_2] at c19b0)
         clear c19
         by_cases c20 : x5_1 = true
         ·subst c20
          have H1 : (if 0 ≤ x36_2 then (if x36_2 < (x4_2.length : Int) then (if fMulOk (rdOf (0 : Nat) x4_2 x36_2) 3110860544497550640 = true then (weigh_Rescale.l1 k2 (x4_2.set (x36_2 : Int).toNat (fMul (rdOf (0 : Nat) x4_2 x36_2) 3110860544497550640)) true (x4_1.length : Int) (wrap64 (x36_2 + 1))) else (none)) else (none)) else (none)) = some (r1, r2) := by rw [if_pos rfl] at H; exact H
          clear H
          have H := H1
          clear H1
          by_cases c21 : 0 ≤ x36_2
          ·rw [if_pos c21] at H
           have c21b0 : decide (0 ≤ x36_2) = true := decide_eq_true c21
           clear c21
           by_cases c22 : x36_2 < (x4_2.length : Int)
           ·rw [if_pos c22] at H
            have c22b0 : decide (x36_2 < (x4_2.length : Int)) = true := decide_eq_true c22
            clear c22
            by_cases c23 : fMulOk (rdOf (0 : Nat) x4_2 x36_2) 3110860544497550640 = true
            ·rw [if_pos c23] at H
             have c23b0 := eq_true c23
             have c23b1 : decide (fMulOk (rdOf (0 : Nat) x4_2 x36_2) 3110860544497550640 = true) = true := decide_eq_true c23
             clear c23
             obtain ⟨y113, hy113⟩ : ∃ y_ : List Nat, y_ = (x4_2.set (x36_2 : Int).toNat (fMul (rdOf (0 : Nat) x4_2 x36_2) 3110860544497550640)) := ⟨_, rfl⟩
             replace H : (weigh_Rescale.l1 k2 y113 true (x4_1.length : Int) (wrap64 (x36_2 + 1))) = some (r1, r2) := by first | (rw [hy113]; with_reducible exact H) | (have H2_ := (Option.bind_some _ _).symm.trans H; rw [hy113]; with_reducible exact H2_) | (have H2_ := (Option.bind_some _ _).symm.trans H; with_reducible exact H2_) | with_reducible exact H | (rw [hy113]; exact H) | exact H
             have Ny113 := Aside0.mk hy113
             clear hy113
             have H' := Aside0.mk H
             clear H
             have p112 : 0 ≤ (x36_2 : Int) := of_decide_eq_true (by first | (with_reducible assumption) | assumption)
             have q112 : x36_2 < (x4_2.length : Int) := of_decide_eq_true (by first | (with_reducible assumption) | assumption)
             obtain ⟨ad112, e112, hx112_0⟩ := Kd.at_f64 (Kd.R_reads' HO_4.out).2.2 x36_2 p112 q112
             cases e112
             replace p112 := eq_true p112
             replace q112 := eq_true q112
             have p24 : 0 ≤ (x36_2 : Int) := of_decide_eq_true (by first | (with_reducible assumption) | assumption)
             have q24 : (x36_2 : Int) < ((x4_2.length : Int) : Int) := of_decide_eq_true (by first | (with_reducible assumption) | assumption)
             obtain ⟨go24, co24, eo24, gb24, gl24, cl24, HG24⟩ := Kd.R_form HO_4.out (by omega)
             (first | cases eo24 | (injection eo24 with ea_ en_ ec_; (first | subst ea_ | (injection ea_ with ea_; subst ea_)); subst ec_; clear en_))
             have GB24 := Aside0.mk gb24
             have GG24 := Aside0.mk HG24
             clear gb24 gl24 HG24
             (first | simp only [add_plain] at hx112_0 | skip)
             obtain ⟨hx24_0, hf24_0⟩ := Kd.R_celln (0 : Nat) HO_4.out (x36_2 : Int) p24 q24
             replace p24 := eq_true p24
             replace q24 := eq_true q24
             have HP25 := Kd.R_putg HO_4.out (x36_2 : Int) (fMul (rdOf (0 : Nat) x4_2 x36_2) 3110860544497550640)
             go_wp2_with (first | ((with_reducible refine gate_store (t := 44) (p := 45) rfl ?_); refine store_event (t := 44) (p := 45) (v := ?vo_w26) (w1 := (wr.setCell ⟨go24, (x36_2 : Int).toNat, none⟩ (.float .f64 (fMul (rdOf (0 : Nat) x4_2 x36_2) 3110860544497550640)))) ?hg ?ho ?hn ?hr ?_; (case ho => rfl); (case hg => rfl); (case hn => rfl); (case hr => first | (go_simp; done) | (go_simp; rfl)); intro w26 hw; have hg : wr.grownBy w26 (some go24) := (by rw [hw]; exact HP25.2); have hp_ : Kd.R Kd.f64 44 w26 w.heap.size (fun _ => True) (.slice (some ⟨go24, 0, none⟩) x4_2.length co18) y113 := (by rw [hw, Ny113.out]; exact HP25.1); clear HP25; have n0_ := Aside0.mk (hp_); have n1_ := Aside0.mk ((by rw [hw]; exact below_set (HB.out) GB24.out : Below w.heap.size w w26)); clear HO_4; clear HB; have HO_4 := n0_; have HB := n1_; clear n0_ n1_; clear hg hw hp_))
             (try simp only [← hl4_2])
             go_roundg k2
             case measure => have := HK1.out; have := HK2.out; omega
             case rel => exact ⟨(y113), (wrap64 (x36_2 + 1)), (by first | rfl | (simp; done) | (simp [*]; done)), H', ⟨by have := HK1.out; have := HK2.out; omega⟩, ⟨by (try simp only [hl4_2]); (with_reducible repeat (first | apply Kd.R_alloc | apply Kd.R_drewN | apply Kd.R_drew)); exact HO_4.out⟩, ⟨by repeat (first | (with_reducible first | exact HB.out | apply below_alloc | apply pw_below_drewN | apply below_drew1) | exact HB.out)⟩⟩
            ·rw [if_neg c23] at H
             exact absurd H (by simp)
           ·rw [if_neg c22] at H
            exact absurd H (by simp)
          ·rw [if_neg c21] at H
           exact absurd H (by simp)
         ·replace c20 := Bool.eq_false_iff.mpr c20
          subst c20
          have H1 : (weigh_Rescale.l1 k2 x4_2 false (x4_1.length : Int) (wrap64 (x36_2 + 1))) = some (r1, r2) := by rw [if_neg (show ¬ (false = true) by decide)] at H; exact H
          clear H
          have H := H1
          clear H1
          have H' := Aside0.mk H
          clear H
          go_wp2
          (try simp only [← hl4_2])
          go_roundg k2
          case measure => have := HK1.out; have := HK2.out; omega
          case rel => exact ⟨(x4_2), (wrap64 (x36_2 + 1)), (by first | rfl | (simp; done) | (simp [*]; done)), H', ⟨by have := HK1.out; have := HK2.out; omega⟩, ⟨by (try simp only [hl4_2]); (with_reducible repeat (first | apply Kd.R_alloc | apply Kd.R_drewN | apply Kd.R_drew)); exact HO_4.out⟩, ⟨by repeat (first | (with_reducible first | exact HB.out | apply below_alloc | apply pw_below_drewN | apply below_drew1) | exact HB.out)⟩⟩
        ·rw [if_neg c19] at H
         have c19b0 : decide (x36_2 < (x4_1.length : Int)) = false := decide_eq_false c19; (try rw [hl4_2] at c19b0)
         clear c19
         simp only [Option.some.injEq, Prod.mk.injEq] at H
         obtain ⟨rfl, rfl⟩ := H
         go_wp2
         go_ret2
         exact ⟨_, by first | rfl | (simp [errW_none, errW_some] <;> rfl) | (simp [*, errW_none, errW_some] <;> rfl), by (with_reducible repeat (first | apply Kd.R_alloc | apply Kd.R_drewN | apply Kd.R_drew)); exact HO_4.out, by repeat (first | (with_reducible first | exact HB.out | apply below_alloc | apply pw_below_drewN | apply below_drew1) | exact HB.out)⟩
  ·rw [if_neg c3] at H
   exact absurd H (by simp)
 ·rw [if_neg c2] at H
  exact absurd H (by simp)

/-! ### math_Signbit: function 61 -/
def math_Signbit.f (a0 : Nat) : Option (Bool) := some (decide ((wrap64 (((a0 : Nat) : Int))) < 0))
set_option maxHeartbeats 8000000 in
set_option maxRecDepth 100000 in
theorem math_Signbit.calls (a0 : Nat) (r : Bool) (w : World) (h : math_Signbit.f a0 = some r) :
  Calls Try.prog 61 #[.float .f64 a0] w fun e w' => e = .returned (.bool r) ∧ Drawn0 w w' := by
 have H : (some (decide ((wrap64 (((a0 : Nat) : Int))) < 0))) = some r := h
 clear h
 obtain rfl := Option.some.inj H
 go_enter Try.func61, Try.ntmps61
 go_wp2
 go_ret
 exact ⟨by first | rfl | (simp; done) | (simp [*]; done), by repeat (first | exact Drawn0.refl _ | apply Drawn0.step)⟩

/-! ### weigh_Less: function 54 -/
def weigh_Less.j0 : Nat → Nat → Nat → Bool → Option (Bool)
 | 0, _, _, _ => none
 | k + 1, x0, x1, x13 => if x13 = true then ((math_Signbit.f x0).bind fun t114 => (if t114 = true then ((math_Signbit.f x1).bind fun t115 => (some (!t115))) else (some false))) else (some (fLt x0 x1))
def weigh_Less.f (k : Nat) (a0 : Nat) (a1 : Nat) : Option (Bool) := if fNe a1 a1 = true then (some false) else (if fNe a0 a0 = true then (some true) else (if fEq a0 0 = true then (weigh_Less.j0 k a0 a1 (fEq a1 0)) else (weigh_Less.j0 k a0 a1 false)))
theorem weigh_Less.mono_l : ∀ k, (∀ y0 y1 y2, LeO (weigh_Less.j0 k y0 y1 y2) (weigh_Less.j0 (k + 1) y0 y1 y2))
 | 0 => fun _ _ _ r h => by simp [weigh_Less.j0] at h
 | k + 1 => by
  have ih0 := weigh_Less.mono_l k
  ·intro y0 y1 y2
   unfold weigh_Less.j0
   repeat' first
   | (with_reducible exact ih0 _ _ _)
   | (with_reducible exact LeO.refl _)
   | (with_reducible exact LeO.none _)
   | (with_reducible refine LeO.ite ?_ ?_)
   | (with_reducible refine LeO.bind ?_ (fun _ => ?_))
   | exact ih0 _ _ _
   | exact LeO.none _
   | refine LeO.ite ?_ ?_
   | refine LeO.bind ?_ (fun _ => ?_)
theorem weigh_Less.mono : ∀ a0 a1 k, LeO (weigh_Less.f k a0 a1) (weigh_Less.f (k + 1) a0 a1) := by
 intro a0 a1 k
 have ih0 := weigh_Less.mono_l k
 unfold weigh_Less.f
 repeat' first
   | (with_reducible exact ih0 _ _ _)
   | (with_reducible exact LeO.refl _)
   | (with_reducible exact LeO.none _)
   | (with_reducible refine LeO.ite ?_ ?_)
   | (with_reducible refine LeO.bind ?_ (fun _ => ?_))
   | exact ih0 _ _ _
   | exact LeO.none _
   | refine LeO.ite ?_ ?_
   | refine LeO.bind ?_ (fun _ => ?_)
set_option maxHeartbeats 8000000 in
set_option maxRecDepth 100000 in
theorem weigh_Less.calls (k : Nat) (a0 : Nat) (a1 : Nat) (r : Bool) (w : World) (h : weigh_Less.f k a0 a1 = some r) :
  Calls Try.prog 54 #[.float .f64 a0, .float .f64 a1] w fun e w' => e = .returned (.bool r) ∧ Drawn0 w w' := by
 have H : (if fNe a1 a1 = true then (some false) else (if fNe a0 a0 = true then (some true) else (if fEq a0 0 = true then (weigh_Less.j0 k a0 a1 (fEq a1 0)) else (weigh_Less.j0 k a0 a1 false)))) = some r := h
 clear h
 by_cases c3 : fNe a1 a1 = true
 ·rw [if_pos c3] at H
  have c3b0 : fNe a1 a1 = true := c3
  clear c3
  obtain rfl := Option.some.inj H
  go_enter Try.func54, Try.ntmps54
  go_wp2
  go_ret
  exact ⟨by first | rfl | (simp; done) | (simp [*]; done), by repeat (first | exact Drawn0.refl _ | apply Drawn0.step)⟩
 ·rw [if_neg c3] at H
  have c3b0 : fNe a1 a1 = false := by simpa using c3
  clear c3
  by_cases c4 : fNe a0 a0 = true
  ·rw [if_pos c4] at H
   have c4b0 : fNe a0 a0 = true := c4
   clear c4
   obtain rfl := Option.some.inj H
   go_enter Try.func54, Try.ntmps54
   go_wp2
   go_ret
   exact ⟨by first | rfl | (simp; done) | (simp [*]; done), by repeat (first | exact Drawn0.refl _ | apply Drawn0.step)⟩
  ·rw [if_neg c4] at H
   have c4b0 : fNe a0 a0 = false := by simpa using c4
   clear c4
   have HC5 := Aside0.mk H
   clear H
   go_enter Try.func54, Try.ntmps54
   go_upto_region 5 with (fail)
   go_cut [13] (fun v13 wc => ∃ (kq : Nat) (x13_4 : Bool), v13 = .bool x13_4 ∧ Aside0 (weigh_Less.j0 kq a0 a1 x13_4 = some r) ∧ Aside0 (kq ≤ k) ∧ Drawn0 w wc)
   case first =>
    have H := HC5.out
    clear HC5
    by_cases c6 : fEq a0 0 = true
    ·rw [if_pos c6] at H
     have c6b0 : fEq a0 0 = true := c6
     clear c6
     (first | rw [c6b0] | (simp only [i64_w, i32_w]; rw [c6b0]) | skip)
     have H' := Aside0.mk H
     clear H
     go_wp2
     go_meet
     case rel => exact ⟨_, (fEq a1 0), (by first | rfl | (simp; done) | (simp [*]; done)), H', ⟨by first | omega | exact Nat.le_refl _⟩, by repeat (first | exact Drawn0.refl _ | apply Drawn0.step)⟩
    ·rw [if_neg c6] at H
     have c6b0 : fEq a0 0 = false := by simpa using c6
     clear c6
     (first | rw [c6b0] | (simp only [i64_w, i32_w]; rw [c6b0]) | skip)
     have H' := Aside0.mk H
     clear H
     go_wp2
     go_meet
     case rel => exact ⟨_, (false), (by first | rfl | (simp; done) | (simp [*]; done)), H', ⟨by first | omega | exact Nat.le_refl _⟩, by repeat (first | exact Drawn0.refl _ | apply Drawn0.step)⟩
   case rest =>
    clear HC5
    try clear p2
    try clear c3
    try clear c3b0
    try clear c4
    try clear c4b0
    try clear c5
    try clear c6
    try clear c6b0
    obtain ⟨kq, x13_4, rfl, HA, HJ4, ⟨mc4, rfl⟩⟩ := hcut
    cases kq with
    | zero => exact absurd HA.out (by simp [weigh_Less.j0])
    | succ kj4 =>
     have H := HA.out
     clear HA
     simp only [weigh_Less.j0] at H
     by_cases c7 : x13_4 = true
     ·subst c7
      have H1 : ((math_Signbit.f a0).bind fun t114 => (if t114 = true then ((math_Signbit.f a1).bind fun t115 => (some (!t115))) else (some false))) = some r := by rw [if_pos rfl] at H; exact H
      clear H
      have H := H1
      clear H1
      replace H := Option.bind_eq_some_iff.mp H
      obtain ⟨t114, A80, H⟩ := H
      replace H : (if t114 = true then ((math_Signbit.f a1).bind fun t115 => (some (!t115))) else (some false)) = some r := H
      have A8 := Aside0.mk A80
      clear A80
      by_cases c9 : t114 = true
      ·subst c9
       have H1 : ((math_Signbit.f a1).bind fun t115 => (some (!t115))) = some r := by rw [if_pos rfl] at H; exact H
       clear H
       have H := H1
       clear H1
       replace H := Option.bind_eq_some_iff.mp H
       obtain ⟨t115, A100, H⟩ := H
       replace H : (some (!t115)) = some r := H
       have A10 := Aside0.mk A100
       clear A100
       obtain rfl := Option.some.inj H
       go_wp2_with (first | ((with_reducible refine gate_callee (f := 61) rfl ?_); refine goesL_ (some 21) rfl rfl Try.func61 (by kernel_rfl) rfl #[.float .f64 a0] rfl (by (try simp only [List.map_toArray, List.map_cons, List.map_nil]); first | done | rfl | (simp only [List.length_drop, List.length_take]; rfl)) ?_; (with_reducible refine (math_Signbit.calls a0 true _ A8.out).mono ?_); rintro e w' ⟨rfl, ⟨nd, rfl⟩⟩; refine ⟨_, rfl, ?_⟩) | (go_at_call 61; (with_reducible refine (math_Signbit.calls a1 t115 _ A10.out).mono ?_); rintro e w' ⟨rfl, ⟨nd, rfl⟩⟩))
       go_ret
       exact ⟨by first | rfl | (simp; done) | (simp [*]; done), by repeat (first | exact Drawn0.refl _ | apply Drawn0.step)⟩
      ·replace c9 := Bool.eq_false_iff.mpr c9
       subst c9
       have H1 : (some false) = some r := by rw [if_neg (show ¬ (false = true) by decide)] at H; exact H
       clear H
       have H := H1
       clear H1
       obtain rfl := Option.some.inj H
       go_wp2_with (first | ((with_reducible refine gate_callee (f := 61) rfl ?_); refine goesL_ (some 21) rfl rfl Try.func61 (by kernel_rfl) rfl #[.float .f64 a0] rfl (by (try simp only [List.map_toArray, List.map_cons, List.map_nil]); first | done | rfl | (simp only [List.length_drop, List.length_take]; rfl)) ?_; (with_reducible refine (math_Signbit.calls a0 false _ A8.out).mono ?_); rintro e w' ⟨rfl, ⟨nd, rfl⟩⟩; refine ⟨_, rfl, ?_⟩))
       go_ret
       exact ⟨by first | rfl | (simp; done) | (simp [*]; done), by repeat (first | exact Drawn0.refl _ | apply Drawn0.step)⟩
     ·replace c7 := Bool.eq_false_iff.mpr c7
      subst c7
      have H1 : (some (fLt a0 a1)) = some r := by rw [if_neg (show ¬ (false = true) by decide)] at H; exact H
      clear H
      have H := H1
      clear H1
      obtain rfl := Option.some.inj H
      go_wp2
      go_ret
      exact ⟨by first | rfl | (simp; done) | (simp [*]; done), by repeat (first | exact Drawn0.refl _ | apply Drawn0.step)⟩

/-! ### weigh_Heavy: function 40 -/
/-- Less, as a Bool. -/
def lessB (a b : Nat) : Bool := (weigh_Less.f 1 a b).getD false
theorem ite_some {α : Type} {c : Prop} [Decidable c] {a b : Option α} (ha : ∃ r, a = some r) (hb : ∃ r, b = some r) : ∃ r, (if c then a else b) = some r := by
 split
 ·exact ha
 ·exact hb
theorem less_some (a b : Nat) : weigh_Less.f 1 a b = some (lessB a b) := by
 have hj : ∀ x, ∃ r, weigh_Less.j0 1 a b x = some r := by
  intro x
  simp only [weigh_Less.j0]
  exact ite_some (by unfold math_Signbit.f; rw [Option.bind_some]; refine ite_some ?_ ⟨_, rfl⟩; rw [Option.bind_some]; exact ⟨_, rfl⟩) ⟨_, rfl⟩
 have : ∃ r, weigh_Less.f 1 a b = some r := by
  unfold weigh_Less.f
  exact ite_some ⟨_, rfl⟩ (ite_some ⟨_, rfl⟩ (ite_some (hj _) (hj _)))
 obtain ⟨r, hr⟩ := this
 unfold lessB
 rw [hr]; rfl
/-- The place of the greatest of the first k elements. -/
def heavyK (l : List Nat) : Nat → Int
 | 0 => -1
 | k + 1 => if heavyK l k < 0 ∨ lessB (rdOf (0 : Nat) l (heavyK l k)) (rdOf (0 : Nat) l k) = true then (k : Int) else heavyK l k
theorem heavyK_bd (l : List Nat) (k : Nat) : -1 ≤ heavyK l k ∧ heavyK l k < k := by
 induction k with
 | zero => unfold heavyK; omega
 | succ k ih => unfold heavyK; split <;> omega
def weigh_Heavy.f (l0 : List Nat) : Option (Int) := if l0.length ≤ 35184372088832 then some (heavyK l0 l0.length) else none
set_option maxHeartbeats 8000000 in
set_option maxRecDepth 100000 in
theorem heavy1_neg (A : Option Addr) (c : Nat) (l : List Nat) (bl ba : Nat) (i : Int) (x : Nat) (w : World) (hl : w.cell? ⟨bl, 0, none⟩ = some (.slice A l.length c)) (ha : w.cell? ⟨ba, 0, none⟩ = some (.int .i64 i)) (hi : i < 0) :
  Calls Try.prog 53 #[.float .f64 x, .pointer (some ⟨ba, 0, none⟩), .pointer (some ⟨bl, 0, none⟩)] w fun e w' => e = .returned (.bool true) ∧ Drawn0 w w' := by
 have hd : decide (i < 0) = true := decide_eq_true hi
 clear hi
 go_enter Try.func53, Try.ntmps53
 go_wp2
 repeat (go_quiet (fail); try go_wp2)
 go_ret
 exact ⟨by first | rfl | (simp; done) | (simp [*]; done), by repeat (first | exact Drawn0.refl _ | apply Drawn0.step)⟩
set_option maxHeartbeats 8000000 in
set_option maxRecDepth 100000 in
theorem heavy1_pos (A : Option Addr) (c : Nat) (l : List Nat) (bl ba : Nat) (i : Int) (x : Nat) (w : World) (hl : w.cell? ⟨bl, 0, none⟩ = some (.slice A l.length c)) (ha : w.cell? ⟨ba, 0, none⟩ = some (.int .i64 i)) (hr : Kd.f64.C w A l.length l) (h0 : 0 ≤ i) (hi : i < l.length) :
  Calls Try.prog 53 #[.float .f64 x, .pointer (some ⟨ba, 0, none⟩), .pointer (some ⟨bl, 0, none⟩)] w fun e w' => e = .returned (.bool (lessB (rdOf (0 : Nat) l i) x)) ∧ Drawn0 w w' := by
 have hd : decide (i < 0) = false := decide_eq_false (by omega)
 have A7 := Aside0.mk (less_some (rdOf (0 : Nat) l i) x)
 obtain ⟨ad, e, hx⟩ := Kd.at_f64 hr i h0 hi
 subst e
 have d0 : decide (0 ≤ i) = true := decide_eq_true h0
 have d1 : decide (i < (l.length : Int)) = true := decide_eq_true hi
 replace h0 := eq_true h0
 replace hi := eq_true hi
 have HR := Aside0.mk hr
 clear hr
 go_enter Try.func53, Try.ntmps53
 go_wp2_with (first | (go_at_call 54; (with_reducible refine (weigh_Less.calls 1 (rdOf (0 : Nat) l i) x _ _ A7.out).mono ?_); rintro e w' ⟨rfl, ⟨nd, rfl⟩⟩; (try first | exact ⟨rfl, _, World.drewN_drewN _ _ _⟩ | exact ⟨rfl, _, Eq.trans (World.drewN_drewN _ _ _) (congrArg (World.drewN _) (Nat.add_assoc _ _ _))⟩)))
 go_ret
 exact ⟨by first | rfl | (simp; done) | (simp [*]; done), by repeat (first | exact Drawn0.refl _ | apply Drawn0.step)⟩
structure HeavyInv (w : World) (A0 : Option Addr) (c0 : Nat) (l0 : List Nat) (i : Int) (wr : World) : Prop where
 below : Below w.heap.size w wr
 l : wr.cell? ⟨w.heap.size, 0, none⟩ = some (.slice A0 l0.length c0)
 at_ : wr.cell? ⟨w.heap.size + 1, 0, none⟩ = some (.int .i64 i)
 free : wr.frozen? ⟨w.heap.size + 1, 0, none⟩ = false
theorem HeavyInv.drewN {w : World} {A0 : Option Addr} {c0 : Nat} {l0 : List Nat} {i : Int} {wr : World} (h : HeavyInv w A0 c0 l0 i wr) (n : Nat) : HeavyInv w A0 c0 l0 i (wr.drewN n) :=
 ⟨pw_below_drewN h.below n, by rw [World.cell?_drewN]; exact h.l, by rw [World.cell?_drewN]; exact h.at_, by rw [World.frozen?_drewN]; exact h.free⟩
theorem HeavyInv.set {w : World} {A0 : Option Addr} {c0 : Nat} {l0 : List Nat} {i : Int} {wr : World} (h : HeavyInv w A0 c0 l0 i wr) (j : Int) : HeavyInv w A0 c0 l0 j (wr.setCell ⟨w.heap.size + 1, 0, none⟩ (.int .i64 j)) :=
 ⟨h.below.setCell (by simp) _, by rw [World.cell?_setCell_other _ _ _ _ (by simp)]; exact h.l, by rw [World.cell?_setCell_same' _ _ _ (by rw [h.at_]; rfl)], by rw [World.frozen?_setCell]; exact h.free⟩
set_option maxHeartbeats 8000000 in
set_option maxRecDepth 100000 in
theorem weigh_Heavy.calls (A0 : Option Addr) (c0 : Nat) (l0 : List Nat) (r : Int) (w : World) (hr0 : Kd.C Kd.f64 w A0 l0.length l0) (hc0 : l0.length ≤ c0) (h : weigh_Heavy.f l0 = some r) :
  Calls Try.prog 40 #[.slice A0 l0.length c0] w fun e w' => e = .returned (.int .i64 r) ∧ Below w.heap.size w w' := by
 have hmf : ∀ (fn : Fn) (first cap : Array Value) (w : World), (Instr.makeFunc fn first cap).run Try.prog w = .ok (.func fn first cap) w := fun _ _ _ _ => rfl
 unfold weigh_Heavy.f at h
 by_cases hL : l0.length ≤ 35184372088832
 ·rw [if_pos hL] at h
  have HH := Aside0.mk (Option.some.inj h)
  clear h
  have HR0 := Aside0.mk hr0
  clear hr0
  go_enter Try.func40, Try.ntmps40
  go_wp2
  go_loopw [10] (fun v wr => ∃ k : Nat, k ≤ l0.length ∧ v = .int .i64 (k : Int) ∧ HeavyInv w A0 c0 l0 (heavyK l0 k) wr) (fun v _ => l0.length - (intOf v).toNat)
  case atStart =>
   refine ⟨0, Nat.zero_le _, rfl, ⟨?_, ?_, ?_, ?_⟩⟩
   ·exact ((Below.refl _ _).alloc (Nat.le_refl _) _).alloc (by simp) _
   ·rw [World.cell?_alloc_past _ _ _ (by simp), World.cell?_alloc_at _ _ _ _ rfl]; rfl
   ·rw [World.cell?_alloc_at _ _ _ _ (by simp)]; rfl
   ·exact World.frozen?_alloc_at _ _ _ _ (by simp)
  case round =>
   obtain ⟨k, hk, rfl, hinv⟩ := hrel
   have hbd := heavyK_bd l0 k
   have hB := Aside0.mk hinv.below
   have hl := hinv.l
   have ha := hinv.at_
   have hf := hinv.free
   have HI := Aside0.mk hinv
   clear hinv
   have hC : Kd.f64.C wr A0 l0.length l0 := Kd.C_below HR0.out hB.out
   by_cases hlt : k < l0.length
   ·have d0 : decide ((k : Int) < (l0.length : Int)) = true := decide_eq_true (by omega)
    obtain ⟨ad, e, hx⟩ := Kd.at_f64 hC (k : Int) (by omega) (by omega)
    subst e
    have HC := Aside0.mk hC
    clear hC
    have hwr : wrap64 ((k : Int) + 1) = ((k + 1 : Nat) : Int) := by unfold wrap64; omega
    have HW := Aside0.mk hwr
    clear hwr
    simp only [Int.toNat_natCast] at hx
    have hs : heavyK l0 (k + 1) = if heavyK l0 k < 0 ∨ lessB (rdOf (0 : Nat) l0 (heavyK l0 k)) (rdOf (0 : Nat) l0 k) = true then (k : Int) else heavyK l0 k := rfl
    generalize heavyK l0 k = i0 at hs ha hbd HI
    by_cases hn : i0 < 0
    ·rw [if_pos (Or.inl hn)] at hs
     have HS := Aside0.mk hs
     clear hs
     go_wp2_with (first | (go_at_call 53; (with_reducible refine (heavy1_neg _ c0 l0 w.heap.size (w.heap.size + 1) i0 (rdOf (0 : Nat) l0 k) _ hl ha hn).mono ?_); rintro e w' ⟨rfl, ⟨nd, rfl⟩⟩))
     go_roundw
     case rel => exact ⟨k + 1, by omega, rfl, by rw [HS.out]; exact (HI.out.drewN nd).set _⟩
     case measure => simp [intOf]; omega
    ·have c1 := heavy1_pos _ c0 l0 w.heap.size (w.heap.size + 1) i0 (rdOf (0 : Nat) l0 k) wr hl ha HC.out (by omega) (by omega)
     have C1 := Aside0.mk c1
     clear c1
     cases hb : lessB (rdOf (0 : Nat) l0 i0) (rdOf (0 : Nat) l0 k) with
     | true =>
      rw [if_pos (Or.inr hb)] at hs
      have HS := Aside0.mk hs
      clear hs
      rw [hb] at C1
      clear hb hn hbd
      go_wp2_with (first | (go_at_call 53; (with_reducible refine C1.out.mono ?_); rintro e w' ⟨rfl, ⟨nd, rfl⟩⟩))
      go_roundw
      case rel => exact ⟨k + 1, by omega, rfl, by rw [HS.out]; exact (HI.out.drewN nd).set _⟩
      case measure => simp [intOf]; omega
     | false =>
      rw [if_neg (by simp [hb]; omega)] at hs
      have HS := Aside0.mk hs
      clear hs
      rw [hb] at C1
      clear hb hn hbd
      go_wp2_with (first | (go_at_call 53; (with_reducible refine C1.out.mono ?_); rintro e w' ⟨rfl, ⟨nd, rfl⟩⟩))
      go_roundw
      case rel => exact ⟨k + 1, by omega, rfl, by rw [HS.out]; exact HI.out.drewN nd⟩
      case measure => simp [intOf]; omega
   ·have hK := Aside0.mk (show k = l0.length by omega)
    have d0 : decide (k < l0.length) = false := decide_eq_false hlt
    have HC := Aside0.mk hC
    clear hlt hk hbd hC
    obtain rfl : heavyK l0 k = r := by rw [hK.out]; exact HH.out
    clear HH
    go_wp2
    go_ret
    exact ⟨rfl, hB.out⟩
 ·rw [if_neg hL] at h; cases h

/-! ### weigh_Bump: function 55 -/
def weigh_Bump.f (a0 : Nat) (a1 : Nat) : Option (Nat) := (weigh_Tame.f a0).bind fun t119 => ((weigh_Tame.f a1).bind fun t120 => (if fAddOk t119 t120 = true then ((weigh_Tame.f (fAdd t119 t120)).bind fun t121 => (some t121)) else (none)))
set_option maxHeartbeats 8000000 in
set_option maxRecDepth 100000 in
theorem weigh_Bump.calls (a0 : Nat) (a1 : Nat) (r : Nat) (w : World) (h : weigh_Bump.f a0 a1 = some r) :
  Calls Try.prog 55 #[.float .f64 a0, .float .f64 a1] w fun e w' => e = .returned (.float .f64 r) ∧ Drawn0 w w' := by
 have H : ((weigh_Tame.f a0).bind fun t119 => ((weigh_Tame.f a1).bind fun t120 => (if fAddOk t119 t120 = true then ((weigh_Tame.f (fAdd t119 t120)).bind fun t121 => (some t121)) else (none)))) = some r := h
 clear h
 replace H := Option.bind_eq_some_iff.mp H
 obtain ⟨t119, A30, H⟩ := H
 replace H : ((weigh_Tame.f a1).bind fun t120 => (if fAddOk t119 t120 = true then ((weigh_Tame.f (fAdd t119 t120)).bind fun t121 => (some t121)) else (none))) = some r := H
 have A3 := Aside0.mk A30
 clear A30
 replace H := Option.bind_eq_some_iff.mp H
 obtain ⟨t120, A40, H⟩ := H
 replace H : (if fAddOk t119 t120 = true then ((weigh_Tame.f (fAdd t119 t120)).bind fun t121 => (some t121)) else (none)) = some r := H
 have A4 := Aside0.mk A40
 clear A40
 by_cases c5 : fAddOk t119 t120 = true
 ·rw [if_pos c5] at H
  have c5b0 := eq_true c5
  have c5b1 : decide (fAddOk t119 t120 = true) = true := decide_eq_true c5
  clear c5
  replace H := Option.bind_eq_some_iff.mp H
  obtain ⟨t121, A60, H⟩ := H
  replace H : (some t121) = some r := H
  have A6 := Aside0.mk A60
  clear A60
  obtain rfl := Option.some.inj H
  go_enter Try.func55, Try.ntmps55
  go_wp2_with (first | ((with_reducible refine gate_callee (f := 44) rfl ?_); refine goesL_ (some 6) rfl rfl Try.func44 (by kernel_rfl) rfl #[.float .f64 a0] rfl (by (try simp only [List.map_toArray, List.map_cons, List.map_nil]); first | done | rfl | (simp only [List.length_drop, List.length_take]; rfl)) ?_; (with_reducible refine (weigh_Tame.calls a0 t119 _ A3.out).mono ?_); rintro e w' ⟨rfl, ⟨nd, rfl⟩⟩; refine ⟨_, rfl, ?_⟩) | ((with_reducible refine gate_callee (f := 44) rfl ?_); refine goesL_ (some 8) rfl rfl Try.func44 (by kernel_rfl) rfl #[.float .f64 a1] rfl (by (try simp only [List.map_toArray, List.map_cons, List.map_nil]); first | done | rfl | (simp only [List.length_drop, List.length_take]; rfl)) ?_; (with_reducible refine (weigh_Tame.calls a1 t120 _ A4.out).mono ?_); rintro e w' ⟨rfl, ⟨nd, rfl⟩⟩; refine ⟨_, rfl, ?_⟩) | ((with_reducible refine gate_callee (f := 44) rfl ?_); refine goesL_ (some 10) rfl rfl Try.func44 (by kernel_rfl) rfl #[.float .f64 (fAdd t119 t120)] rfl (by (try simp only [List.map_toArray, List.map_cons, List.map_nil]); first | done | rfl | (simp only [List.length_drop, List.length_take]; rfl)) ?_; (with_reducible refine (weigh_Tame.calls (fAdd t119 t120) t121 _ A6.out).mono ?_); rintro e w' ⟨rfl, ⟨nd, rfl⟩⟩; refine ⟨_, rfl, ?_⟩))
  go_ret
  exact ⟨by first | rfl | (simp; done) | (simp [*]; done), by repeat (first | exact Drawn0.refl _ | apply Drawn0.step)⟩
 ·rw [if_neg c5] at H
  exact absurd H (by simp)

/-! ### weigh_Decay: function 28 -/
def weigh_Decay.f (a0 : Nat) : Option (Nat) := (weigh_Tame.f a0).bind fun t122 => (if fDivOk t122 4606732058837280358 = true then ((weigh_Tame.f (fDiv t122 4606732058837280358)).bind fun t123 => (some t123)) else (none))
set_option maxHeartbeats 8000000 in
set_option maxRecDepth 100000 in
theorem weigh_Decay.calls (a0 : Nat) (r : Nat) (w : World) (h : weigh_Decay.f a0 = some r) :
  Calls Try.prog 28 #[.float .f64 a0] w fun e w' => e = .returned (.float .f64 r) ∧ Drawn0 w w' := by
 have H : ((weigh_Tame.f a0).bind fun t122 => (if fDivOk t122 4606732058837280358 = true then ((weigh_Tame.f (fDiv t122 4606732058837280358)).bind fun t123 => (some t123)) else (none))) = some r := h
 clear h
 replace H := Option.bind_eq_some_iff.mp H
 obtain ⟨t122, A20, H⟩ := H
 replace H : (if fDivOk t122 4606732058837280358 = true then ((weigh_Tame.f (fDiv t122 4606732058837280358)).bind fun t123 => (some t123)) else (none)) = some r := H
 have A2 := Aside0.mk A20
 clear A20
 by_cases c3 : fDivOk t122 4606732058837280358 = true
 ·rw [if_pos c3] at H
  have c3b0 := eq_true c3
  have c3b1 : decide (fDivOk t122 4606732058837280358 = true) = true := decide_eq_true c3
  clear c3
  replace H := Option.bind_eq_some_iff.mp H
  obtain ⟨t123, A40, H⟩ := H
  replace H : (some t123) = some r := H
  have A4 := Aside0.mk A40
  clear A40
  obtain rfl := Option.some.inj H
  go_enter Try.func28, Try.ntmps28
  go_wp2_with (first | ((with_reducible refine gate_callee (f := 44) rfl ?_); refine goesL_ (some 4) rfl rfl Try.func44 (by kernel_rfl) rfl #[.float .f64 a0] rfl (by (try simp only [List.map_toArray, List.map_cons, List.map_nil]); first | done | rfl | (simp only [List.length_drop, List.length_take]; rfl)) ?_; (with_reducible refine (weigh_Tame.calls a0 t122 _ A2.out).mono ?_); rintro e w' ⟨rfl, ⟨nd, rfl⟩⟩; refine ⟨_, rfl, ?_⟩) | ((with_reducible refine gate_callee (f := 44) rfl ?_); refine goesL_ (some 6) rfl rfl Try.func44 (by kernel_rfl) rfl #[.float .f64 (fDiv t122 4606732058837280358)] rfl (by (try simp only [List.map_toArray, List.map_cons, List.map_nil]); first | done | rfl | (simp only [List.length_drop, List.length_take]; rfl)) ?_; (with_reducible refine (weigh_Tame.calls (fDiv t122 4606732058837280358) t123 _ A4.out).mono ?_); rintro e w' ⟨rfl, ⟨nd, rfl⟩⟩; refine ⟨_, rfl, ?_⟩))
  go_ret
  exact ⟨by first | rfl | (simp; done) | (simp [*]; done), by repeat (first | exact Drawn0.refl _ | apply Drawn0.step)⟩
 ·rw [if_neg c3] at H
  exact absurd H (by simp)

/-! ### math_NaN: function 39 -/
def math_NaN.f  : Option (Nat) := some 9221120237041090561
set_option maxHeartbeats 8000000 in
set_option maxRecDepth 100000 in
theorem math_NaN.calls  (r : Nat) (w : World) (h : math_NaN.f  = some r) :
  Calls Try.prog 39 #[] w fun e w' => e = .returned (.float .f64 r) ∧ Drawn0 w w' := by
 have H : (some 9221120237041090561) = some r := h
 clear h
 obtain rfl := Option.some.inj H
 go_enter Try.func39, Try.ntmps39
 go_wp2
 go_ret
 exact ⟨by first | rfl | (simp; done) | (simp [*]; done), by repeat (first | exact Drawn0.refl _ | apply Drawn0.step)⟩

/-! ### sat_size: function 42 -/
def sat_size.f (a0 : Int) : Option (Int) := some (mx a0 (wrap64 (-a0)))
set_option maxHeartbeats 8000000 in
set_option maxRecDepth 100000 in
theorem sat_size.calls (a0 : Int) (r : Int) (w : World) (h : sat_size.f a0 = some r) :
  Calls Try.prog 42 #[.int .i64 a0] w fun e w' => e = .returned (.int .i64 r) ∧ Below w.heap.size w w' := by
 have HB := Aside0.mk (Below.refl w.heap.size w)
 have H : (some (mx a0 (wrap64 (-a0)))) = some r := h
 clear h
 obtain ⟨ji2, hji2⟩ : ∃ j_ : Int, (mx a0 (wrap64 (-a0))) = j_ := ⟨_, rfl⟩
 replace H : (some ji2) = some r := by first | (rw [hji2] at H; exact H) | (simp only [hji2] at H ⊢; exact H)
 have hji2_ : (if a0 < (wrap64 (-a0)) then (wrap64 (-a0)) else a0) = ji2 := hji2
 obtain rfl := Option.some.inj H
 go_enter Try.func42, Try.ntmps42
 go_wp2
 go_ret
 exact ⟨by first | rfl | (simp [errW_none, errW_some] <;> rfl) | (simp only [← hji2]; first | rfl | (simp [errW_none, errW_some] <;> rfl)) | (simp [*, errW_none, errW_some] <;> rfl), by repeat (first | (with_reducible first | exact HB.out | apply below_alloc | apply pw_below_drewN | apply below_drew1) | exact HB.out)⟩

end Go.Proofs.Ytmdjlhmifhnpdaa.B
namespace Go.Proofs.Ytmdjlhmifhnpdaa.SatW
set_option linter.unusedVariables false
open Go.RowKit Go.Proofs.YtmdjlhmifhnpdaaW.PrintWords

/-- A row: its element's type, the slice's value, its cells. -/
structure Row where
  e : TypeId
  v : Value
  xs : List Value
def Row.own (w : World) (B : Nat) (r : Row) : Prop := w.ownsRow B r.e 1 r.v r.xs.length r.xs
def Row.apart (r q : Row) : Prop := r.v.ownBlock = none ∨ r.v.ownBlock ≠ q.v.ownBlock
theorem Row.apart.symm {r q : Row} (h : r.apart q) : q.apart r := by
  unfold Row.apart at *
  cases hq : q.v.ownBlock with
  | none => exact Or.inl rfl
  | some b =>
    refine Or.inr fun e => ?_
    rcases h with h | h
    · rw [h] at e; cases e
    · exact h (by rw [hq, e])
def Pool (w : World) (B : Nat) (L : List Row) : Prop := (∀ r ∈ L, r.own w B) ∧ L.Pairwise Row.apart
theorem Row.own.lt {w : World} {B : Nat} {r : Row} (h : r.own w B) {k : Nat} (hk : r.v.ownBlock = some k) : B ≤ k ∧ k < w.heap.size := World.ownsRow.lt h k hk
theorem Row.own.kept {w w' : World} {B : Nat} {r : Row} {row : Option Nat} (h : r.own w B) (hg : w.grownBy w' row) (hne : r.v.ownBlock = none ∨ r.v.ownBlock ≠ row) : r.own w' B := World.ownsRow.kept h hg hne
theorem Pool.keep {w w' : World} {B : Nat} {L : List Row} (h : Pool w B L) (hg : w.grownBy w' none) : Pool w' B L := by
  refine ⟨fun r hr => (h.1 r hr).kept hg ?_, h.2⟩
  cases r.v.ownBlock with
  | none => exact Or.inl rfl
  | some k => exact Or.inr (by simp)
theorem Pool.sub {w : World} {B : Nat} {L M : List Row} (h : Pool w B L) (hs : M.Sublist L) : Pool w B M := ⟨fun r hr => h.1 r (hs.subset hr), h.2.sublist hs⟩
theorem Pool.upd {w w' : World} {B : Nat} {pre post : List Row} {r r' : Row} (h : Pool w B (pre ++ r :: post)) (hg : w.grownBy w' r.v.ownBlock) (ho : r'.own w' B)
    (hat : r'.v.ownBlock = r.v.ownBlock ∨ ∃ b, r'.v.ownBlock = some b ∧ w.heap.size ≤ b) : Pool w' B (pre ++ r' :: post) := by
  obtain ⟨h1, h2⟩ := h
  rw [List.pairwise_append] at h2
  obtain ⟨p1, p2, p3⟩ := h2
  rw [List.pairwise_cons] at p2
  obtain ⟨p4, p5⟩ := p2
  have ap : ∀ q, q ∈ pre ∨ q ∈ post → q.apart r := by
    intro q hq
    rcases hq with hq | hq
    · exact p3 q hq r (by simp)
    · exact (p4 q hq).symm
  have mem : ∀ q, q ∈ pre ∨ q ∈ post → q.own w B := by
    intro q hq
    rcases hq with hq | hq
    · exact h1 q (by simp [hq])
    · exact h1 q (by simp [hq])
  have ap' : ∀ q, q ∈ pre ∨ q ∈ post → q.apart r' := by
    intro q hq
    have a := ap q hq
    unfold Row.apart at a ⊢
    rcases a with a | a
    · exact Or.inl a
    · rcases hat with e | ⟨b, e, hb⟩
      · exact Or.inr (by rw [e]; exact a)
      · cases hk : q.v.ownBlock with
        | none => exact Or.inl rfl
        | some k =>
          have := ((mem q hq).lt hk).2
          refine Or.inr ?_
          rw [e]
          intro e2
          cases e2
          omega
  have own' : ∀ q, q ∈ pre ∨ q ∈ post → q.own w' B := fun q hq => (mem q hq).kept hg (ap q hq)
  refine ⟨fun q hq => ?_, ?_⟩
  · rcases List.mem_append.1 hq with hq | hq
    · exact own' q (Or.inl hq)
    · rcases List.mem_cons.1 hq with rfl | hq
      · exact ho
      · exact own' q (Or.inr hq)
  · rw [List.pairwise_append, List.pairwise_cons]
    refine ⟨p1, ⟨fun q hq => (ap' q (Or.inr hq)).symm, p5⟩, fun a ha q hq => ?_⟩
    rcases List.mem_cons.1 hq with rfl | hq
    · exact ap' a (Or.inl ha)
    · exact p3 a ha q (by simp [hq])
theorem Pool.push {w w' : World} {B : Nat} {L : List Row} {r : Row} (h : Pool w B L) (hg : w.grownBy w' none) (ho : r.own w' B) (hat : r.v.ownBlock = none ∨ ∃ b, r.v.ownBlock = some b ∧ w.heap.size ≤ b) : Pool w' B (L ++ [r]) := by
  have k := h.keep hg
  refine ⟨fun q hq => ?_, ?_⟩
  · rcases List.mem_append.1 hq with hq | hq
    · exact k.1 q hq
    · rw [List.mem_singleton.1 hq]; exact ho
  · rw [List.pairwise_append]
    refine ⟨h.2, by simp, fun a ha q hq => ?_⟩
    rw [List.mem_singleton.1 hq]
    unfold Row.apart
    rcases hat with e | ⟨b, e, hb⟩
    · cases ha' : a.v.ownBlock with
      | none => exact Or.inl rfl
      | some k => exact Or.inr (by rw [e]; simp)
    · cases ha' : a.v.ownBlock with
      | none => exact Or.inl rfl
      | some k =>
        have := ((h.1 a ha).lt ha').2
        refine Or.inr ?_
        rw [e]
        intro e2
        cases e2
        omega
theorem Pool.at_ {w : World} {B : Nat} {pre post : List Row} {r : Row} (h : Pool w B (pre ++ r :: post)) : r.own w B := h.1 r (by simp)
/-- A store into a row. -/
theorem Pool.put {w : World} {B : Nat} {pre post : List Row} {e : TypeId} {g n c : Nat} {xs : List Value} (h : Pool w B (pre ++ ⟨e, .slice (some ⟨g, 0, none⟩) n c, xs⟩ :: post)) (j : Nat) (u : Value) :
    Pool (w.setCell ⟨g, j, none⟩ u) B (pre ++ ⟨e, .slice (some ⟨g, 0, none⟩) n c, xs.set j u⟩ :: post) := by
  have h0 := h.at_
  have hn : n = xs.length := by
    rcases h0.2 with ⟨h', _⟩ | ⟨_, _, _, h', _⟩
    · cases h'
    · injection h'
  subst hn
  obtain ⟨a, b⟩ := World.ownsRow.stored h0 j u
  refine h.upd b ?_ (Or.inl rfl)
  show World.ownsRow _ B e 1 _ (xs.set j u).length (xs.set j u)
  rw [List.length_set]; exact a
theorem own_len {w : World} {B : Nat} {e : TypeId} {A : Option Addr} {n c : Nat} {xs : List Value} (h : (Row.mk e (.slice A n c) xs).own w B) : n = xs.length := by
  rcases h.2 with ⟨h', hn⟩ | ⟨_, _, _, h', _⟩
  · injection h' with _ h2 _
    rw [h2]
    have : xs.length = 0 := hn
    omega
  · injection h'
theorem own_slice' {w : World} {B : Nat} {r : Row} (h : r.own w B) : ∃ A c, r.v = .slice A r.xs.length c ∧ r.xs.length ≤ c ∧ (0 < r.xs.length → ∃ g, A = some ⟨g, 0, none⟩ ∧ B ≤ g) := by
  rcases h.2 with ⟨h', hn⟩ | ⟨g, cap, cur, h', hb, _, hnc, _⟩
  · exact ⟨none, 0, by rw [h', hn], by omega, fun hp => by omega⟩
  · exact ⟨some ⟨g, 0, none⟩, cap, h', hnc, fun _ => ⟨g, rfl, hb⟩⟩
theorem own_cell {w : World} {B : Nat} {e : TypeId} {g n c : Nat} {xs : List Value} (h : (Row.mk e (.slice (some ⟨g, 0, none⟩) n c) xs).own w B) (j : Nat) (u : Value) (hj : xs[j]? = some u) : w.cell? ⟨g, j, none⟩ = some u := by
  have hn := own_len h
  subst hn
  have hl := (List.getElem?_eq_some_iff.1 hj).1
  rw [World.ownsRow.cellAt h j (by simpa using hl)]; exact hj
theorem own_free {w : World} {B : Nat} {e : TypeId} {g n c : Nat} {xs : List Value} (h : (Row.mk e (.slice (some ⟨g, 0, none⟩) n c) xs).own w B) (j : Nat) : w.frozen? ⟨g, j, none⟩ = false := by
  have hn := own_len h
  subst hn
  exact World.ownsRow.frozenAt h j
theorem own_max {w : World} {B : Nat} {r : Row} (h : r.own w B) : r.xs.length ≤ maxLen := by
  rcases h.2 with ⟨_, hn⟩ | ⟨_, _, _, _, _, _, h1, h2, _⟩
  · omega
  · omega
theorem own_take {w : World} {B : Nat} {e : TypeId} {A : Option Addr} {n c : Nat} {xs : List Value} (h : (Row.mk e (.slice A n c) xs).own w B) (m : Nat) (hm : m ≤ xs.length) : (Row.mk e (.slice A m c) (xs.take m)).own w B := by
  have hn := own_len h
  subst hn
  have hl : (xs.take m).length = m := by rw [List.length_take]; omega
  show World.ownsRow w B e 1 _ (xs.take m).length _
  rw [hl]
  refine ⟨by show (xs.take m).length = m * 1; omega, ?_⟩
  rcases h.2 with ⟨h', hz⟩ | ⟨g, cap, cur, h', hb, hh, hnc, hcm, hcs, ht⟩
  · injection h' with a b d
    subst a
    subst d
    have hz' : xs.length = 0 := hz
    exact Or.inl ⟨by rw [show m = 0 by omega], by omega⟩
  · injection h' with a b d
    subst a
    subst d
    refine Or.inr ⟨g, c, cur, rfl, hb, hh, by omega, hcm, hcs, ?_⟩
    have ht' : List.take (xs.length * 1) cur.toList = xs := ht
    rw [Nat.mul_one] at ht' ⊢
    conv => rhs; rw [← ht']
    rw [List.take_take, Nat.min_eq_left hm]
theorem own_lit {w : World} {B : Nat} (hB : B ≤ w.heap.size) (e : TypeId) (cs : Array Value) (hm : cs.size ≤ maxLen) : (Row.mk e (.slice (some ⟨w.heap.size, 0, none⟩) cs.size cs.size) cs.toList).own (w.alloc (.cells cs e)) B := by
  have := World.ownsRow_lit (base := B) (e := e) (size := 1) w cs cs.size hB hm (by omega)
  show World.ownsRow _ B e 1 _ cs.toList.length _
  rw [Array.length_toList]; exact this
theorem fresh_at (w : World) (n c : Nat) : (Value.slice (some ⟨w.heap.size, 0, none⟩) n c).ownBlock = none ∨ ∃ b, (Value.slice (some ⟨w.heap.size, 0, none⟩) n c).ownBlock = some b ∧ w.heap.size ≤ b := Or.inr ⟨w.heap.size, rfl, Nat.le_refl _⟩
/-- A new literal beside the pool. -/
theorem Pool.lit {w : World} {B : Nat} {L : List Row} (h : Pool w B L) (hB : B ≤ w.heap.size) (e : TypeId) (cs : Array Value) (hm : cs.size ≤ maxLen) : Pool (w.alloc (.cells cs e)) B (L ++ [⟨e, .slice (some ⟨w.heap.size, 0, none⟩) cs.size cs.size, cs.toList⟩]) :=
  h.push (World.grownBy_alloc w _ none) (own_lit hB e cs hm) (fresh_at w _ _)
theorem Pool.drewN {w : World} {B : Nat} {L : List Row} (h : Pool w B L) (n : Nat) : Pool (w.drewN n) B L := h.keep ⟨rfl, rfl, rfl, Nat.le_refl _, fun _ _ _ => rfl⟩
theorem Pool.drew {w : World} {B : Nat} {L : List Row} (h : Pool w B L) : Pool w.drew B L := h.keep ⟨rfl, rfl, rfl, Nat.le_refl _, fun _ _ _ => rfl⟩
theorem Pool.below {w w' : World} {B : Nat} {L : List Row} (h : Pool w B L) (hb : Below w.heap.size w w') : Pool w' B L := h.keep ⟨hb.os, hb.tape, hb.output, hb.size, fun k hk _ => hb.block k hk⟩
end Go.Proofs.Ytmdjlhmifhnpdaa.SatW
namespace Go.Proofs.Ytmdjlhmifhnpdaa.SatW
set_option linter.unusedVariables false
open Go.RowKit Go.Proofs.YtmdjlhmifhnpdaaW.PrintWords Go.Proofs.Ytmdjlhmifhnpdaa.B

structure St where
  clauses : List (List Int)
  value : List Int
  level : List Int
  reason : List Int
  trail : List Int
  chosen : List Int
  weights : List Nat
  by_ : Nat
  lemmas : List (List Int)

def i64s (l : List Int) : List Value := l.map (.int .i64)
def i8s (l : List Int) : List Value := l.map (.int .i8)
def f64s (l : List Nat) : List Value := l.map (.float .f64)
def lemRows (lp : List (Value × List Int)) : List Row := lp.map fun p => ⟨3, p.1, i64s p.2⟩
def solRows (g : Nat) (vc vv vl vr vt vo vw vm : Value) (us0 : List Value) (lp : List (Value × List Int)) (s : St) : List Row :=
  ⟨46, .slice (some ⟨g, 0, none⟩) 9 9, [vc, vv, vl, vr, vt, vo, vw, .float .f64 s.by_, vm]⟩ :: ⟨32, vc, us0 ++ lp.map (·.1)⟩ :: ⟨38, vv, i8s s.value⟩ :: ⟨3, vl, i64s s.level⟩ :: ⟨3, vr, i64s s.reason⟩ ::
  ⟨3, vt, i64s s.trail⟩ :: ⟨3, vo, i64s s.chosen⟩ :: ⟨44, vw, f64s s.weights⟩ :: ⟨32, vm, lp.map (·.1)⟩ :: lemRows lp
/-- A value that reads as a clause. -/
def Rd (w : World) (u : Value) (c : List Int) : Prop := ∃ A cap, u = .slice A c.length cap ∧ c.length ≤ cap ∧ (0 < c.length → ∃ ad, A = some ad ∧ ∀ j x, c[j]? = some x → w.cell? (ad.add j) = some (.int .i64 x))
structure Heads0 (W : World) (us0 : List Value) (cl0 : List (List Int)) : Prop where
  len : us0.length = cl0.length
  rd : ∀ (j : Nat) (c : List Int) (u : Value), cl0[j]? = some c → us0[j]? = some u → Rd W u c
def Sol (W w : World) (g : Nat) (us0 : List Value) (cl0 : List (List Int)) (s : St) : Prop :=
  Below W.heap.size W w ∧ ∃ vc vv vl vr vt vo vw vm lp, Pool w W.heap.size (solRows g vc vv vl vr vt vo vw vm us0 lp s) ∧ s.lemmas = lp.map (·.2) ∧ s.clauses = cl0 ++ lp.map (·.2)
theorem Rd.below {W w : World} {u : Value} {c : List Int} (h : Rd W u c) (hb : Below W.heap.size W w) : Rd w u c := by
  obtain ⟨A, cap, e, hl, hc⟩ := h
  refine ⟨A, cap, e, hl, fun hp => ?_⟩
  obtain ⟨ad, ea, hx⟩ := hc hp
  refine ⟨ad, ea, fun j x hj => ?_⟩
  have := hx j x hj
  rw [← this]
  exact hb.cell (World.block_lt_of_cell? W _ this)
theorem Rd.own {w : World} {B : Nat} {u : Value} {c : List Int} (h : (Row.mk 3 u (i64s c)).own w B) : Rd w u c := by
  obtain ⟨A, cap, e, hl, hp⟩ := own_slice' h
  have hlen : (i64s c).length = c.length := List.length_map _
  simp only [hlen] at e hl hp
  refine ⟨A, cap, e, hl, fun hpos => ?_⟩
  obtain ⟨g, ea, _⟩ := hp hpos
  refine ⟨⟨g, 0, none⟩, ea, fun j x hj => ?_⟩
  have e' : u = .slice (some ⟨g, 0, none⟩) c.length cap := by rw [← ea]; exact e
  rw [e'] at h
  have hj' : (i64s c)[j]? = some (.int .i64 x) := by unfold i64s; rw [List.getElem?_map, hj]; rfl
  have := own_cell h j _ hj'
  have ha : (⟨g, 0, none⟩ : Addr).add j = ⟨g, j, none⟩ := by unfold Addr.add; split <;> simp_all
  rw [ha]; exact this
section
variable {w : World} {B g : Nat} {vc vv vl vr vt vo vw vm : Value} {us0 : List Value} {lp : List (Value × List Int)} {s : St}
theorem sol_box (P : Pool w B (solRows g vc vv vl vr vt vo vw vm us0 lp s)) : w.cell? ⟨g, 0, none⟩ = some vc ∧ w.cell? ⟨g, 1, none⟩ = some vv ∧ w.cell? ⟨g, 2, none⟩ = some vl ∧ w.cell? ⟨g, 3, none⟩ = some vr ∧ w.cell? ⟨g, 4, none⟩ = some vt ∧ w.cell? ⟨g, 5, none⟩ = some vo ∧ w.cell? ⟨g, 6, none⟩ = some vw ∧ w.cell? ⟨g, 7, none⟩ = some (.float .f64 s.by_) ∧ w.cell? ⟨g, 8, none⟩ = some vm ∧ ∀ j, w.frozen? ⟨g, j, none⟩ = false := by
  have h := Pool.at_ (pre := []) P
  exact ⟨own_cell h 0 _ rfl, own_cell h 1 _ rfl, own_cell h 2 _ rfl, own_cell h 3 _ rfl, own_cell h 4 _ rfl, own_cell h 5 _ rfl, own_cell h 6 _ rfl, own_cell h 7 _ rfl, own_cell h 8 _ rfl, own_free h⟩
theorem sol_c (P : Pool w B (solRows g vc vv vl vr vt vo vw vm us0 lp s)) : (Row.mk 32 vc (us0 ++ lp.map (·.1))).own w B := P.1 _ (by simp [solRows])
theorem sol_v (P : Pool w B (solRows g vc vv vl vr vt vo vw vm us0 lp s)) : (Row.mk 38 vv (i8s s.value)).own w B := P.1 _ (by simp [solRows])
theorem sol_l (P : Pool w B (solRows g vc vv vl vr vt vo vw vm us0 lp s)) : (Row.mk 3 vl (i64s s.level)).own w B := P.1 _ (by simp [solRows])
theorem sol_r (P : Pool w B (solRows g vc vv vl vr vt vo vw vm us0 lp s)) : (Row.mk 3 vr (i64s s.reason)).own w B := P.1 _ (by simp [solRows])
theorem sol_t (P : Pool w B (solRows g vc vv vl vr vt vo vw vm us0 lp s)) : (Row.mk 3 vt (i64s s.trail)).own w B := P.1 _ (by simp [solRows])
theorem sol_o (P : Pool w B (solRows g vc vv vl vr vt vo vw vm us0 lp s)) : (Row.mk 3 vo (i64s s.chosen)).own w B := P.1 _ (by simp [solRows])
theorem sol_w (P : Pool w B (solRows g vc vv vl vr vt vo vw vm us0 lp s)) : (Row.mk 44 vw (f64s s.weights)).own w B := P.1 _ (by simp [solRows])
theorem sol_m (P : Pool w B (solRows g vc vv vl vr vt vo vw vm us0 lp s)) : (Row.mk 32 vm (lp.map (·.1))).own w B := P.1 _ (by simp [solRows])
end
/-- A row, laid open at an element: its block, its length, the element's cell. -/
theorem row_at {α : Type} {enc : α → Value} {w : World} {B : Nat} {e : TypeId} {v : Value} {l : List α} (h : (Row.mk e v (l.map enc)).own w B) (i : Nat) (x : α) (hi : l[i]? = some x) :
    ∃ b c, v = .slice (some ⟨b, 0, none⟩) l.length c ∧ w.cell? ⟨b, i, none⟩ = some (enc x) ∧ w.frozen? ⟨b, i, none⟩ = false ∧ l.length ≤ c := by
  obtain ⟨A, c, e', hl, hp⟩ := own_slice' h
  have hlen : (l.map enc).length = l.length := List.length_map _
  simp only [hlen] at e' hl hp
  have hil := (List.getElem?_eq_some_iff.1 hi).1
  obtain ⟨b, ea, _⟩ := hp (by omega)
  subst ea
  rw [e'] at h
  refine ⟨b, c, e', own_cell h i _ (by rw [List.getElem?_map, hi]; rfl), own_free h i, hl⟩
theorem row_len {α : Type} {enc : α → Value} {w : World} {B : Nat} {e : TypeId} {v : Value} {l : List α} (h : (Row.mk e v (l.map enc)).own w B) : ∃ A c, v = .slice A l.length c ∧ l.length ≤ maxLen := by
  obtain ⟨A, c, e', hl, hp⟩ := own_slice' h
  have hm := own_max h
  have hlen : (l.map enc).length = l.length := List.length_map _
  simp only [hlen] at e' hm
  exact ⟨A, c, e', hm⟩

/-! ### of -/
def gi {α : Type} (l : List α) (i : Int) : Option α := if 0 ≤ i then l[i.toNat]? else none
theorem gi_some {α : Type} {l : List α} {i : Int} {x : α} (h : gi l i = some x) : 0 ≤ i ∧ l[i.toNat]? = some x ∧ i < l.length := by
  unfold gi at h
  by_cases c : 0 ≤ i
  · rw [if_pos c] at h
    have := (List.getElem?_eq_some_iff.1 h).1
    exact ⟨c, h, by omega⟩
  · rw [if_neg c] at h; cases h
def sizeI (n : Int) : Int := if n < 0 then -n else n
/-- What the assignment says of a literal. -/
def ofO (val : List Int) (n : Int) : Option Int := if n < 0 then (gi val (-n)).map (fun x => -x) else gi val n
set_option maxHeartbeats 1000000 in
set_option maxRecDepth 100000 in
theorem of_calls (W w : World) (g : Nat) (us0 : List Value) (cl0 : List (List Int)) (s : St) (h : Sol W w g us0 cl0 s) (n x : Int) (hn : -1000000 ≤ n ∧ n ≤ 1000000) (hb : ∀ y ∈ s.value, -1 ≤ y ∧ y ≤ 1) (hx : ofO s.value n = some x) :
    Calls Try.prog 51 #[.pointer (some ⟨g, 0, none⟩), .int .i64 n] w fun e w' => e = .returned (.int .i8 x) ∧ w = w' := by
  obtain ⟨hbel, vc, vv, vl, vr, vt, vo, vw, vm, lp, P, _, _⟩ := h
  obtain ⟨_, hg1, _⟩ := sol_box P
  have hv := sol_v P
  unfold ofO at hx
  obtain ⟨hn1, hn2⟩ := hn
  by_cases c : n < 0
  · rw [if_pos c] at hx
    obtain ⟨y, hy, rfl⟩ := Option.map_eq_some_iff.1 hx
    obtain ⟨i0, i1, i2⟩ := gi_some hy
    obtain ⟨b, cap, rfl, hc, _, _⟩ := row_at hv _ _ i1
    obtain ⟨y1, y2⟩ := hb y (List.mem_of_getElem? i1)
    have d0 : decide (n < 0) = true := decide_eq_true c
    have d1 : decide (0 ≤ -n) = true := decide_eq_true i0
    have d2 : decide (-n < (s.value.length : Int)) = true := decide_eq_true i2
    have e1 := eq_true i0
    have e2 := eq_true i2
    clear hx hy P hv hbel hb i1
    go_enter Try.func51, Try.ntmps51
    go_wp2
    go_ret
    exact ⟨rfl, rfl⟩
  · rw [if_neg c] at hx
    obtain ⟨i0, i1, i2⟩ := gi_some hx
    obtain ⟨b, cap, rfl, hc, _, _⟩ := row_at hv _ _ i1
    have d0 : decide (n < 0) = false := decide_eq_false c
    have d1 : decide (0 ≤ n) = true := decide_eq_true i0
    have d2 : decide (n < (s.value.length : Int)) = true := decide_eq_true i2
    have e1 := eq_true i0
    have e2 := eq_true i2
    clear hx P hv hbel hb i1 c
    go_enter Try.func51, Try.ntmps51
    go_wp2
    go_ret
    exact ⟨rfl, rfl⟩
end Go.Proofs.Ytmdjlhmifhnpdaa.SatW
namespace Go.Proofs.Ytmdjlhmifhnpdaa.SatW
set_option linter.unusedVariables false
open Go.RowKit Go.Proofs.YtmdjlhmifhnpdaaW.PrintWords Go.Proofs.YtmdjlhmifhnpdaaW.PrintLast Go.Proofs.Ytmdjlhmifhnpdaa.B

theorem mapset {α : Type} (l : List α) (enc : α → Value) (i : Nat) (x : α) : (l.map enc).set i (enc x) = (l.set i x).map enc := by rw [List.map_set]
theorem size_calls (n : Int) (w : World) (hn : -1000000 ≤ n ∧ n ≤ 1000000) : Calls Try.prog 42 #[.int .i64 n] w fun e w' => e = .returned (.int .i64 (sizeI n)) ∧ w = w' := by
  obtain ⟨n1, n2⟩ := hn
  by_cases h : n < -n
  · rw [show sizeI n = -n by unfold sizeI; split <;> omega]
    go_enter Try.func42, Try.ntmps42
    go_wp2
    go_ret
    exact ⟨rfl, rfl⟩
  · rw [show sizeI n = n by unfold sizeI; split <;> omega]
    go_enter Try.func42, Try.ntmps42
    go_wp2
    go_ret
    exact ⟨rfl, rfl⟩
theorem row_st {α : Type} {enc : α → Value} {w : World} {B : Nat} {e : TypeId} {v : Value} {l : List α} (h : (Row.mk e v (l.map enc)).own w B) (i : Nat) (hi : i < l.length) :
    ∃ b c x, v = .slice (some ⟨b, 0, none⟩) l.length c ∧ w.cell? ⟨b, i, none⟩ = some (enc x) ∧ w.frozen? ⟨b, i, none⟩ = false ∧ l.length ≤ c := by
  obtain ⟨b, c, h1, h2, h3, h4⟩ := row_at h i _ (List.getElem?_eq_getElem hi)
  exact ⟨b, c, _, h1, h2, h3, h4⟩
theorem row_cell {α : Type} {enc : α → Value} {w : World} {B : Nat} {e : TypeId} {b n c : Nat} {l : List α} (h : (Row.mk e (.slice (some ⟨b, 0, none⟩) n c) (l.map enc)).own w B) (i : Nat) (hi : i < l.length) :
    ∃ x, w.cell? ⟨b, i, none⟩ = some (enc x) ∧ w.frozen? ⟨b, i, none⟩ = false :=
  ⟨_, own_cell h i _ (by rw [List.getElem?_map, List.getElem?_eq_getElem hi]; rfl), own_free h i⟩
theorem sol_ge {w : World} {B : Nat} {e : TypeId} {b n c : Nat} {xs : List Value} (h : (Row.mk e (.slice (some ⟨b, 0, none⟩) n c) xs).own w B) : B ≤ b := (h.lt rfl).1
theorem Pool.ne {w : World} {B : Nat} (pre mid : List Row) {post : List Row} {r q : Row} (h : Pool w B (pre ++ r :: (mid ++ q :: post))) : r.apart q := by
  have h2 := h.2
  rw [List.pairwise_append] at h2
  have h3 := h2.2.1
  rw [List.pairwise_cons] at h3
  exact h3.1 q (by simp)
theorem apart_ne {e e' : TypeId} {b b' n n' c c' : Nat} {xs xs' : List Value} (h : (Row.mk e (.slice (some ⟨b, 0, none⟩) n c) xs).apart (Row.mk e' (.slice (some ⟨b', 0, none⟩) n' c') xs')) : ¬ b = b' ∧ ¬ b' = b := by
  rcases h with h | h
  · cases h
  · have : ¬ b = b' := fun e => h (by rw [e]; rfl)
    exact ⟨this, fun e => this e.symm⟩
theorem info3 : (Try.prog.info? 3).map (fun i => (i.zero, i.size, i.bytes)) = some (some (.int .i64 0), 1, 8) := by kernel_rfl
theorem one_int (k : IntKind) (n : Int) : ∀ u ∈ [Value.int k n], u.oneCell' = true := fun u hu => by rw [List.mem_singleton.1 hu]; rfl
theorem app_own {w : World} {B : Nat} {e : TypeId} {v u : Value} {xs : List Value} (h : w.ownsRow B e 1 v (xs.length + 1) (xs ++ [u])) : (Row.mk e v (xs ++ [u])).own w B := by
  show World.ownsRow w B e 1 v (xs ++ [u]).length _
  rw [List.length_append]; exact h
theorem box_at {w : World} {B : Nat} {pre post : List Row} {e : TypeId} {g n c : Nat} {xs : List Value} (P : Pool w B (pre ++ ⟨e, .slice (some ⟨g, 0, none⟩) n c, xs⟩ :: post)) (j : Nat) (u : Value) (hj : xs[j]? = some u) : w.cell? ⟨g, j, none⟩ = some u ∧ w.frozen? ⟨g, j, none⟩ = false :=
  ⟨own_cell P.at_ j u hj, own_free P.at_ j⟩
theorem sol_app_t {w : World} {B g : Nat} {vc vv vl vr vt vo vw vm : Value} {us0 : List Value} {lp : List (Value × List Int)} {s : St} {n : Int} (P : Pool w B (solRows g vc vv vl vr vt vo vw vm us0 lp s)) : ∀ (w3 : World) (v4 : Value), w3.ownsRow B 3 1 v4 ((i64s s.trail).length + 1) (i64s s.trail ++ [.int .i64 n]) → w.grownBy w3 vt.ownBlock → (v4.ownBlock = vt.ownBlock ∨ ∃ b, v4.ownBlock = some b ∧ w.heap.size ≤ b) →
    w3.cell? ⟨g, 4, none⟩ = some vt ∧ w3.frozen? ⟨g, 4, none⟩ = false ∧ Pool (w3.setCell ⟨g, 4, none⟩ v4) B (solRows g vc vv vl vr v4 vo vw vm us0 lp { s with trail := s.trail ++ [n] }) := by
  intro w3 v4 ho hg hat
  have P3 := Pool.upd (pre := [_, _, _, _, _]) P hg (app_own ho) hat
  obtain ⟨k4, kf4⟩ := box_at (pre := []) P3 4 _ rfl
  refine ⟨k4, kf4, ?_⟩
  have P4 := Pool.put (pre := []) P3 4 v4
  have e : i64s s.trail ++ [.int .i64 n] = i64s (s.trail ++ [n]) := by unfold i64s; rw [List.map_append]; rfl
  rw [e] at P4
  exact P4
theorem app_slice {w : World} {B : Nat} {e : TypeId} {v : Value} {n : Nat} {xs : List Value} (h : w.ownsRow B e 1 v n xs) : ∃ A c, v = .slice A n c := by
  rcases h.2 with ⟨h', hn⟩ | ⟨g, c, _, h', _⟩
  · exact ⟨none, 0, by rw [h', hn]⟩
  · exact ⟨_, c, h'⟩
def lim : Nat := 17592186044416
def setF (s : St) (n r : Int) : Option St :=
  if sizeI n < s.value.length ∧ sizeI n < s.level.length ∧ sizeI n < s.reason.length ∧ s.trail.length < lim then
    some { s with value := s.value.set (sizeI n).toNat (if n < 0 then -1 else 1), level := s.level.set (sizeI n).toNat s.chosen.length, reason := s.reason.set (sizeI n).toNat r, trail := s.trail ++ [n] }
  else none
set_option maxHeartbeats 4000000 in
set_option maxRecDepth 100000 in
theorem set_calls (W w : World) (g : Nat) (us0 : List Value) (cl0 : List (List Int)) (s s' : St) (h : Sol W w g us0 cl0 s) (n r : Int) (hn : -1000000 ≤ n ∧ n ≤ 1000000) (hs : setF s n r = some s') :
    Calls Try.prog 37 #[.pointer (some ⟨g, 0, none⟩), .int .i64 n, .int .i64 r] w fun e w' => e = .returned (.tuple #[]) ∧ Sol W w' g us0 cl0 s' := by
  obtain ⟨hbel, vc, vv, vl, vr, vt, vo, vw, vm, lp, P, hlm, hcl⟩ := h
  unfold setF at hs
  by_cases hc : sizeI n < s.value.length ∧ sizeI n < s.level.length ∧ sizeI n < s.reason.length ∧ s.trail.length < lim
  · rw [if_pos hc] at hs
    have HS := Aside0.mk (Option.some.inj hs)
    clear hs
    obtain ⟨h1, h2, h3, h4⟩ := hc
    have hv0 : 0 ≤ sizeI n := by unfold sizeI; split <;> omega
    have HV := Aside0.mk (show ∃ m, m = sizeI n from ⟨_, rfl⟩)
    obtain ⟨v, hv⟩ := HV.out
    rw [← hv] at h1 h2 h3 hv0
    obtain ⟨b1, c1, y1, rfl, x1, f1, l1⟩ := row_st (sol_v P) v.toNat (by omega)
    obtain ⟨b2, c2, y2, rfl, x2, f2, l2⟩ := row_st (sol_l P) v.toNat (by omega)
    obtain ⟨b3, c3, y3, rfl, x3, f3, l3⟩ := row_st (sol_r P) v.toNat (by omega)
    obtain ⟨A4, c4, rfl, l4⟩ := row_len (sol_t P)
    obtain ⟨A5, c5, rfl, l5⟩ := row_len (sol_o P)
    obtain ⟨g0, g1, g2, g3, g4, g5, g6, g7, g8, gf⟩ := sol_box P
    have SC := Aside0.mk (size_calls n w hn)
    rw [← hv] at SC
    have d0 : decide (0 ≤ v) = true := decide_eq_true hv0
    have d1 : decide (v < (s.value.length : Int)) = true := decide_eq_true h1
    have d2 : decide (v < (s.level.length : Int)) = true := decide_eq_true h2
    have d3 : decide (v < (s.reason.length : Int)) = true := decide_eq_true h3
    have e0 := eq_true hv0
    have e1 := eq_true h1
    have e2 := eq_true h2
    have e3 := eq_true h3
    have HVV := Aside0.mk hv
    have PP := Aside0.mk P
    have HB := Aside0.mk hbel
    clear P hv hbel
    by_cases hneg : n < 0
    · have dn : decide (n < 0) = true := decide_eq_true hneg
      obtain ⟨nb1, nb2⟩ := apart_ne (Pool.ne [] [_] PP.out)
      have xb := (own_cell (Pool.at_ (pre := [_, _]) (Pool.put (pre := [_, _]) PP.out v.toNat (.int .i8 1))) v.toNat (.int .i8 1) (by rw [List.getElem?_set_self (by unfold i8s; rw [List.length_map]; omega)]))
      go_enter Try.func37, Try.ntmps37
      go_wp2_with (first | (go_at_call 42; (with_reducible refine SC.out.mono ?_); rintro e w' ⟨rfl, rfl⟩))
      have P1 : Pool ((w.setCell ⟨b1, v.toNat, none⟩ (.int .i8 1)).setCell ⟨b1, v.toNat, none⟩ (.int .i8 (-1))) W.heap.size (solRows g vc (.slice (some ⟨b1, 0, none⟩) s.value.length c1) (.slice (some ⟨b2, 0, none⟩) s.level.length c2) (.slice (some ⟨b3, 0, none⟩) s.reason.length c3) (.slice A4 s.trail.length c4) (.slice A5 s.chosen.length c5) vw vm us0 lp { s with value := s.value.set v.toNat (-1) }) := by
        have h1 := Pool.put (pre := [_, _]) PP.out v.toNat (.int .i8 1)
        have := Pool.put (pre := [_, _]) h1 v.toNat (.int .i8 (-1))
        rw [List.set_set, show (i8s s.value).set v.toNat (.int .i8 (-1)) = i8s (s.value.set v.toNat (-1)) from mapset _ _ _ _] at this
        exact this
      have HB1 := Aside0.mk (below_set (below_set HB.out (show W.heap.size ≤ b1 from sol_ge (sol_v PP.out)) (j := v.toNat) (v := .int .i8 1)) (show W.heap.size ≤ b1 from sol_ge (sol_v PP.out)) (j := v.toNat) (v := .int .i8 (-1)))
      generalize (w.setCell ⟨b1, v.toNat, none⟩ (.int .i8 1)).setCell ⟨b1, v.toNat, none⟩ (.int .i8 (-1)) = w1 at P1 HB1 ⊢
      clear g0 g1 g2 g3 g4 g5 g6 g7 g8 gf x1 x2 x3 f1 f2 f3 SC PP HB
      obtain ⟨g0, g1, g2, g3, g4, g5, g6, g7, g8, gf⟩ := sol_box P1
      obtain ⟨z2, x2, f2⟩ := row_cell (sol_l P1) v.toNat (by show v.toNat < s.level.length; omega)
      obtain ⟨z3, x3, f3⟩ := row_cell (sol_r P1) v.toNat (by show v.toNat < s.reason.length; omega)
      obtain ⟨ne1, ne2⟩ := apart_ne (Pool.ne [_, _, _] [] P1)
      have PP := Aside0.mk P1
      clear P1 g0 g1 g4 g6 g7 g8 gf
      go_region
      have P2 : Pool (((w1.setCell ⟨b2, v.toNat, none⟩ (.int .i64 s.chosen.length)).setCell ⟨b3, v.toNat, none⟩ (.int .i64 r)).drew) W.heap.size (solRows g vc (.slice (some ⟨b1, 0, none⟩) s.value.length c1) (.slice (some ⟨b2, 0, none⟩) s.level.length c2) (.slice (some ⟨b3, 0, none⟩) s.reason.length c3) (.slice A4 s.trail.length c4) (.slice A5 s.chosen.length c5) vw vm us0 lp { s with value := s.value.set v.toNat (-1), level := s.level.set v.toNat s.chosen.length, reason := s.reason.set v.toNat r }) := by
        have h1 := Pool.put (pre := [_, _, _]) PP.out v.toNat (.int .i64 s.chosen.length)
        have h2 := Pool.put (pre := [_, _, _, _]) h1 v.toNat (.int .i64 r)
        rw [show (i64s s.reason).set v.toNat (.int .i64 r) = i64s (s.reason.set v.toNat r) from mapset _ _ _ _, show (i64s s.level).set v.toNat (.int .i64 s.chosen.length) = i64s (s.level.set v.toNat s.chosen.length) from mapset _ _ _ _] at h2
        exact h2.drew
      have HB2 := Aside0.mk (below_drew1 (below_set (below_set HB1.out (show W.heap.size ≤ b2 from sol_ge (sol_l PP.out)) (j := v.toNat) (v := .int .i64 s.chosen.length)) (show W.heap.size ≤ b3 from sol_ge (sol_r PP.out)) (j := v.toNat) (v := .int .i64 r)))
      generalize ((w1.setCell ⟨b2, v.toNat, none⟩ (.int .i64 s.chosen.length)).setCell ⟨b3, v.toNat, none⟩ (.int .i64 r)).drew = w2 at P2 HB2 ⊢
      clear g2 g3 g5 x2 x3 f2 f3 HB1 PP
      obtain ⟨g0, g1, g2, g3, g4, g5, g6, g7, g8, gf⟩ := sol_box P2
      have PP := Aside0.mk P2
      clear P2 gf g0 g1 g2 g3 g5 g6 g7 g8
      have TL := Aside0.mk (show (i64s s.trail).length = s.trail.length from List.length_map _)
      have STEP := Aside0.mk (sol_app_t (n := n) PP.out)
      have ho := sol_t PP.out
      have HO := Aside0.mk (show w2.ownsRow W.heap.size 3 1 (.slice A4 s.trail.length c4) (i64s s.trail).length (i64s s.trail) from ho)
      clear ho
      go_wp2_with (first | (at_builtin; refine print_append_cells W.heap.size rfl (.tmp 45) (.tmp 47) 32 3 (.int .i64 0) 1 8 rfl Try.underlying32 info3 rfl (by decide) (by decide) (.slice A4 s.trail.length c4) (i64s s.trail).length (i64s s.trail) [.int .i64 n] rfl rfl rfl (one_int _ _) ?o1 HB2.out HB2.out.size ?c1 ?_; (case o1 => exact HO.out); (case c1 => unfold lim at h4; have := TL.out; omega); intro v4 w3 ho3 hb3 hg3 hat3; obtain ⟨A6, c6, rfl⟩ := app_slice ho3; obtain ⟨k4, kf4, P3⟩ := STEP.out w3 _ ho3 hg3 hat3; have PQ := Aside0.mk P3; have HB3 := Aside0.mk hb3; clear ho3 hb3 hg3 hat3 P3))
      go_end0
      have e : s' = { s with value := s.value.set v.toNat (-1), level := s.level.set v.toNat s.chosen.length, reason := s.reason.set v.toNat r, trail := s.trail ++ [n] } := by
        rw [← HS.out, if_pos (show n < 0 by omega), ← HVV.out]
      rw [e]
      exact ⟨rfl, below_set HB3.out (show W.heap.size ≤ g from sol_ge (Pool.at_ (pre := []) PP.out)), _, _, _, _, _, _, _, _, lp, PQ.out, hlm, hcl⟩
    · have dn : decide (n < 0) = false := decide_eq_false hneg
      go_enter Try.func37, Try.ntmps37
      go_wp2_with (first | (go_at_call 42; (with_reducible refine SC.out.mono ?_); rintro e w' ⟨rfl, rfl⟩))
      have P1 : Pool (w.setCell ⟨b1, v.toNat, none⟩ (.int .i8 1)) W.heap.size (solRows g vc (.slice (some ⟨b1, 0, none⟩) s.value.length c1) (.slice (some ⟨b2, 0, none⟩) s.level.length c2) (.slice (some ⟨b3, 0, none⟩) s.reason.length c3) (.slice A4 s.trail.length c4) (.slice A5 s.chosen.length c5) vw vm us0 lp { s with value := s.value.set v.toNat 1 }) := by
        have := Pool.put (pre := [_, _]) PP.out v.toNat (.int .i8 1)
        rw [show (i8s s.value).set v.toNat (.int .i8 1) = i8s (s.value.set v.toNat 1) from mapset _ _ _ _] at this
        exact this
      have HB1 := Aside0.mk (below_set HB.out (show W.heap.size ≤ b1 from sol_ge (sol_v PP.out)) (j := v.toNat) (v := .int .i8 1))
      generalize w.setCell ⟨b1, v.toNat, none⟩ (.int .i8 1) = w1 at P1 HB1 ⊢
      clear g0 g1 g2 g3 g4 g5 g6 g7 g8 gf x1 x2 x3 f1 f2 f3 SC PP HB
      obtain ⟨g0, g1, g2, g3, g4, g5, g6, g7, g8, gf⟩ := sol_box P1
      obtain ⟨z2, x2, f2⟩ := row_cell (sol_l P1) v.toNat (by show v.toNat < s.level.length; omega)
      obtain ⟨z3, x3, f3⟩ := row_cell (sol_r P1) v.toNat (by show v.toNat < s.reason.length; omega)
      obtain ⟨ne1, ne2⟩ := apart_ne (Pool.ne [_, _, _] [] P1)
      have PP := Aside0.mk P1
      clear P1 g0 g1 g4 g6 g7 g8 gf
      go_region
      have P2 : Pool (((w1.setCell ⟨b2, v.toNat, none⟩ (.int .i64 s.chosen.length)).setCell ⟨b3, v.toNat, none⟩ (.int .i64 r)).drew) W.heap.size (solRows g vc (.slice (some ⟨b1, 0, none⟩) s.value.length c1) (.slice (some ⟨b2, 0, none⟩) s.level.length c2) (.slice (some ⟨b3, 0, none⟩) s.reason.length c3) (.slice A4 s.trail.length c4) (.slice A5 s.chosen.length c5) vw vm us0 lp { s with value := s.value.set v.toNat 1, level := s.level.set v.toNat s.chosen.length, reason := s.reason.set v.toNat r }) := by
        have h1 := Pool.put (pre := [_, _, _]) PP.out v.toNat (.int .i64 s.chosen.length)
        have h2 := Pool.put (pre := [_, _, _, _]) h1 v.toNat (.int .i64 r)
        rw [show (i64s s.reason).set v.toNat (.int .i64 r) = i64s (s.reason.set v.toNat r) from mapset _ _ _ _, show (i64s s.level).set v.toNat (.int .i64 s.chosen.length) = i64s (s.level.set v.toNat s.chosen.length) from mapset _ _ _ _] at h2
        exact h2.drew
      have HB2 := Aside0.mk (below_drew1 (below_set (below_set HB1.out (show W.heap.size ≤ b2 from sol_ge (sol_l PP.out)) (j := v.toNat) (v := .int .i64 s.chosen.length)) (show W.heap.size ≤ b3 from sol_ge (sol_r PP.out)) (j := v.toNat) (v := .int .i64 r)))
      generalize ((w1.setCell ⟨b2, v.toNat, none⟩ (.int .i64 s.chosen.length)).setCell ⟨b3, v.toNat, none⟩ (.int .i64 r)).drew = w2 at P2 HB2 ⊢
      clear g2 g3 g5 x2 x3 f2 f3 HB1 PP
      obtain ⟨g0, g1, g2, g3, g4, g5, g6, g7, g8, gf⟩ := sol_box P2
      have PP := Aside0.mk P2
      clear P2 gf g0 g1 g2 g3 g5 g6 g7 g8
      have TL := Aside0.mk (show (i64s s.trail).length = s.trail.length from List.length_map _)
      have STEP := Aside0.mk (sol_app_t (n := n) PP.out)
      have ho := sol_t PP.out
      have HO := Aside0.mk (show w2.ownsRow W.heap.size 3 1 (.slice A4 s.trail.length c4) (i64s s.trail).length (i64s s.trail) from ho)
      clear ho
      go_wp2_with (first | (at_builtin; refine print_append_cells W.heap.size rfl (.tmp 45) (.tmp 47) 32 3 (.int .i64 0) 1 8 rfl Try.underlying32 info3 rfl (by decide) (by decide) (.slice A4 s.trail.length c4) (i64s s.trail).length (i64s s.trail) [.int .i64 n] rfl rfl rfl (one_int _ _) ?o1 HB2.out HB2.out.size ?c1 ?_; (case o1 => exact HO.out); (case c1 => unfold lim at h4; have := TL.out; omega); intro v4 w3 ho3 hb3 hg3 hat3; obtain ⟨A6, c6, rfl⟩ := app_slice ho3; obtain ⟨k4, kf4, P3⟩ := STEP.out w3 _ ho3 hg3 hat3; have PQ := Aside0.mk P3; have HB3 := Aside0.mk hb3; clear ho3 hb3 hg3 hat3 P3))
      go_end0
      have e : s' = { s with value := s.value.set v.toNat 1, level := s.level.set v.toNat s.chosen.length, reason := s.reason.set v.toNat r, trail := s.trail ++ [n] } := by
        rw [← HS.out, if_neg (show ¬ n < 0 by omega), ← HVV.out]
      rw [e]
      exact ⟨rfl, below_set HB3.out (show W.heap.size ≤ g from sol_ge (Pool.at_ (pre := []) PP.out)), _, _, _, _, _, _, _, _, lp, PQ.out, hlm, hcl⟩
  · rw [if_neg hc] at hs; cases hs

end Go.Proofs.Ytmdjlhmifhnpdaa.SatW
namespace Go.Proofs.Ytmdjlhmifhnpdaa.SatW
set_option linter.unusedVariables false
open Go.RowKit Go.Proofs.YtmdjlhmifhnpdaaW.PrintWords Go.Proofs.YtmdjlhmifhnpdaaW.PrintLast Go.Proofs.Ytmdjlhmifhnpdaa.B

/-- What a clause tells: an open literal, and whether it is a conflict. -/
def unitF (val : List Int) : List Int → Int → Option (Int × Bool)
  | [], o => some (o, o == 0)
  | n :: c, o => (ofO val n).bind fun x => if 0 < x then some (0, false) else if x < 0 ∨ n = o then unitF val c o else if o = 0 then unitF val c n else some (0, false)
theorem drop_at {α : Type} (l : List α) (k : Nat) (h : k < l.length) : ∃ x, l[k]? = some x ∧ l.drop k = x :: l.drop (k + 1) ∧ x ∈ l := ⟨l[k], List.getElem?_eq_getElem h, List.drop_eq_getElem_cons h, List.getElem_mem h⟩
set_option maxHeartbeats 4000000 in
set_option maxRecDepth 100000 in
theorem unit_calls (W w : World) (g : Nat) (us0 : List Value) (cl0 : List (List Int)) (s : St) (h : Sol W w g us0 cl0 s) (u : Value) (c : List Int) (hr : Rd w u c) (hlen : c.length ≤ 1000000) (hb : ∀ y ∈ s.value, -1 ≤ y ∧ y ≤ 1) (hc : ∀ n ∈ c, -1000000 ≤ n ∧ n ≤ 1000000) (r1 : Int) (r2 : Bool) (hu : unitF s.value c 0 = some (r1, r2)) :
    Calls Try.prog 36 #[.pointer (some ⟨g, 0, none⟩), u] w fun e w' => e = .returned (.tuple #[.int .i64 r1, .bool r2]) ∧ w = w' := by
  obtain ⟨A, cap, rfl, hcap, hcell⟩ := hr
  have HH := Aside0.mk h
  have HBB := Aside0.mk hb
  have HC := Aside0.mk hc
  have HU := Aside0.mk hu
  have HX := Aside0.mk hcell
  have HL := Aside0.mk hlen
  clear h hb hc hu hcell
  go_enter Try.func36, Try.ntmps36
  go_wp2
  go_loop [4, 10] (fun v4 v10 => ∃ (k : Nat) (o : Int), v10 = .int .i64 (k : Int) ∧ v4 = .int .i64 o ∧ Aside0 (k ≤ c.length) ∧ Aside0 (unitF s.value (c.drop k) o = some (r1, r2)) ∧ Aside0 (-1000000 ≤ o ∧ o ≤ 1000000)) (fun _ v => c.length - (intOf v).toNat)
  case atStart => exact ⟨0, 0, rfl, rfl, ⟨Nat.zero_le _⟩, ⟨by rw [List.drop_zero]; exact HU.out⟩, ⟨by omega⟩⟩
  case round =>
    obtain ⟨k, o, rfl, rfl, HK, HQ, HO⟩ := hrel
    by_cases hlt : k < c.length
    · obtain ⟨n, hn, hd, hm⟩ := drop_at c k hlt
      obtain ⟨ad, rfl, hx⟩ := HX.out (by omega)
      have hx2 := hx k n hn
      have hq := HQ.out
      rw [hd, unitF] at hq
      obtain ⟨x, hox, hq⟩ := Option.bind_eq_some_iff.mp hq
      have OC := Aside0.mk (of_calls W w g us0 cl0 s HH.out n x (HC.out n hm) HBB.out hox)
      have BN := Aside0.mk (HC.out n hm)
      clear hx hox hm hd hn HX HU
      have d0 : decide (k < c.length) = true := decide_eq_true hlt
      by_cases c1 : 0 < x
      · rw [if_pos c1] at hq
        obtain ⟨rfl, rfl⟩ : 0 = r1 ∧ false = r2 := by simpa using hq
        have f1 : decide (0 < x) = true := decide_eq_true c1
        clear hq c1 HQ
        go_wp2_with (first | (go_at_call 51; (with_reducible refine OC.out.mono ?_); rintro e w' ⟨rfl, rfl⟩))
        go_ret2
        exact ⟨rfl, rfl⟩
      · rw [if_neg c1] at hq
        have f1 : decide (0 < x) = false := decide_eq_false c1
        by_cases c2 : x < 0
        · rw [if_pos (Or.inl c2)] at hq
          have HQ2 := Aside0.mk hq
          have f2 : decide (x < 0) = true := decide_eq_true c2
          clear hq c1 c2 HQ
          go_wp2_with (first | (go_at_call 51; (with_reducible refine OC.out.mono ?_); rintro e w' ⟨rfl, rfl⟩))
          go_round
          case rel => exact ⟨k + 1, o, by go_num, rfl, ⟨hlt⟩, HQ2, HO⟩
          case measure => simp [intOf]; omega
        · have f2 : decide (x < 0) = false := decide_eq_false c2
          by_cases c3 : n = o
          · rw [if_pos (Or.inr c3)] at hq
            have HQ2 := Aside0.mk hq
            have f3 : (n == o) = true := beq_iff_eq.mpr c3
            clear hq c1 c2 c3 HQ
            go_wp2_with (first | (go_at_call 51; (with_reducible refine OC.out.mono ?_); rintro e w' ⟨rfl, rfl⟩))
            go_round
            case rel => exact ⟨k + 1, o, by go_num, rfl, ⟨hlt⟩, HQ2, HO⟩
            case measure => simp [intOf]; omega
          · rw [if_neg (by rintro (h | h); exact c2 h; exact c3 h)] at hq
            have f3 : (n == o) = false := beq_eq_false_iff_ne.mpr c3
            by_cases c4 : o = 0
            · rw [if_pos c4] at hq
              have HQ2 := Aside0.mk hq
              have f4 : (o == 0) = true := beq_iff_eq.mpr c4
              have f5 : (o != 0) = false := bne_eq_false_iff_eq.mpr c4
              clear hq c1 c2 c3 c4 HQ
              go_wp2_with (first | (go_at_call 51; (with_reducible refine OC.out.mono ?_); rintro e w' ⟨rfl, rfl⟩))
              go_round
              case rel => exact ⟨k + 1, n, by go_num, rfl, ⟨hlt⟩, HQ2, BN⟩
              case measure => simp [intOf]; omega
            · rw [if_neg c4] at hq
              obtain ⟨rfl, rfl⟩ : 0 = r1 ∧ false = r2 := by simpa using hq
              have f4 : (o == 0) = false := beq_eq_false_iff_ne.mpr c4
              have f5 : (o != 0) = true := bne_iff_ne.mpr c4
              clear hq c1 c2 c3 c4 HQ
              go_wp2_with (first | (go_at_call 51; (with_reducible refine OC.out.mono ?_); rintro e w' ⟨rfl, rfl⟩))
              go_ret2
              exact ⟨rfl, rfl⟩
    · have d0 : decide (k < c.length) = false := decide_eq_false hlt
      have e : (some (o, o == 0) : Option (Int × Bool)) = some (r1, r2) := by
        have := HQ.out
        rwa [List.drop_eq_nil_of_le (by omega), unitF] at this
      obtain ⟨rfl, rfl⟩ : o = r1 ∧ (o == 0) = r2 := by simpa using e
      clear e HQ hlt HU
      go_wp2
      go_ret2
      exact ⟨rfl, rfl⟩
/-- The first clause that tells something: its place (-1: none), the open literal, whether it is a conflict. -/
def scanF (val : List Int) : List (List Int) → Int → Option (Int × Int × Bool)
  | [], _ => some (-1, 0, false)
  | c :: cs, i => (unitF val c 0).bind fun r => if r.2 = true then some (i, r.1, true) else if r.1 = 0 then scanF val cs (i + 1) else some (i, r.1, false)
def spreadF : Nat → St → Option (St × Int)
  | 0, _ => none
  | k + 1, s => (scanF s.value s.clauses 0).bind fun r => if r.2.2 = true then some (s, r.1) else if r.2.1 = 0 then some (s, -1) else (setF s r.2.1 r.1).bind (spreadF k)
structure Bd (s : St) : Prop where
  cl : s.clauses.length ≤ 1000000000
  c : ∀ c ∈ s.clauses, c.length ≤ 1000000 ∧ ∀ n ∈ c, -1000000 ≤ n ∧ n ≤ 1000000
  v : ∀ y ∈ s.value, -1 ≤ y ∧ y ≤ 1
theorem setF_clauses {s s' : St} {n r : Int} (h : setF s n r = some s') : s'.clauses = s.clauses ∧ ∀ x ∈ s'.value, x ∈ s.value ∨ x = 1 ∨ x = -1 := by
  unfold setF at h
  split at h
  · cases h
    refine ⟨rfl, fun x hx => ?_⟩
    rcases List.mem_or_eq_of_mem_set hx with hx | rfl
    · exact Or.inl hx
    · split <;> simp
  · cases h
theorem Bd.set {s s' : St} {n r : Int} (b : Bd s) (h : setF s n r = some s') : Bd s' := by
  obtain ⟨h1, h2⟩ := setF_clauses h
  refine ⟨by rw [h1]; exact b.cl, by rw [h1]; exact b.c, fun x hx => ?_⟩
  rcases h2 x hx with h | rfl | rfl
  · exact b.v x h
  · omega
  · omega
theorem unitF_bd {val : List Int} {c : List Int} {o r1 : Int} {r2 : Bool} (hc : ∀ n ∈ c, -1000000 ≤ n ∧ n ≤ 1000000) (ho : -1000000 ≤ o ∧ o ≤ 1000000) (h : unitF val c o = some (r1, r2)) : -1000000 ≤ r1 ∧ r1 ≤ 1000000 := by
  induction c generalizing o with
  | nil => simp only [unitF, Option.some.injEq, Prod.mk.injEq] at h; omega
  | cons n c ih =>
    rw [unitF] at h
    obtain ⟨x, _, h⟩ := Option.bind_eq_some_iff.mp h
    have hn := hc n (by simp)
    have hc' : ∀ n ∈ c, -1000000 ≤ n ∧ n ≤ 1000000 := fun m hm => hc m (by simp [hm])
    split at h
    · simp only [Option.some.injEq, Prod.mk.injEq] at h; omega
    · split at h
      · exact ih hc' ho h
      · split at h
        · exact ih hc' hn h
        · simp only [Option.some.injEq, Prod.mk.injEq] at h; omega
theorem sol_clauses {W w : World} {g : Nat} {us0 : List Value} {cl0 : List (List Int)} {s : St} (hh : Heads0 W us0 cl0) (h : Sol W w g us0 cl0 s) :
    ∃ A cap, w.cell? ⟨g, 0, none⟩ = some (.slice A s.clauses.length cap) ∧ ∀ (i : Nat) (c : List Int), s.clauses[i]? = some c → ∃ b u, A = some ⟨b, 0, none⟩ ∧ w.cell? ⟨b, i, none⟩ = some u ∧ Rd w u c := by
  obtain ⟨hbel, vc, vv, vl, vr, vt, vo, vw, vm, lp, P, hlm, hcl⟩ := h
  obtain ⟨g0, _⟩ := sol_box P
  have hc := sol_c P
  obtain ⟨A0, c0, e0, _, hA⟩ := own_slice' hc
  have hlen : (us0 ++ lp.map (·.1)).length = s.clauses.length := by rw [hcl, List.length_append, List.length_append, List.length_map, List.length_map, hh.len]
  have e1 : vc = .slice A0 s.clauses.length c0 := by rw [← hlen]; exact e0
  refine ⟨A0, c0, by rw [g0, e1], fun i c hi => ?_⟩
  have hil := (List.getElem?_eq_some_iff.1 hi).1
  obtain ⟨b, eb, _⟩ := hA (by show 0 < (us0 ++ lp.map (·.1)).length; omega)
  obtain ⟨u, hu⟩ : ∃ u, (us0 ++ lp.map (·.1))[i]? = some u := ⟨_, List.getElem?_eq_getElem (by omega)⟩
  have hcell : w.cell? ⟨b, i, none⟩ = some u := by
    rw [e1, eb] at hc
    exact own_cell hc i u hu
  refine ⟨b, u, eb, hcell, ?_⟩
  rw [hcl] at hi
  by_cases hlt : i < cl0.length
  · rw [List.getElem?_append_left hlt] at hi
    rw [List.getElem?_append_left (by rw [hh.len]; exact hlt)] at hu
    exact (hh.rd i c u hi hu).below hbel
  · rw [List.getElem?_append_right (by omega)] at hi
    rw [List.getElem?_append_right (by rw [hh.len]; omega), hh.len, List.getElem?_map] at hu
    rw [List.getElem?_map] at hi
    obtain ⟨p, hp, rfl⟩ := Option.map_eq_some_iff.1 hi
    rw [hp] at hu
    cases hu
    refine Rd.own (B := W.heap.size) (P.1 _ ?_)
    have : (Row.mk 3 p.1 (i64s p.2)) ∈ lemRows lp := List.mem_map.2 ⟨p, List.mem_of_getElem? hp, rfl⟩
    simp [solRows, this]
set_option maxHeartbeats 4000000 in
set_option maxRecDepth 100000 in
theorem spread_calls (W w : World) (g : Nat) (us0 : List Value) (cl0 : List (List Int)) (hh : Heads0 W us0 cl0) (s : St) (h : Sol W w g us0 cl0 s) (b : Bd s) (k : Nat) (s' : St) (r : Int) (hs : spreadF k s = some (s', r)) :
    Calls Try.prog 23 #[.pointer (some ⟨g, 0, none⟩)] w fun e w' => e = .returned (.int .i64 r) ∧ Sol W w' g us0 cl0 s' := by
  have HH := Aside0.mk h
  have HS := Aside0.mk hs
  have HB := Aside0.mk b
  have HD := Aside0.mk hh
  clear h hs b hh
  go_enter Try.func23, Try.ntmps23
  go_wp2
  go_step3
  go_wp2
  go_step3
  go_wp2
  go_loopg [2] k (fun kq v2 w' => ∃ s1 : St, Aside0 (Sol W w' g us0 cl0 s1) ∧ Aside0 (Bd s1) ∧ Aside0 (spreadF kq s1 = some (s', r)))
  case atStart => exact ⟨s, HH, HB, HS⟩
  case round =>
    clear HH HB HS
    obtain ⟨s1, HH, HB, HS⟩ := hrel
    cases gk with
    | zero => exact absurd HS.out (by simp [spreadF])
    | succ k1 =>
      have hs := HS.out
      rw [spreadF] at hs
      obtain ⟨q, hq, hs⟩ := Option.bind_eq_some_iff.mp hs
      obtain ⟨q1, q2, q3⟩ := q
      have HQ := Aside0.mk hq
      have HS1 := Aside0.mk hs
      clear hs hq HS
      obtain ⟨A0, c0, g0, hcs⟩ := sol_clauses HD.out HH.out
      have HCS := Aside0.mk hcs
      clear hcs
      go_wp2
      go_loop [12] (fun v => ∃ i : Nat, v = .int .i64 (i : Int) ∧ Aside0 (i ≤ s1.clauses.length) ∧ Aside0 (scanF s1.value (s1.clauses.drop i) (i : Int) = some (q1, q2, q3))) (fun v => s1.clauses.length - (intOf v).toNat)
      case atStart => exact ⟨0, rfl, ⟨Nat.zero_le _⟩, ⟨by rw [List.drop_zero]; exact HQ.out⟩⟩
      case round =>
        clear HQ
        obtain ⟨i, rfl, HI, HQ⟩ := hrel
        have HCL := Aside0.mk HB.out.cl
        by_cases hlt : i < s1.clauses.length
        · have hib : i < 1000000000 := by have := HCL.out; omega
          obtain ⟨c, hci, hd, hm⟩ := drop_at s1.clauses i hlt
          obtain ⟨b, u, rfl, hcell, hrd⟩ := HCS.out i c hci
          have hq := HQ.out
          rw [hd, scanF] at hq
          obtain ⟨p, hp, hq⟩ := Option.bind_eq_some_iff.mp hq
          obtain ⟨p1, p2⟩ := p
          obtain ⟨hcl1, hcl2⟩ := HB.out.c c hm
          have hpb := unitF_bd hcl2 (by omega) hp
          have UC := Aside0.mk (unit_calls W wr g us0 cl0 s1 HH.out u c hrd hcl1 HB.out.v hcl2 p1 p2 hp)
          obtain ⟨Au, cu, rfl, _, _⟩ := hrd
          have d0 : decide (i < s1.clauses.length) = true := decide_eq_true hlt
          clear HCS HQ hci hd hm hp hcl1 hcl2
          cases p2 with
          | true =>
            rw [if_pos rfl] at hq
            have HE : r = (i : Int) ∧ s1 = s' := by
              obtain ⟨rfl, rfl, rfl⟩ : (i : Int) = q1 ∧ p1 = q2 ∧ true = q3 := by simpa using hq
              have := HS1.out
              rw [if_pos rfl] at this
              simp only [Option.some.injEq, Prod.mk.injEq] at this
              exact ⟨this.2.symm, this.1⟩
            obtain ⟨rfl, rfl⟩ := HE
            clear hq HS1
            go_wp2_with (first | (go_at_call 36; (with_reducible refine UC.out.mono ?_); rintro e w' ⟨rfl, rfl⟩))
            (try rw [Exit.noGoto_ret])
            go_ret
            exact ⟨rfl, HH.out⟩
          | false =>
            rw [if_neg Bool.false_ne_true] at hq
            by_cases c1 : p1 = 0
            · rw [if_pos c1] at hq
              have HQ2 := Aside0.mk hq
              have f1 : (p1 != 0) = false := bne_eq_false_iff_eq.mpr c1
              clear hq c1
              go_wp2_with (first | (go_at_call 36; (with_reducible refine UC.out.mono ?_); rintro e w' ⟨rfl, rfl⟩))
              go_round
              case rel => exact ⟨i + 1, by go_num, ⟨hlt⟩, HQ2⟩
              case measure => simp [intOf]; omega
            · rw [if_neg c1] at hq
              have f1 : (p1 != 0) = true := bne_iff_ne.mpr c1
              have HE : ∃ s2, setF s1 p1 (i : Int) = some s2 ∧ spreadF k1 s2 = some (s', r) := by
                obtain ⟨rfl, rfl, rfl⟩ : (i : Int) = q1 ∧ p1 = q2 ∧ false = q3 := by simpa using hq
                have := HS1.out
                rw [if_neg Bool.false_ne_true, if_neg c1] at this
                exact Option.bind_eq_some_iff.mp this
              obtain ⟨s2, hs2, hs3⟩ := HE
              have SC := Aside0.mk (set_calls W wr g us0 cl0 s1 s2 HH.out p1 (i : Int) hpb hs2)
              have HB2 := Aside0.mk (HB.out.set hs2)
              have HS2 := Aside0.mk hs3
              clear hq HS1 hs2 hs3 c1
              go_wp2_with (first | (go_at_call 36; (with_reducible refine UC.out.mono ?_); rintro e w' ⟨rfl, rfl⟩) | (go_at_call 37; (with_reducible refine SC.out.mono ?_); rintro e w' ⟨rfl, hsol⟩; have HSOL := Aside0.mk hsol; clear hsol))
              go_roundg k1
              case measure => omega
              case rel => exact ⟨s2, HSOL, HB2, HS2⟩
        · have d0 : decide (i < s1.clauses.length) = false := decide_eq_false hlt
          have HE : r = -1 ∧ s1 = s' := by
            have hq := HQ.out
            rw [List.drop_eq_nil_of_le (by omega), scanF] at hq
            obtain ⟨rfl, rfl, rfl⟩ : -1 = q1 ∧ 0 = q2 ∧ false = q3 := by simpa using hq
            have := HS1.out
            rw [if_neg Bool.false_ne_true, if_pos rfl] at this
            simp only [Option.some.injEq, Prod.mk.injEq] at this
            exact ⟨this.2.symm, this.1⟩
          obtain ⟨rfl, rfl⟩ := HE
          clear HQ HS1 hlt HCS
          go_wp2
          (try rw [Exit.noGoto_ret])
          go_ret
          exact ⟨rfl, HH.out⟩

end Go.Proofs.Ytmdjlhmifhnpdaa.SatW
namespace Go.Proofs.Ytmdjlhmifhnpdaa.SatW
set_option linter.unusedVariables false
set_option linter.unusedSimpArgs false
open Go.RowKit Go.Proofs.YtmdjlhmifhnpdaaW.PrintWords Go.Proofs.YtmdjlhmifhnpdaaW.PrintLast Go.Proofs.Ytmdjlhmifhnpdaa.B

def bumpF (s : St) (v : Int) : Option St := (gi s.weights v).bind fun x => (weigh_Bump.f x s.by_).map fun y => { s with weights := s.weights.set v.toNat y }
theorem sol_put_w {w : World} {B g b n c : Nat} {vc vv vl vr vt vo vm : Value} {us0 : List Value} {lp : List (Value × List Int)} {s : St} (P : Pool w B (solRows g vc vv vl vr vt vo (.slice (some ⟨b, 0, none⟩) n c) vm us0 lp s)) (i y : Nat) :
    Pool (w.setCell ⟨b, i, none⟩ (.float .f64 y)) B (solRows g vc vv vl vr vt vo (.slice (some ⟨b, 0, none⟩) n c) vm us0 lp { s with weights := s.weights.set i y }) := by
  have := Pool.put (pre := [_, _, _, _, _, _, _]) P i (.float .f64 y)
  rw [show (f64s s.weights).set i (.float .f64 y) = f64s (s.weights.set i y) from mapset _ _ _ _] at this
  exact this
set_option maxHeartbeats 4000000 in
set_option maxRecDepth 100000 in
theorem bump_calls (W w : World) (g : Nat) (us0 : List Value) (cl0 : List (List Int)) (R : List Row) (s s' : St) (vc vv vl vr vt vo vw vm : Value) (lp : List (Value × List Int)) (hbel : Below W.heap.size W w) (P : Pool w W.heap.size (solRows g vc vv vl vr vt vo vw vm us0 lp s ++ R)) (v : Int) (hs : bumpF s v = some s') :
    Calls Try.prog 43 #[.pointer (some ⟨g, 0, none⟩), .int .i64 v] w fun e w' => e = .returned (.tuple #[]) ∧ Below W.heap.size W w' ∧ Pool w' W.heap.size (solRows g vc vv vl vr vt vo vw vm us0 lp s' ++ R) := by
  unfold bumpF at hs
  obtain ⟨x, hx, hs⟩ := Option.bind_eq_some_iff.mp hs
  obtain ⟨y, hy, rfl⟩ := Option.map_eq_some_iff.1 hs
  have P0 : Pool w W.heap.size (solRows g vc vv vl vr vt vo vw vm us0 lp s) := P.sub (List.sublist_append_left _ _)
  obtain ⟨i0, i1, i2⟩ := gi_some hx
  obtain ⟨b, c, rfl, hx, fx, hc⟩ := row_at (sol_w P0) v.toNat x i1
  obtain ⟨_, _, _, _, _, _, g6, g7, _, _⟩ := sol_box P0
  have HY := Aside0.mk hy
  have PP := Aside0.mk P
  have HB := Aside0.mk hbel
  have HG := Aside0.mk (show W.heap.size ≤ b from sol_ge (sol_w P0))
  have d1 : decide (0 ≤ v) = true := decide_eq_true i0
  have d2 : decide (v < (s.weights.length : Int)) = true := decide_eq_true i2
  have e1 := eq_true i0
  have e2 := eq_true i2
  clear P P0 hbel hy hs i1
  go_enter Try.func43, Try.ntmps43
  try go_wp2
  refine start_ (n := 19) (S := fun w' => w'.cell? ⟨g, 6, none⟩ = some (.slice (some ⟨b, 0, none⟩) s.weights.length c) ∧ w'.cell? ⟨b, v.toNat, none⟩ = some (.float .f64 x) ∧ w'.cell? ⟨g, 7, none⟩ = some (.float .f64 s.by_)) (ds := [18]) #[false, false, false, false, false, false, false, false, false, false, false, false, false, false, false, false, false, false, false] (by kernel_rfl) rfl rfl ⟨g6, hx, g7⟩ (fun hHeld => ?_)
  refine pure_ (i := 0) (N := some 4) (v := ?_) (a' := ?_) #[true, false, false, false, false, false, false, false, false, false, false, false, false, false, false, false, false, false, false] rfl rfl (by kernel_rfl) (fun _ _ _ h => h) (Or.inl ⟨by rfl, ?_⟩) ?_ ?_
  rotate_left
  · intro w'
    go_simp
    with_reducible rfl
  rotate_left
  · simp only [Act.put, List.setIfInBounds_toArray, List.set_cons_zero, List.set_cons_succ, i64_w, i32_w]
    rfl
  refine pure_ (i := 1) (N := some 5) (v := ?_) (a' := ?_) #[true, true, false, false, false, false, false, false, false, false, false, false, false, false, false, false, false, false, false] rfl rfl (by kernel_rfl) (fun _ _ _ h => h) (Or.inl ⟨by rfl, ?_⟩) ?_ ?_
  rotate_left
  · intro w'
    go_simp
    with_reducible rfl
  rotate_left
  · simp only [Act.put, List.setIfInBounds_toArray, List.set_cons_zero, List.set_cons_succ, i64_w, i32_w]
    rfl
  refine pure_ (i := 2) (N := some 6) (v := ?_) (a' := ?_) #[true, true, true, false, false, false, false, false, false, false, false, false, false, false, false, false, false, false, false] rfl rfl (by kernel_rfl) (fun _ _ _ h => h) (Or.inl ⟨by rfl, ?_⟩) ?_ ?_
  rotate_left
  · intro w'
    go_simp
    with_reducible rfl
  rotate_left
  · simp only [Act.put, List.setIfInBounds_toArray, List.set_cons_zero, List.set_cons_succ, i64_w, i32_w]
    rfl
  refine pure_ (i := 4) (N := some 8) (v := ?_) (a' := ?_) #[true, true, true, false, true, false, false, false, false, false, false, false, false, false, false, false, false, false, false] rfl rfl (by kernel_rfl) (fun _ _ _ h => h) (Or.inl ⟨by rfl, ?_⟩) ?_ ?_
  rotate_left
  · intro w'
    go_simp
    with_reducible rfl
  rotate_left
  · simp only [Act.put, List.setIfInBounds_toArray, List.set_cons_zero, List.set_cons_succ, i64_w, i32_w]
    rfl
  refine pure_ (i := 5) (N := some 9) (v := ?_) (a' := ?_) #[true, true, true, false, true, true, false, false, false, false, false, false, false, false, false, false, false, false, false] rfl rfl (by kernel_rfl) (fun _ _ _ h => h) (Or.inl ⟨by rfl, ?_⟩) ?_ ?_
  rotate_left
  · intro w'
    go_simp
    with_reducible rfl
  rotate_left
  · simp only [Act.put, List.setIfInBounds_toArray, List.set_cons_zero, List.set_cons_succ, i64_w, i32_w]
    rfl
  refine pure_ (i := 6) (N := some 10) (v := ?_) (a' := ?_) #[true, true, true, false, true, true, true, false, false, false, false, false, false, false, false, false, false, false, false] rfl rfl (by kernel_rfl) (fun _ _ _ h => h) (Or.inl ⟨by rfl, ?_⟩) ?_ ?_
  rotate_left
  · intro w'
    go_simp
    with_reducible rfl
  rotate_left
  · simp only [Act.put, List.setIfInBounds_toArray, List.set_cons_zero, List.set_cons_succ, i64_w, i32_w]
    rfl
  refine pure_ (i := 7) (N := some 11) (v := ?_) (a' := ?_) #[true, true, true, false, true, true, true, true, false, false, false, false, false, false, false, false, false, false, false] rfl rfl (by kernel_rfl) (fun _ _ _ h => h) (Or.inl ⟨by rfl, ?_⟩) ?_ ?_
  rotate_left
  · intro w'
    go_simp
    with_reducible rfl
  rotate_left
  · simp only [Act.put, List.setIfInBounds_toArray, List.set_cons_zero, List.set_cons_succ, i64_w, i32_w]
    rfl
  refine pure_ (i := 9) (N := some 13) (v := ?_) (a' := ?_) #[true, true, true, false, true, true, true, true, false, true, false, false, false, false, false, false, false, false, false] rfl rfl (by kernel_rfl) (fun _ _ _ h => h) (Or.inl ⟨by rfl, ?_⟩) ?_ ?_
  rotate_left
  · intro w'
    go_simp
    with_reducible rfl
  rotate_left
  · simp only [Act.put, List.setIfInBounds_toArray, List.set_cons_zero, List.set_cons_succ, i64_w, i32_w]
    rfl
  refine pure_ (i := 12) (N := some 16) (v := ?_) (a' := ?_) #[true, true, true, false, true, true, true, true, false, true, false, false, true, false, false, false, false, false, false] rfl rfl (by kernel_rfl) (fun _ _ _ h => h) (Or.inl ⟨by rfl, ?_⟩) ?_ ?_
  rotate_left
  · intro w'
    go_simp
    with_reducible rfl
  rotate_left
  · simp only [Act.put, List.setIfInBounds_toArray, List.set_cons_zero, List.set_cons_succ, i64_w, i32_w]
    rfl
  refine pure_ (i := 13) (N := some 17) (v := ?_) (a' := ?_) #[true, true, true, false, true, true, true, true, false, true, false, false, true, true, false, false, false, false, false] rfl rfl (by kernel_rfl) (fun _ _ _ h => h) (Or.inl ⟨by rfl, ?_⟩) ?_ ?_
  rotate_left
  · intro w'
    go_simp
    with_reducible rfl
  rotate_left
  · simp only [Act.put, List.setIfInBounds_toArray, List.set_cons_zero, List.set_cons_succ, i64_w, i32_w]
    rfl
  refine pure_ (i := 14) (N := some 18) (v := ?_) (a' := ?_) #[true, true, true, false, true, true, true, true, false, true, false, false, true, true, true, false, false, false, false] rfl rfl (by kernel_rfl) (fun _ _ _ h => h) (Or.inl ⟨by rfl, ?_⟩) ?_ ?_
  rotate_left
  · intro w'
    go_simp
    with_reducible rfl
  rotate_left
  · simp only [Act.put, List.setIfInBounds_toArray, List.set_cons_zero, List.set_cons_succ, i64_w, i32_w]
    rfl
  refine take_ (i := 3) (N := some 7) (v := ?_) (a' := ?_) #[true, true, true, true, true, true, true, true, false, true, false, false, true, true, true, false, false, false, false] rfl rfl (by kernel_rfl) (fun _ _ _ h => h) (Or.inl ⟨by rfl, ?_⟩) hHeld ?_ ?_
  rotate_left
  · rintro w' ⟨s0, s1, s2⟩
    go_simp
    with_reducible rfl
  rotate_left
  · simp only [Act.put, List.setIfInBounds_toArray, List.set_cons_zero, List.set_cons_succ, i64_w, i32_w]
    rfl
  refine take_ (i := 8) (N := some 12) (v := ?_) (a' := ?_) #[true, true, true, true, true, true, true, true, true, true, false, false, true, true, true, false, false, false, false] rfl rfl (by kernel_rfl) (fun _ _ _ h => h) (Or.inl ⟨by rfl, ?_⟩) hHeld ?_ ?_
  rotate_left
  · rintro w' ⟨s0, s1, s2⟩
    go_simp
    with_reducible rfl
  rotate_left
  · simp only [Act.put, List.setIfInBounds_toArray, List.set_cons_zero, List.set_cons_succ, i64_w, i32_w]
    rfl
  refine pure_ (i := 10) (N := some 14) (v := ?_) (a' := ?_) #[true, true, true, true, true, true, true, true, true, true, true, false, true, true, true, false, false, false, false] rfl rfl (by kernel_rfl) (fun _ _ _ h => h) (Or.inl ⟨by rfl, ?_⟩) ?_ ?_
  rotate_left
  · intro w'
    go_simp
    with_reducible rfl
  rotate_left
  · simp only [Act.put, List.setIfInBounds_toArray, List.set_cons_zero, List.set_cons_succ, i64_w, i32_w]
    rfl
  refine take_ (i := 11) (N := some 15) (v := ?_) (a' := ?_) #[true, true, true, true, true, true, true, true, true, true, true, true, true, true, true, false, false, false, false] rfl rfl (by kernel_rfl) (fun _ _ _ h => h) (Or.inl ⟨by rfl, ?_⟩) hHeld ?_ ?_
  rotate_left
  · rintro w' ⟨s0, s1, s2⟩
    go_simp
    with_reducible rfl
  rotate_left
  · simp only [Act.put, List.setIfInBounds_toArray, List.set_cons_zero, List.set_cons_succ, i64_w, i32_w]
    rfl
  refine take_ (i := 15) (N := some 19) (v := ?_) (a' := ?_) #[true, true, true, true, true, true, true, true, true, true, true, true, true, true, true, true, false, false, false] rfl rfl (by kernel_rfl) (fun _ _ _ h => h) (Or.inl ⟨by rfl, ?_⟩) hHeld ?_ ?_
  rotate_left
  · rintro w' ⟨s0, s1, s2⟩
    go_simp
    with_reducible rfl
  rotate_left
  · simp only [Act.put, List.setIfInBounds_toArray, List.set_cons_zero, List.set_cons_succ, i64_w, i32_w]
    rfl
  refine one_ (i := 16) (N := some 20) #[true, true, true, true, true, true, true, true, true, true, true, true, true, true, true, true, true, false, false] rfl rfl (by kernel_rfl) (by decide) (fun K hK => ?_)
  refine goes_ Try.func55 (by kernel_rfl) rfl #[.float .f64 x, .float .f64 s.by_] (by rfl) rfl rfl (by simp only [List.map_toArray, List.map_cons, List.map_nil]; rfl) ?_
  with_reducible refine (weigh_Bump.calls x s.by_ y _ HY.out).mono ?_
  rintro e w' ⟨rfl, ⟨nd, rfl⟩⟩
  refine ⟨_, rfl, ?_⟩
  refine hK.out _ _ ⟨hHeld.1, hHeld.2.1, hHeld.2.2⟩ (fun hHeld => ?_)
  clear hK K
  refine norm_ (a' := ?_) ?_ ?_
  rotate_left
  · show Act.put _ (some 20) _ = _
    simp only [Act.put, List.setIfInBounds_toArray, List.set_cons_zero, List.set_cons_succ, i64_w, i32_w]
    rfl
  refine pure_ (i := 17) (N := some 21) (v := ?_) (a' := ?_) #[true, true, true, true, true, true, true, true, true, true, true, true, true, true, true, true, true, true, false] rfl rfl (by kernel_rfl) (fun _ _ _ h => h) (Or.inl ⟨by rfl, ?_⟩) ?_ ?_
  rotate_left
  · intro w'
    go_simp
    with_reducible rfl
  rotate_left
  · simp only [Act.put, List.setIfInBounds_toArray, List.set_cons_zero, List.set_cons_succ, i64_w, i32_w]
    rfl
  refine last_ (i := 18) (N := none) #[true, true, true, true, true, true, true, true, true, true, true, true, true, true, true, true, true, true, true] rfl rfl (by kernel_rfl) (by decide) (fun K hK => ?_)
  refine skip_ (w1 := ?_) (by rfl) rfl ?_ ?_
  rotate_left
  · go_simp
    rfl
  refine hK.out _ _ ?_
  clear hK K
  refine done_ (by kernel_rfl) ?_

  go_wp2
  go_end0
  have Q := Pool.put (pre := [_, _, _, _, _, _, _]) (PP.out.drewN (1 + nd)) v.toNat (.float .f64 y)
  rw [show (f64s s.weights).set v.toNat (.float .f64 y) = f64s (s.weights.set v.toNat y) from mapset _ _ _ _] at Q
  exact ⟨rfl, below_set (pw_below_drewN HB.out (1 + nd)) HG.out, Q⟩
theorem grown_refl (w : World) (row : Option Nat) : w.grownBy w row := ⟨rfl, rfl, rfl, Nat.le_refl _, fun _ _ _ => rfl⟩
theorem sol_cut_t {w : World} {B g n c : Nat} {A : Option Addr} {vc vv vl vr vo vw vm : Value} {us0 : List Value} {lp : List (Value × List Int)} {s : St} (P : Pool w B (solRows g vc vv vl vr (.slice A n c) vo vw vm us0 lp s)) (m : Nat) (hm : m ≤ s.trail.length) :
    Pool (w.setCell ⟨g, 4, none⟩ (.slice A m c)) B (solRows g vc vv vl vr (.slice A m c) vo vw vm us0 lp { s with trail := s.trail.take m }) := by
  have ht := own_take (sol_t P) m (by unfold i64s; rw [List.length_map]; exact hm)
  have P1 := Pool.upd (pre := [_, _, _, _, _]) P (grown_refl w _) ht (Or.inl (by cases A <;> rfl))
  have P2 := Pool.put (pre := []) P1 4 (.slice A m c)
  rw [show (i64s s.trail).take m = i64s (s.trail.take m) from List.map_take.symm] at P2
  exact P2
theorem sol_cut_o {w : World} {B g n c : Nat} {A : Option Addr} {vc vv vl vr vt vw vm : Value} {us0 : List Value} {lp : List (Value × List Int)} {s : St} (P : Pool w B (solRows g vc vv vl vr vt (.slice A n c) vw vm us0 lp s)) (m : Nat) (hm : m ≤ s.chosen.length) :
    Pool (w.setCell ⟨g, 5, none⟩ (.slice A m c)) B (solRows g vc vv vl vr vt (.slice A m c) vw vm us0 lp { s with chosen := s.chosen.take m }) := by
  have ht := own_take (sol_o P) m (by unfold i64s; rw [List.length_map]; exact hm)
  have P1 := Pool.upd (pre := [_, _, _, _, _, _]) P (grown_refl w _) ht (Or.inl (by cases A <;> rfl))
  have P2 := Pool.put (pre := []) P1 5 (.slice A m c)
  rw [show (i64s s.chosen).take m = i64s (s.chosen.take m) from List.map_take.symm] at P2
  exact P2
def unsetF : List Int → List Int → Option (List Int)
  | [], val => some val
  | n :: l, val => if sizeI n < val.length then unsetF l (val.set (sizeI n).toNat 0) else none
def forgetF (s : St) (level : Int) : Option St :=
  if level = s.chosen.length then some s else
  (gi s.chosen level).bind fun m => if 0 ≤ m ∧ m ≤ s.trail.length then (unsetF (s.trail.drop m.toNat) s.value).map fun val => { s with value := val, trail := s.trail.take m.toNat, chosen := s.chosen.take level.toNat } else none
theorem own_reads {α : Type} {enc : α → Value} (d : α) {w : World} {B : Nat} {e : TypeId} {A : Option Addr} {n c : Nat} {l : List α} (h : (Row.mk e (.slice A n c) (l.map enc)).own w B) : ReadsOf enc d w A l.length l := by
  have hm := own_max h
  have hn := own_len h
  have hl : (l.map enc).length = l.length := List.length_map _
  simp only [hl] at hm hn
  refine ⟨rfl, by unfold maxLen at hm; omega, fun hp => ?_⟩
  obtain ⟨A', c', e', _, hA⟩ := own_slice' h
  obtain ⟨b, rfl, _⟩ := hA (by show 0 < (l.map enc).length; omega)
  injection e' with e1 _ _
  subst e1
  refine ⟨⟨b, 0, none⟩, rfl, fun j hj => ?_⟩
  have ha : (⟨b, 0, none⟩ : Addr).add j = ⟨b, j, none⟩ := by unfold Addr.add; split <;> simp_all
  rw [ha]
  refine own_cell h j _ ?_
  rw [List.getElem?_map, List.getElem?_eq_getElem hj, List.getD_eq_getElem?_getD, List.getElem?_eq_getElem hj]; rfl
theorem sol_put_v {w : World} {B g b n c : Nat} {vc vl vr vt vo vw vm : Value} {us0 : List Value} {lp : List (Value × List Int)} {s : St} (P : Pool w B (solRows g vc (.slice (some ⟨b, 0, none⟩) n c) vl vr vt vo vw vm us0 lp s)) (i : Nat) (y : Int) :
    Pool (w.setCell ⟨b, i, none⟩ (.int .i8 y)) B (solRows g vc (.slice (some ⟨b, 0, none⟩) n c) vl vr vt vo vw vm us0 lp { s with value := s.value.set i y }) := by
  have := Pool.put (pre := [_, _]) P i (.int .i8 y)
  rw [show (i8s s.value).set i (.int .i8 y) = i8s (s.value.set i y) from mapset _ _ _ _] at this
  exact this
theorem unsetF_len {l val val' : List Int} (h : unsetF l val = some val') : val'.length = val.length := by
  induction l generalizing val with
  | nil => cases h; rfl
  | cons n l ih =>
    rw [unsetF] at h
    split at h
    · rw [ih h, List.length_set]
    · cases h
set_option maxHeartbeats 4000000 in
set_option maxRecDepth 100000 in
theorem forget_calls (W w : World) (g : Nat) (us0 : List Value) (cl0 : List (List Int)) (s s' : St) (h : Sol W w g us0 cl0 s) (hb : ∀ n ∈ s.trail, -1000000 ≤ n ∧ n ≤ 1000000) (level : Int) (hs : forgetF s level = some s') :
    Calls Try.prog 27 #[.pointer (some ⟨g, 0, none⟩), .int .i64 level] w fun e w' => e = .returned (.tuple #[]) ∧ Sol W w' g us0 cl0 s' := by
  obtain ⟨hbel, vc, vv, vl, vr, vt, vo, vw, vm, lp, P, hlm, hcl⟩ := h
  unfold forgetF at hs
  obtain ⟨g0, g1, g2, g3, g4, g5, g6, g7, g8, gf⟩ := sol_box P
  obtain ⟨A5, c5, rfl, l5⟩ := row_len (sol_o P)
  by_cases c0 : level = s.chosen.length
  · rw [if_pos c0] at hs
    obtain rfl := Option.some.inj hs
    have d0 : (level == (s.chosen.length : Int)) = true := beq_iff_eq.mpr c0
    have HS := Aside0.mk (show Sol W w g us0 cl0 s from ⟨hbel, _, _, _, _, _, _, _, _, lp, P, hlm, hcl⟩)
    clear P hbel c0 hs hlm hcl g0 g1 g2 g3 g4 g6 g7 g8 gf
    go_enter Try.func27, Try.ntmps27
    go_wp2
    refine bodyPost_ret (results_none rfl _ _ _) rfl ?_
    exact ⟨rfl, HS.out⟩
  · rw [if_neg c0] at hs
    have d0 : (level == (s.chosen.length : Int)) = false := beq_eq_false_iff_ne.mpr c0
    obtain ⟨m, hm, hs⟩ := Option.bind_eq_some_iff.mp hs
    by_cases hmm : 0 ≤ m ∧ m ≤ s.trail.length
    · rw [if_pos hmm] at hs
      obtain ⟨val', hval, rfl⟩ := Option.map_eq_some_iff.1 hs
      obtain ⟨m0, m1⟩ := hmm
      obtain ⟨i0, i1, i2⟩ := gi_some hm
      obtain ⟨bo, co, eo, xo, _, hco⟩ := row_at (sol_o P) level.toNat m i1
      injection eo with e1 _ e2
      subst e1
      subst e2
      obtain ⟨A4, c4, rfl, l4⟩ := row_len (sol_t P)
      have ht4 : s.trail.length ≤ c4 := by obtain ⟨_, _, ee, hh, _⟩ := own_slice' (sol_t P); injection ee with _ _ e3; subst e3; have : (i64s s.trail).length = s.trail.length := List.length_map _; have hh2 : (i64s s.trail).length ≤ c4 := hh; omega
      have hc5' := Aside0.mk hco
      obtain ⟨it, hit, _, hsz, _⟩ := info_parts info3
      obtain ⟨A6, hcut, hA6, hc6⟩ := print_drop_of (P := Try.prog) (Value.int .i64) (0 : Int) 32 3 .i64 Try.underlying32 hit hsz A4 c4 s.trail m m0 m1 ht4
      have d1 : decide (0 ≤ level) = true := decide_eq_true i0
      have d2 : decide (level < (s.chosen.length : Int)) = true := decide_eq_true i2
      have e1 := eq_true i0
      have e2 := eq_true i2
      have PP := Aside0.mk P
      have HB := Aside0.mk hbel
      have HV := Aside0.mk hval
      have HT := Aside0.mk (show ∀ n ∈ s.trail.drop m.toNat, -1000000 ≤ n ∧ n ≤ 1000000 from fun n hn => hb n (List.mem_of_mem_drop hn))
      have HA := Aside0.mk hA6
      have LL := Aside0.mk (show (s.trail.drop m.toNat).length ≤ maxLen by rw [List.length_drop]; omega)
      have i1' := i1
      clear P hbel hb hs hval c0 hm i1 g0 g1 g2 g3 g6 g7 g8 gf hA6 hit hsz
      go_enter Try.func27, Try.ntmps27
      go_wp2
      go_region
      go_wp2
      have P1 := Aside0.mk PP.out.drew
      have HB1 := Aside0.mk (below_drew1 HB.out)
      clear PP HB g4 g5 xo
      generalize w.drew = w1 at P1 HB1 ⊢
      generalize hL : s.trail.drop m.toNat = L at *
      have hLl : s.trail.length - m.toNat = L.length := by rw [← hL, List.length_drop]
      have HLl := Aside0.mk hLl
      rw [hLl]
      go_loopw [26] (fun v wr => ∃ (k : Nat) (val : List Int), v = .int .i64 (k : Int) ∧ Aside0 (k ≤ L.length) ∧ Aside0 (Pool wr W.heap.size (solRows g vc vv vl vr (.slice A4 s.trail.length c4) (.slice (some ⟨bo, 0, none⟩) s.chosen.length c5) vw vm us0 lp { s with value := val })) ∧ Aside0 (Below W.heap.size W wr) ∧ Aside0 (unsetF (L.drop k) val = some val')) (fun v _ => L.length - (intOf v).toNat)
      case atStart => exact ⟨0, s.value, rfl, ⟨Nat.zero_le _⟩, P1, HB1, ⟨by rw [List.drop_zero]; exact HV.out⟩⟩
      case round =>
        clear P1 HB1 HV
        obtain ⟨k, val, rfl, HK, P1, HB1, HV⟩ := hrel
        by_cases hlt : k < L.length
        · obtain ⟨n, hn, hd, hmem⟩ := drop_at L k hlt
          have hv := HV.out
          rw [hd, unsetF] at hv
          have ht := sol_t P1.out
          have hrd := HA.out wr (own_reads 0 ht)
          clear ht
          obtain ⟨ad, rfl, hx⟩ := ReadsOf.at_ hrd (k : Int) (by omega) (by omega)
          have en : rdOf (0 : Int) L (k : Int) = n := by unfold rdOf; rw [Int.toNat_natCast, List.getD_eq_getElem?_getD, hn]; rfl
          rw [en, Int.toNat_natCast] at hx
          have hnb := HT.out n hmem
          have SC := Aside0.mk (fun ww => size_calls n ww hnb)
          have hz0 : 0 ≤ sizeI n := by unfold sizeI; split <;> omega
          by_cases hlv : sizeI n < val.length
          · rw [if_pos hlv] at hv
            obtain ⟨b, cv, y0, rfl, xv, fv, _⟩ := row_st (sol_v P1.out) (sizeI n).toNat (by show (sizeI n).toNat < val.length; omega)
            obtain ⟨g0, g1, _⟩ := sol_box P1.out
            generalize hzz : sizeI n = z at *
            have HV2 := Aside0.mk hv
            have d0 : decide (k < L.length) = true := decide_eq_true hlt
            have d1 : decide (0 ≤ z) = true := decide_eq_true hz0
            have d2 : decide (z < (val.length : Int)) = true := decide_eq_true hlv
            have e1 := eq_true hz0
            have e2 := eq_true hlv
            have HGE := Aside0.mk (show W.heap.size ≤ b from sol_ge (sol_v P1.out))
            have hkb : k < 9223372036854775807 := by have := LL.out; unfold maxLen at this; omega
            clear hv HV hzz hz0 hlv hn hd hmem hrd HT HA en g0 hL hLl
            go_wp2
            refine start_ (n := 8) (S := fun w' => w'.cell? ⟨g, 1, none⟩ = some (.slice (some ⟨b, 0, none⟩) val.length cv)) (ds := [7]) #[false, false, false, false, false, false, false, false] (by kernel_rfl) rfl rfl (g1) (fun hHeld => ?_)
            refine pure_ (i := 0) (N := some 30) (v := ?_) (a' := ?_) #[true, false, false, false, false, false, false, false] rfl rfl (by kernel_rfl) (fun _ _ _ h => h) (Or.inl ⟨by rfl, ?_⟩) ?_ ?_
            rotate_left
            · intro w'
              go_simp
              with_reducible rfl
            rotate_left
            · simp only [Act.put, List.setIfInBounds_toArray, List.set_cons_zero, List.set_cons_succ, i64_w, i32_w]
              rfl
            refine pure_ (i := 1) (N := some 31) (v := ?_) (a' := ?_) #[true, true, false, false, false, false, false, false] rfl rfl (by kernel_rfl) (fun _ _ _ h => h) (Or.inl ⟨by rfl, ?_⟩) ?_ ?_
            rotate_left
            · intro w'
              go_simp
              with_reducible rfl
            rotate_left
            · simp only [Act.put, List.setIfInBounds_toArray, List.set_cons_zero, List.set_cons_succ, i64_w, i32_w]
              rfl
            refine pure_ (i := 2) (N := some 32) (v := ?_) (a' := ?_) #[true, true, true, false, false, false, false, false] rfl rfl (by kernel_rfl) (fun _ _ _ h => h) (Or.inl ⟨by rfl, ?_⟩) ?_ ?_
            rotate_left
            · intro w'
              go_simp
              with_reducible rfl
            rotate_left
            · simp only [Act.put, List.setIfInBounds_toArray, List.set_cons_zero, List.set_cons_succ, i64_w, i32_w]
              rfl
            refine pure_ (i := 4) (N := some 34) (v := ?_) (a' := ?_) #[true, true, true, false, true, false, false, false] rfl rfl (by kernel_rfl) (fun _ _ _ h => h) (Or.inl ⟨by rfl, ?_⟩) ?_ ?_
            rotate_left
            · intro w'
              go_simp
              with_reducible rfl
            rotate_left
            · simp only [Act.put, List.setIfInBounds_toArray, List.set_cons_zero, List.set_cons_succ, i64_w, i32_w]
              rfl
            refine take_ (i := 3) (N := some 33) (v := ?_) (a' := ?_) #[true, true, true, true, true, false, false, false] rfl rfl (by kernel_rfl) (fun _ _ _ h => h) (Or.inl ⟨by rfl, ?_⟩) hHeld ?_ ?_
            rotate_left
            · intro w' s0
              go_simp
              with_reducible rfl
            rotate_left
            · simp only [Act.put, List.setIfInBounds_toArray, List.set_cons_zero, List.set_cons_succ, i64_w, i32_w]
              rfl
            refine one_ (i := 5) (N := some 35) #[true, true, true, true, true, true, false, false] rfl rfl (by kernel_rfl) (by decide) (fun K hK => ?_)
            refine goes_ Try.func42 (by kernel_rfl) rfl #[.int .i64 n] (by rfl) rfl rfl (by simp only [List.map_toArray, List.map_cons, List.map_nil]; rfl) ?_
            with_reducible refine ((SC.out _)).mono ?_
            rintro e w' ⟨rfl, rfl⟩
            refine ⟨_, rfl, ?_⟩
            refine hK.out _ _ (hHeld) (fun hHeld => ?_)
            clear hK K
            refine norm_ (a' := ?_) ?_ ?_
            rotate_left
            · show Act.put _ (some 35) _ = _
              simp only [Act.put, List.setIfInBounds_toArray, List.set_cons_zero, List.set_cons_succ, i64_w, i32_w]
              rfl
            refine pure_ (i := 6) (N := some 36) (v := ?_) (a' := ?_) #[true, true, true, true, true, true, true, false] rfl rfl (by kernel_rfl) (fun _ _ _ h => h) (Or.inl ⟨by rfl, ?_⟩) ?_ ?_
            rotate_left
            · intro w'
              go_simp
              with_reducible rfl
            rotate_left
            · simp only [Act.put, List.setIfInBounds_toArray, List.set_cons_zero, List.set_cons_succ, i64_w, i32_w]
              rfl
            refine last_ (i := 7) (N := none) #[true, true, true, true, true, true, true, true] rfl rfl (by kernel_rfl) (by decide) (fun K hK => ?_)
            refine skip_ (w1 := ?_) (by rfl) rfl ?_ ?_
            rotate_left
            · go_simp
              rfl
            refine hK.out _ _ ?_
            clear hK K
            refine done_ (by kernel_rfl) ?_

            go_wp2
            go_roundw
            case rel => exact ⟨k + 1, _, by go_num, ⟨hlt⟩, ⟨sol_put_v (P1.out.drew) z.toNat 0⟩, ⟨below_set (below_drew1 HB1.out) HGE.out⟩, HV2⟩
            case measure => simp [intOf]; omega
          · rw [if_neg hlv] at hv; cases hv
        · have d0 : decide (k < L.length) = false := decide_eq_false hlt
          have hv := HV.out
          rw [List.drop_eq_nil_of_le (by omega), unsetF] at hv
          obtain rfl := Option.some.inj hv
          obtain ⟨_, _, _, _, g4, g5, _, _, _, gf⟩ := sol_box P1.out
          have gf4 := gf 4
          obtain ⟨xo, _⟩ := box_at (pre := [_, _, _, _, _, _]) P1.out level.toNat (.int .i64 m) (by show (i64s s.chosen)[level.toNat]? = _; unfold i64s; rw [List.getElem?_map, i1']; rfl)
          have dm0 : decide (0 ≤ m) = true := decide_eq_true m0
          have dm1 : decide (m ≤ (c4 : Int)) = true := decide_eq_true (by omega)
          clear hv HV gf hlt HT HA hL hLl
          go_wp2
          go_region
          have P2 := (sol_cut_t P1.out m.toNat (by show m.toNat ≤ s.trail.length; omega)).drew
          have HB2 := Aside0.mk (below_drew1 (below_set HB1.out (show W.heap.size ≤ g from sol_ge (Pool.at_ (pre := []) P1.out)) (j := 4) (v := .slice A4 m.toNat c4)))
          generalize (wr.setCell ⟨g, 4, none⟩ (.slice A4 m.toNat c4)).drew = w2 at P2 HB2 ⊢
          clear g4 g5 gf4 xo P1 HB1
          obtain ⟨_, _, _, _, _, g5, _, _, _, gf⟩ := sol_box P2
          have gf5 := gf 5
          have PP := Aside0.mk P2
          clear P2 gf
          have hc5 : s.chosen.length ≤ c5 := hc5'.out
          have dl1 : decide (level ≤ (c5 : Int)) = true := decide_eq_true (by omega)
          go_wp2
          go_end0
          have P3 := sol_cut_o PP.out level.toNat (by show level.toNat ≤ s.chosen.length; omega)
          exact ⟨rfl, below_set HB2.out (show W.heap.size ≤ g from sol_ge (Pool.at_ (pre := []) PP.out)), _, _, _, _, _, _, _, _, lp, P3, by first | exact hlm | rfl, by first | exact hcl | rfl⟩
    · rw [if_neg hmm] at hs; cases hs

end Go.Proofs.Ytmdjlhmifhnpdaa.SatW
namespace Go.Proofs.Ytmdjlhmifhnpdaa.SatW
set_option linter.unusedVariables false
set_option linter.unusedSimpArgs false
open Go.RowKit Go.Proofs.YtmdjlhmifhnpdaaW.PrintWords Go.Proofs.YtmdjlhmifhnpdaaW.PrintLast Go.Proofs.Ytmdjlhmifhnpdaa.B

theorem own_mono {w : World} {B b : Nat} {r : Row} (h : r.own w b) (hB : B ≤ b) : r.own w B := by
  refine ⟨h.1, ?_⟩
  rcases h.2 with h' | ⟨g, cap, cur, h1, h2, h3⟩
  · exact Or.inl h'
  · exact Or.inr ⟨g, cap, cur, h1, by omega, h3⟩
/-- A row that a call made, beside the pool. -/
theorem Pool.fresh {w w' : World} {B : Nat} {L : List Row} {r : Row} (h : Pool w B L) (hb : Below w.heap.size w w') (hB : B ≤ w.heap.size) (ho : r.own w' w.heap.size) : Pool w' B (L ++ [r]) := by
  refine h.push ⟨hb.os, hb.tape, hb.output, hb.size, fun k hk _ => hb.block k hk⟩ (own_mono ho hB) ?_
  cases hk : r.v.ownBlock with
  | none => exact Or.inl rfl
  | some k => exact Or.inr ⟨k, rfl, (ho.lt hk).1⟩
theorem own_of_scalar {α : Type} {enc : α → Value} {h1 : ∀ x, (enc x).oneCell' = true} {e : Nat} {w : World} {base : Nat} {ok : Nat → Prop} {v : Value} {xs : List α} (h : (Kd.scalar enc h1).R e w base ok v xs) : (Row.mk e v (xs.map enc)).own w base := by
  have := Kd.own_of_R h
  show World.ownsRow w base e 1 v (xs.map enc).length _
  rw [List.length_map]; exact this
theorem info44 : (Try.prog.info? 44).map (fun i => (i.zero, i.size, i.bytes)) = some (some (.float .f64 0), 1, 8) := by kernel_rfl
theorem info32 : (Try.prog.info? 32).map (fun i => (i.zero, i.size, i.bytes)) = some (some (.slice none 0 0), 1, 24) := by kernel_rfl
theorem clone38 (a : Addr) (c0 : Nat) (l0 : List Nat) (w : World) (hr0 : Kd.C Kd.f64 w (some a) l0.length l0) (hl : l0.length < 17592186044416) :
    Calls Try.prog 38 #[.slice (some a) l0.length c0] w fun e w' => ∃ v, e = .returned v ∧ (Row.mk 44 v (f64s l0)).own w' w.heap.size ∧ Below w.heap.size w w' := by
  have HR0 := Aside0.mk hr0
  have HB := Aside0.mk (Below.refl w.heap.size w)
  have HL := Aside0.mk hl
  clear hr0 hl
  have hn := fun W => Lib.run_eql_slice_nil (P := Try.prog) W 43 44 (some a) l0.length c0 0 0 Try.underlying43
  go_enter Try.func38, Try.ntmps38
  go_wp2_with (first | ((with_reducible refine gate_dst (N := 5) rfl ?_); refine Kd.R_lit Kd.f64 w.heap.size 44 ?hg (N := 5) ?hd (xs := ([] : List Nat)) (inner := []) (ok := fun _ => True) (okp := fun _ => True) ?hr ?hp (fun _ hk => hk) trivial HB.out (Nat.le_refl _) (by simp) ?_; (case hd => rfl); (case hg => rfl); (case hr => first | (go_simp; done) | (go_simp; rfl)); (case hp => exact (Reps.none _ _)); intro v1 w1 ho1 hb1 hg1 hnew1; clear hg1 hnew1; have HO1 := Aside0.mk ho1; have HB1 := Aside0.mk hb1; clear ho1 hb1) | ((with_reducible refine gate_builtin (b := .append) (xs := #[.tmp 5, .tmp 6]) rfl ?_); at_builtin; refine Kd.R_append_rows Kd.f64 (w0 := w) w.heap.size rfl (.tmp 5) (.tmp 6) 43 44 (.float .f64 0) 8 rfl Try.underlying43 info44 rfl (by decide) (by decide) v1 [] l0 (some a) l0.length c0 (fun _ => True) (fun _ => False) ?hs ?hx HO1.out ?hR (fun _ _ h => h) (fun _ h => h.elim) (fun _ _ => trivial) HB1.out ?hS ?hL ?_; (case hs => rfl); (case hx => rfl); (case hR => exact Kd.C_below HR0.out HB1.out); (case hS => exact HB1.out.size); (case hL => have := HL.out; simp only [List.length_nil]; omega); intro v2 w2 ho2 hb2 hg2 hat2; clear hg2 hat2; have HO2 := Aside0.mk ho2; have HB2 := Aside0.mk hb2; clear ho2 hb2))
  go_ret
  exact ⟨v2, rfl, own_of_scalar HO2.out, HB2.out⟩
def nanBits : Nat := 9221120237041090561
def maskK (val : List Int) (ws : List Nat) (k : Nat) : List Nat := (List.range ws.length).map fun v => if v < k ∧ (v = 0 ∨ val.getD v 0 ≠ 0) then nanBits else ws.getD v 0
theorem mask_at (val : List Int) (ws : List Nat) (k i : Nat) : (maskK val ws k)[i]? = if i < ws.length then some (if i < k ∧ (i = 0 ∨ val.getD i 0 ≠ 0) then nanBits else ws.getD i 0) else none := by
  unfold maskK
  rw [List.getElem?_map]
  by_cases c : i < ws.length
  · rw [if_pos c, List.getElem?_range c]; rfl
  · rw [if_neg c, List.getElem?_eq_none (by simp; omega)]; rfl
theorem mask_len (val : List Int) (ws : List Nat) (k : Nat) : (maskK val ws k).length = ws.length := by unfold maskK; simp
theorem mask_zero (val : List Int) (ws : List Nat) : maskK val ws 0 = ws := by
  apply List.ext_getElem?
  intro i
  rw [mask_at]
  by_cases c : i < ws.length
  · rw [if_pos c, if_neg (by omega), List.getD_eq_getElem?_getD, List.getElem?_eq_getElem c]; rfl
  · rw [if_neg c, List.getElem?_eq_none (by omega)]
theorem mask_set (val : List Int) (ws : List Nat) (k : Nat) (h : k = 0 ∨ val.getD k 0 ≠ 0) : maskK val ws (k + 1) = (maskK val ws k).set k nanBits := by
  apply List.ext_getElem?
  intro i
  rw [List.getElem?_set, mask_at, mask_at, mask_len]
  by_cases e : k = i
  · subst e
    rw [if_pos rfl]
    by_cases c : k < ws.length
    · rw [if_pos c, if_pos c, if_pos ⟨by omega, h⟩]
    · rw [if_neg c, if_neg c]
  · rw [if_neg e]
    have : (i < k + 1) = (i < k) := by rw [eq_iff_iff]; omega
    simp only [this]
theorem mask_same (val : List Int) (ws : List Nat) (k : Nat) (h : ¬ (k = 0 ∨ val.getD k 0 ≠ 0)) : maskK val ws (k + 1) = maskK val ws k := by
  apply List.ext_getElem?
  intro i
  rw [mask_at, mask_at]
  by_cases e : k = i
  · subst e
    have h1 : ¬ (k < k + 1 ∧ (k = 0 ∨ val.getD k 0 ≠ 0)) := fun q => h q.2
    have h2 : ¬ (k < k ∧ (k = 0 ∨ val.getD k 0 ≠ 0)) := fun q => h q.2
    simp only [if_neg h1, if_neg h2]
  · have : (i < k + 1) = (i < k) := by rw [eq_iff_iff]; omega
    simp only [this]
def chooseF (s : St) : Option (St × Bool) :=
  if 0 < s.weights.length ∧ s.weights.length ≤ s.value.length ∧ s.weights.length ≤ 1000000 ∧ s.chosen.length < lim then
    (weigh_Heavy.f (maskK s.value s.weights s.weights.length)).bind fun v => (gi (maskK s.value s.weights s.weights.length) v).bind fun x =>
      if fNe x x = true then some (s, false) else (setF { s with chosen := s.chosen ++ [(s.trail.length : Int)] } (-v) (-1)).map fun s' => (s', true)
  else none
theorem sol_app_o {w : World} {B g : Nat} {vc vv vl vr vt vo vw vm : Value} {us0 : List Value} {lp : List (Value × List Int)} {s : St} {n : Int} (P : Pool w B (solRows g vc vv vl vr vt vo vw vm us0 lp s)) : ∀ (w3 : World) (v4 : Value), w3.ownsRow B 3 1 v4 ((i64s s.chosen).length + 1) (i64s s.chosen ++ [.int .i64 n]) → w.grownBy w3 vo.ownBlock → (v4.ownBlock = vo.ownBlock ∨ ∃ b, v4.ownBlock = some b ∧ w.heap.size ≤ b) →
    w3.cell? ⟨g, 5, none⟩ = some vo ∧ w3.frozen? ⟨g, 5, none⟩ = false ∧ Pool (w3.setCell ⟨g, 5, none⟩ v4) B (solRows g vc vv vl vr vt v4 vw vm us0 lp { s with chosen := s.chosen ++ [n] }) := by
  intro w3 v4 ho hg hat
  have P3 := Pool.upd (pre := [_, _, _, _, _, _]) P hg (app_own ho) hat
  obtain ⟨k4, kf4⟩ := box_at (pre := []) P3 5 _ rfl
  refine ⟨k4, kf4, ?_⟩
  have P4 := Pool.put (pre := []) P3 5 v4
  have e : i64s s.chosen ++ [.int .i64 n] = i64s (s.chosen ++ [n]) := by unfold i64s; rw [List.map_append]; rfl
  rw [e] at P4
  exact P4
theorem row_st0 {α : Type} {enc : α → Value} {w : World} {B : Nat} {e : TypeId} {v : Value} {l : List α} (h : (Row.mk e v (l.map enc)).own w B) (h0 : 0 < l.length) :
    ∃ b c, v = .slice (some ⟨b, 0, none⟩) l.length c ∧ l.length ≤ c := by
  obtain ⟨b, c, x, h1, h2, h3, h4⟩ := row_st h 0 h0
  exact ⟨b, c, h1, h4⟩
theorem mask_put {w : World} {B b n c k : Nat} {L : List Row} {val : List Int} {ws : List Nat} (P : Pool w B (L ++ [⟨44, .slice (some ⟨b, 0, none⟩) n c, f64s (maskK val ws k)⟩])) (h : k = 0 ∨ val.getD k 0 ≠ 0) (nd : Nat) :
    Pool ((w.drewN nd).setCell ⟨b, k, none⟩ (.float .f64 nanBits)) B (L ++ [⟨44, .slice (some ⟨b, 0, none⟩) n c, f64s (maskK val ws (k + 1))⟩]) := by
  have := Pool.put (pre := L) (P.drewN nd) k (.float .f64 nanBits)
  rw [show (f64s (maskK val ws k)).set k (.float .f64 nanBits) = f64s ((maskK val ws k).set k nanBits) from mapset _ _ _ _] at this
  rw [mask_set _ _ _ h]; exact this
set_option maxHeartbeats 8000000 in
set_option maxRecDepth 100000 in
theorem choose_calls (W w : World) (g : Nat) (us0 : List Value) (cl0 : List (List Int)) (s s' : St) (h : Sol W w g us0 cl0 s) (r : Bool) (hs : chooseF s = some (s', r)) :
    Calls Try.prog 24 #[.pointer (some ⟨g, 0, none⟩)] w fun e w' => e = .returned (.bool r) ∧ Sol W w' g us0 cl0 s' := by
  obtain ⟨hbel, vc, vv, vl, vr, vt, vo, vw, vm, lp, P, hlm, hcl⟩ := h
  unfold chooseF at hs
  by_cases hc : 0 < s.weights.length ∧ s.weights.length ≤ s.value.length ∧ s.weights.length ≤ 1000000 ∧ s.chosen.length < lim
  · rw [if_pos hc] at hs
    obtain ⟨z, hz, hs⟩ := Option.bind_eq_some_iff.mp hs
    obtain ⟨x, hx, hs⟩ := Option.bind_eq_some_iff.mp hs
    obtain ⟨k1, k2, k3, k4⟩ := hc
    obtain ⟨bw, cw, rfl, _⟩ := row_st0 (sol_w P) k1
    obtain ⟨bv, cv, rfl, _⟩ := row_st0 (sol_v P) (by omega)
    obtain ⟨_, _, _, _, _, _, g6, _⟩ := sol_box P
    have CC := Aside0.mk ((clone38 ⟨bw, 0, none⟩ cw s.weights w (Kd.C_of_reads (h1 := fun _ => rfl) (own_reads (0 : Nat) (sol_w P))) (by omega)).mono (R' := fun e w1 => ∃ b c, e = .returned (.slice (some ⟨b, 0, none⟩) s.weights.length c) ∧ s.weights.length ≤ c ∧ Below W.heap.size W w1 ∧ Pool w1 W.heap.size (solRows g vc (.slice (some ⟨bv, 0, none⟩) s.value.length cv) vl vr vt vo (.slice (some ⟨bw, 0, none⟩) s.weights.length cw) vm us0 lp s ++ [⟨44, .slice (some ⟨b, 0, none⟩) s.weights.length c, f64s (maskK s.value s.weights 0)⟩])) (by
      rintro e w1 ⟨v1, rfl, ho1, hb1⟩
      obtain ⟨b, c, rfl, hc⟩ := row_st0 ho1 k1
      rw [mask_zero]
      exact ⟨b, c, rfl, hc, below_step hbel hb1, P.fresh hb1 hbel.size ho1⟩))
    have HZ := Aside0.mk hz
    have HX := Aside0.mk hx
    have HS := Aside0.mk hs
    have HLM := Aside0.mk hlm
    have HCL := Aside0.mk hcl
    clear P hbel hz hx hs hlm hcl
    go_enter Try.func24, Try.ntmps24
    go_wp2_with (first | (go_at_call 38; (with_reducible refine CC.out.mono ?_); rintro e w1 ⟨b, c, rfl, hcc, hb1, ho1⟩; have P1 := Aside0.mk ho1; have HB1 := Aside0.mk hb1; clear ho1 hb1))
    go_loopw [13] (fun v wr => ∃ k : Nat, v = .int .i64 (k : Int) ∧ Aside0 (k ≤ s.weights.length) ∧ Aside0 (Pool wr W.heap.size (solRows g vc (.slice (some ⟨bv, 0, none⟩) s.value.length cv) vl vr vt vo (.slice (some ⟨bw, 0, none⟩) s.weights.length cw) vm us0 lp s ++ [⟨44, .slice (some ⟨b, 0, none⟩) s.weights.length c, f64s (maskK s.value s.weights k)⟩])) ∧ Aside0 (Below W.heap.size W wr)) (fun v _ => s.weights.length - (intOf v).toNat)
    case atStart => exact ⟨0, rfl, ⟨Nat.zero_le _⟩, P1, HB1⟩
    case round =>
      clear P1 HB1
      obtain ⟨k, rfl, HK, P1, HB1⟩ := hrel
      by_cases hlt : k < s.weights.length
      · have hkb : k < 1000000000 := by omega
        have d0 : decide (k < s.weights.length) = true := decide_eq_true hlt
        have P0 := P1.out.sub (List.sublist_append_left _ _)
        obtain ⟨_, g1, _⟩ := sol_box P0
        obtain ⟨yv, hyv, _⟩ := row_cell (sol_v P0) k (by omega)
        have hyd : s.value.getD k 0 = yv := by
          have h1 := own_cell (sol_v P0) k (.int .i8 (s.value.getD k 0)) (by unfold i8s; rw [List.getElem?_map, List.getElem?_eq_getElem (by omega), List.getD_eq_getElem?_getD, List.getElem?_eq_getElem (by omega)]; rfl)
          rw [h1] at hyv
          simpa using hyv
        have P9 := P1.out.at_ 
        have dv : decide (k < s.value.length) = true := decide_eq_true (by omega)
        have NF := Aside0.mk (fun nd => row_cell (enc := Value.float .f64) ((P1.out.drewN nd).at_ (pre := solRows g vc (.slice (some ⟨bv, 0, none⟩) s.value.length cv) vl vr vt vo (.slice (some ⟨bw, 0, none⟩) s.weights.length cw) vm us0 lp s) (post := [])) k (by rw [mask_len]; exact hlt))
        have NG := Aside0.mk (show W.heap.size ≤ b from sol_ge P9)
        clear P0 P9
        by_cases c0 : k = 0
        · subst c0
          have MP := Aside0.mk (mask_put P1.out (Or.inl rfl))
          clear g1 hyv hyd P1
          go_wp2_with (first | (go_at_call 39; (with_reducible refine (math_NaN.calls nanBits _ rfl).mono ?_); rintro e w2 ⟨rfl, ⟨nd, rfl⟩⟩; obtain ⟨yn, hyn, fyn⟩ := NF.out nd; have MQ := Aside0.mk (MP.out nd); have HBQ := Aside0.mk (below_set (j := 0) (v := .float .f64 nanBits) (pw_below_drewN HB1.out nd) NG.out); clear MP HB1 NF))
          go_round
          · exact ⟨1, rfl, ⟨k1⟩, MQ, HBQ⟩
          · simp only [intOf]; omega
        · have b0 : ((k : Int) == 0) = false := beq_eq_false_iff_ne.mpr (by omega)
          by_cases c1 : yv = 0
          · have b1 : (yv != 0) = false := bne_eq_false_iff_eq.mpr c1
            have MP := Aside0.mk (mask_same s.value s.weights k (fun q => q.elim c0 (fun q => q (hyd.trans c1))))
            go_wp2
            go_round
            · exact ⟨k + 1, rfl, ⟨hlt⟩, ⟨by rw [MP.out]; exact P1.out⟩, HB1⟩
            · simp only [intOf]; omega
          · have b1 : (yv != 0) = true := bne_iff_ne.mpr c1
            have MP := Aside0.mk (mask_put P1.out (Or.inr (fun q => c1 (hyd.symm.trans q))))
            clear hyd P1
            go_wp2_with (first | (go_at_call 39; (with_reducible refine (math_NaN.calls nanBits _ rfl).mono ?_); rintro e w2 ⟨rfl, ⟨nd, rfl⟩⟩; obtain ⟨yn, hyn, fyn⟩ := NF.out nd; have MQ := Aside0.mk (MP.out nd); have HBQ := Aside0.mk (below_set (j := k) (v := .float .f64 nanBits) (pw_below_drewN HB1.out nd) NG.out); clear MP HB1 NF))
            go_round
            · exact ⟨k + 1, rfl, ⟨hlt⟩, MQ, HBQ⟩
            · simp only [intOf]; omega
      · have d0 : decide (k < s.weights.length) = false := decide_eq_false hlt
        obtain rfl : k = s.weights.length := by have := HK.out; omega
        have P9 := P1.out.at_ (pre := solRows g vc (.slice (some ⟨bv, 0, none⟩) s.value.length cv) vl vr vt vo (.slice (some ⟨bw, 0, none⟩) s.weights.length cw) vm us0 lp s) (post := [])
        have HC := Aside0.mk ((weigh_Heavy.calls (some ⟨b, 0, none⟩) c (maskK s.value s.weights s.weights.length) z wr (Kd.C_of_reads (h1 := fun _ => rfl) (own_reads (0 : Nat) P9)) (by rw [mask_len]; exact hcc) HZ.out).mono (R' := fun e w1 => e = .returned (.int .i64 z) ∧ Below W.heap.size W w1 ∧ Pool w1 W.heap.size (solRows g vc (.slice (some ⟨bv, 0, none⟩) s.value.length cv) vl vr vt vo (.slice (some ⟨bw, 0, none⟩) s.weights.length cw) vm us0 lp s ++ [⟨44, .slice (some ⟨b, 0, none⟩) s.weights.length c, f64s (maskK s.value s.weights s.weights.length)⟩])) (by
          rintro e w1 ⟨rfl, hb⟩
          exact ⟨rfl, below_step HB1.out hb, P1.out.below hb⟩))
        rw [mask_len] at HC
        clear P9 P1 HB1
        go_wp2_with (first | (go_at_call 40; (with_reducible refine HC.out.mono ?_); rintro e w3 ⟨rfl, hb3, hp3⟩; have P3 := Aside0.mk hp3; have HB3 := Aside0.mk hb3; clear hp3 hb3))
        obtain ⟨i0, i1, i2⟩ := gi_some HX.out
        rw [mask_len] at i2
        have xb := own_cell (P3.out.at_ (pre := solRows g vc (.slice (some ⟨bv, 0, none⟩) s.value.length cv) vl vr vt vo (.slice (some ⟨bw, 0, none⟩) s.weights.length cw) vm us0 lp s) (post := [])) z.toNat (.float .f64 x) (by unfold f64s; rw [List.getElem?_map, i1]; rfl)
        have hzb : z < 1000000000 := by omega
        have dz0 : decide (0 ≤ z) = true := decide_eq_true i0
        have dz1 : decide (z < (s.weights.length : Int)) = true := decide_eq_true i2
        have ez0 := eq_true i0
        have ez1 := eq_true i2
        have HSN := HS.out
        have PS := Aside0.mk (P3.out.sub (List.sublist_append_left _ _))
        clear P3 HC HX HZ
        by_cases cn : fNe x x = true
        · rw [if_pos cn] at HSN
          have HE := Option.some.inj HSN
          have HE1 := congrArg Prod.fst HE
          have HE2 := congrArg Prod.snd HE
          simp only at HE1 HE2
          subst HE1
          subst HE2
          clear HSN HE i1
          go_region
          go_wp2
          (try rw [Exit.noGoto_ret])
          go_ret
          exact ⟨rfl, below_drew1 HB3.out, _, _, _, _, _, _, _, _, lp, PS.out.drew, HLM.out, HCL.out⟩
        · have cn' : fNe x x = false := by simpa using cn
          rw [if_neg cn] at HSN
          obtain ⟨s3, hs3, he3⟩ := Option.map_eq_some_iff.1 HSN
          have HE1 := congrArg Prod.fst he3
          have HE2 := congrArg Prod.snd he3
          simp only at HE1 HE2
          subst HE1
          subst HE2
          have HS3 := Aside0.mk hs3
          clear HSN hs3 he3 HS i1 cn
          go_region
          go_wp2
          have PP := Aside0.mk PS.out.drew
          have HB4 := Aside0.mk (below_drew1 HB3.out)
          generalize w3.drew = w4 at PP HB4 ⊢
          clear PS HB3 xb g6
          obtain ⟨A4, c4, rfl, l4⟩ := row_len (sol_t PP.out)
          obtain ⟨A5, c5, rfl, l5⟩ := row_len (sol_o PP.out)
          obtain ⟨_, _, _, _, g4, g5, _⟩ := sol_box PP.out
          have TL := Aside0.mk (show (i64s s.chosen).length = s.chosen.length from List.length_map _)
          have CL := Aside0.mk (show ((i64s s.chosen).length + 1) * 8 ≤ 140737488355328 by have := TL.out; unfold lim at k4; omega)
          have EA := Aside0.mk (show (w4.alloc (.cells #[.int .i64 s.trail.length] 3)).drew = w4.drew.alloc (.cells [.int .i64 s.trail.length].toArray 3) from rfl)
          have STEP := Aside0.mk (sol_app_o (n := s.trail.length) PP.out.drew)
          have HB5 := Aside0.mk (below_drew1 HB4.out)
          have ho := sol_o PP.out.drew
          have HO := Aside0.mk (show w4.drew.ownsRow W.heap.size 3 1 (.slice A5 s.chosen.length c5) (i64s s.chosen).length (i64s s.chosen) from ho)
          clear ho
          refine start_ (n := 15) (S := fun w' => w'.cell? ⟨g, 5, none⟩ = some (.slice A5 s.chosen.length c5) ∧ w'.cell? ⟨g, 4, none⟩ = some (.slice A4 s.trail.length c4)) (ds := [11, 14]) #[false, false, false, false, false, false, false, false, false, false, false, false, false, false, false] (by kernel_rfl) rfl rfl ⟨g5, g4⟩ (fun hHeld => ?_)
          refine pure_ (i := 0) (N := some 44) (v := ?_) (a' := ?_) #[true, false, false, false, false, false, false, false, false, false, false, false, false, false, false] rfl rfl (by kernel_rfl) (fun _ _ _ h => h) (Or.inl ⟨by rfl, ?_⟩) ?_ ?_
          rotate_left
          · intro w'
            go_simp
            with_reducible rfl
          rotate_left
          · simp only [Act.put, List.setIfInBounds_toArray, List.set_cons_zero, List.set_cons_succ, i64_w, i32_w]
            rfl
          refine pure_ (i := 1) (N := some 45) (v := ?_) (a' := ?_) #[true, true, false, false, false, false, false, false, false, false, false, false, false, false, false] rfl rfl (by kernel_rfl) (fun _ _ _ h => h) (Or.inl ⟨by rfl, ?_⟩) ?_ ?_
          rotate_left
          · intro w'
            go_simp
            with_reducible rfl
          rotate_left
          · simp only [Act.put, List.setIfInBounds_toArray, List.set_cons_zero, List.set_cons_succ, i64_w, i32_w]
            rfl
          refine pure_ (i := 2) (N := some 46) (v := ?_) (a' := ?_) #[true, true, true, false, false, false, false, false, false, false, false, false, false, false, false] rfl rfl (by kernel_rfl) (fun _ _ _ h => h) (Or.inl ⟨by rfl, ?_⟩) ?_ ?_
          rotate_left
          · intro w'
            go_simp
            with_reducible rfl
          rotate_left
          · simp only [Act.put, List.setIfInBounds_toArray, List.set_cons_zero, List.set_cons_succ, i64_w, i32_w]
            rfl
          refine pure_ (i := 3) (N := some 47) (v := ?_) (a' := ?_) #[true, true, true, true, false, false, false, false, false, false, false, false, false, false, false] rfl rfl (by kernel_rfl) (fun _ _ _ h => h) (Or.inl ⟨by rfl, ?_⟩) ?_ ?_
          rotate_left
          · intro w'
            go_simp
            with_reducible rfl
          rotate_left
          · simp only [Act.put, List.setIfInBounds_toArray, List.set_cons_zero, List.set_cons_succ, i64_w, i32_w]
            rfl
          refine pure_ (i := 5) (N := some 49) (v := ?_) (a' := ?_) #[true, true, true, true, false, true, false, false, false, false, false, false, false, false, false] rfl rfl (by kernel_rfl) (fun _ _ _ h => h) (Or.inl ⟨by rfl, ?_⟩) ?_ ?_
          rotate_left
          · intro w'
            go_simp
            with_reducible rfl
          rotate_left
          · simp only [Act.put, List.setIfInBounds_toArray, List.set_cons_zero, List.set_cons_succ, i64_w, i32_w]
            rfl
          refine pure_ (i := 6) (N := some 50) (v := ?_) (a' := ?_) #[true, true, true, true, false, true, true, false, false, false, false, false, false, false, false] rfl rfl (by kernel_rfl) (fun _ _ _ h => h) (Or.inl ⟨by rfl, ?_⟩) ?_ ?_
          rotate_left
          · intro w'
            go_simp
            with_reducible rfl
          rotate_left
          · simp only [Act.put, List.setIfInBounds_toArray, List.set_cons_zero, List.set_cons_succ, i64_w, i32_w]
            rfl
          refine pure_ (i := 7) (N := some 51) (v := ?_) (a' := ?_) #[true, true, true, true, false, true, true, true, false, false, false, false, false, false, false] rfl rfl (by kernel_rfl) (fun _ _ _ h => h) (Or.inl ⟨by rfl, ?_⟩) ?_ ?_
          rotate_left
          · intro w'
            go_simp
            with_reducible rfl
          rotate_left
          · simp only [Act.put, List.setIfInBounds_toArray, List.set_cons_zero, List.set_cons_succ, i64_w, i32_w]
            rfl
          refine take_ (i := 4) (N := some 48) (v := ?_) (a' := ?_) #[true, true, true, true, true, true, true, true, false, false, false, false, false, false, false] rfl rfl (by kernel_rfl) (fun _ _ _ h => h) (Or.inl ⟨by rfl, ?_⟩) hHeld ?_ ?_
          rotate_left
          · rintro w' ⟨s0, s1⟩
            go_simp
            with_reducible rfl
          rotate_left
          · simp only [Act.put, List.setIfInBounds_toArray, List.set_cons_zero, List.set_cons_succ, i64_w, i32_w]
            rfl
          refine take_ (i := 8) (N := some 52) (v := ?_) (a' := ?_) #[true, true, true, true, true, true, true, true, true, false, false, false, false, false, false] rfl rfl (by kernel_rfl) (fun _ _ _ h => h) (Or.inl ⟨by rfl, ?_⟩) hHeld ?_ ?_
          rotate_left
          · rintro w' ⟨s0, s1⟩
            go_simp
            with_reducible rfl
          rotate_left
          · simp only [Act.put, List.setIfInBounds_toArray, List.set_cons_zero, List.set_cons_succ, i64_w, i32_w]
            rfl
          refine pure_ (i := 9) (N := some 53) (v := ?_) (a' := ?_) #[true, true, true, true, true, true, true, true, true, true, false, false, false, false, false] rfl rfl (by kernel_rfl) (fun _ _ _ h => h) (Or.inl ⟨by rfl, ?_⟩) ?_ ?_
          rotate_left
          · intro w'
            go_simp
            with_reducible rfl
          rotate_left
          · simp only [Act.put, List.setIfInBounds_toArray, List.set_cons_zero, List.set_cons_succ, i64_w, i32_w]
            rfl
          refine one_ (i := 10) (N := some 54) #[true, true, true, true, true, true, true, true, true, true, true, false, false, false, false] rfl rfl (by kernel_rfl) (by decide) (fun K hK => ?_)
          refine value_ (w1 := ?_) (v := ?_) (by rfl) rfl ?_ ?_
          rotate_left 2
          · go_simp
            constructor
            · rfl
            · rfl
          refine hK.out _ _ ⟨(World.cell?_alloc_lt _ _ _ (World.block_lt_of_cell? _ _ hHeld.1)).trans hHeld.1, (World.cell?_alloc_lt _ _ _ (World.block_lt_of_cell? _ _ hHeld.2)).trans hHeld.2⟩ (fun hHeld => ?_)
          clear hK K
          refine norm_ (a' := ?_) ?_ ?_
          rotate_left
          · show Act.put _ (some 54) _ = _
            simp only [Act.put, List.setIfInBounds_toArray, List.set_cons_zero, List.set_cons_succ, i64_w, i32_w]
            rfl
          refine last_ (i := 11) (N := some 55) #[true, true, true, true, true, true, true, true, true, true, true, true, false, false, false] rfl rfl (by kernel_rfl) (by decide) (fun K hK => ?_)
          rw [EA.out]
          refine step_append_cells W.heap.size (by rfl) (.tmp 48) (.tmp 54) 32 3 (.int .i64 0) 1 8 rfl Try.underlying32 info3 rfl (by decide) (by decide) (.slice A5 s.chosen.length c5) (i64s s.chosen).length (i64s s.chosen) [.int .i64 s.trail.length] rfl rfl rfl (one_int _ _) HO.out HB5.out HB5.out.size CL.out ?_
          intro v5 w5 ho5 hb5 hg5 hat5
          obtain ⟨A6, c6, rfl⟩ := app_slice ho5
          obtain ⟨k5, kf5, P5⟩ := STEP.out w5 _ ho5 hg5 hat5
          refine hK.out _ _ ?_
          clear hK K
          refine norm_ (a' := ?_) ?_ ?_
          rotate_left
          · show Act.put _ (some 55) _ = _
            simp only [Act.put, List.setIfInBounds_toArray, List.set_cons_zero, List.set_cons_succ, i64_w, i32_w]
            rfl
          refine pure_ (i := 12) (N := some 56) (v := ?_) (a' := ?_) #[true, true, true, true, true, true, true, true, true, true, true, true, true, false, false] rfl rfl (by kernel_rfl) (fun _ _ _ h => h) (Or.inl ⟨by rfl, ?_⟩) ?_ ?_
          rotate_left
          · intro w'
            go_simp
            with_reducible rfl
          rotate_left
          · simp only [Act.put, List.setIfInBounds_toArray, List.set_cons_zero, List.set_cons_succ, i64_w, i32_w]
            rfl
          refine pure_ (i := 13) (N := some 57) (v := ?_) (a' := ?_) #[true, true, true, true, true, true, true, true, true, true, true, true, true, true, false] rfl rfl (by kernel_rfl) (fun _ _ _ h => h) (Or.inl ⟨by rfl, ?_⟩) ?_ ?_
          rotate_left
          · intro w'
            go_simp
            with_reducible rfl
          rotate_left
          · simp only [Act.put, List.setIfInBounds_toArray, List.set_cons_zero, List.set_cons_succ, i64_w, i32_w]
            rfl
          refine last_ (i := 14) (N := none) #[true, true, true, true, true, true, true, true, true, true, true, true, true, true, true] rfl rfl (by kernel_rfl) (by decide) (fun K hK => ?_)
          refine skip_ (w1 := ?_) (by rfl) rfl ?_ ?_
          rotate_left
          · go_simp
            rfl
          refine hK.out _ _ ?_
          clear hK K
          refine done_ (by kernel_rfl) ?_
          have HB6 := below_set (j := 5) (v := .slice A6 ((i64s s.chosen).length + 1) c6) hb5 (show W.heap.size ≤ g from sol_ge (Pool.at_ (pre := []) PP.out))
          have SC := Aside0.mk (set_calls W _ g us0 cl0 _ s3 ⟨HB6, _, _, _, _, _, _, _, _, lp, P5, HLM.out, HCL.out⟩ (-z) (-1) ⟨by omega, by omega⟩ HS3.out)
          clear HB6 P5 hb5 STEP HO
          go_wp2_with (first | (go_at_call 37; (with_reducible refine SC.out.mono ?_); rintro e w6 ⟨rfl, hs6⟩; have HS6 := Aside0.mk hs6; clear hs6))
          (try rw [Exit.noGoto_ret])
          go_ret
          exact ⟨rfl, HS6.out⟩
  · rw [if_neg hc] at hs; cases hs

end Go.Proofs.Ytmdjlhmifhnpdaa.SatW
namespace Go.Proofs.Ytmdjlhmifhnpdaa.SatW
set_option linter.unusedVariables false
set_option linter.unusedSimpArgs false
open Go.RowKit Go.Proofs.YtmdjlhmifhnpdaaW.PrintWords Go.Proofs.YtmdjlhmifhnpdaaW.PrintLast Go.Proofs.Ytmdjlhmifhnpdaa.B

def modelF (s : St) : List Bool := s.value.map fun x => decide (x > 0)
theorem info4 : (Try.prog.info? 4).map (fun i => (i.zero, i.size, i.bytes)) = some (some (.bool false), 1, 1) := by kernel_rfl
theorem one_bool (b : Bool) : ∀ u ∈ [Value.bool b], u.oneCell' = true := fun u hu => by rw [List.mem_singleton.1 hu]; rfl
set_option maxHeartbeats 4000000 in
set_option maxRecDepth 100000 in
theorem model_calls (W w : World) (g : Nat) (us0 : List Value) (cl0 : List (List Int)) (s : St) (h : Sol W w g us0 cl0 s) (hl : s.value.length ≤ 1000000) :
    Calls Try.prog 25 #[.pointer (some ⟨g, 0, none⟩)] w fun e w' => ∃ v, e = .returned v ∧ (Row.mk 4 v (bools (modelF s))).own w' w.heap.size ∧ Below w.heap.size w w' := by
  obtain ⟨hbel, vc, vv, vl, vr, vt, vo, vw, vm, lp, P, hlm, hcl⟩ := h
  obtain ⟨A1, c1, rfl, _⟩ := row_len (sol_v P)
  obtain ⟨_, g1, _⟩ := sol_box P
  have HX := Aside0.mk (fun (k : Nat) (hk : k < s.value.length) (wr : World) (hb : Below w.heap.size w wr) => (show ∃ b x, A1 = some ⟨b, 0, none⟩ ∧ wr.cell? ⟨b, k, none⟩ = some (.int .i8 x) ∧ s.value[k]? = some x by
    obtain ⟨b, c, e, hc, _, _⟩ := row_at (sol_v P) k _ (List.getElem?_eq_getElem hk)
    injection e with e1 _ _
    exact ⟨b, _, e1, (hb.cell (World.block_lt_of_cell? w _ hc)).trans hc, List.getElem?_eq_getElem hk⟩))
  clear P hbel
  go_enter Try.func25, Try.ntmps25
  go_wp2
  go_loopw [3, 11] (fun u3 v11 wr => ∃ (k : Nat) (v3 : Value), v11 = .int .i64 (k : Int) ∧ v3 = u3 ∧ Aside0 (k ≤ s.value.length) ∧ Aside0 ((Row.mk 4 v3 (bools ((modelF s).take k))).own wr w.heap.size) ∧ Aside0 (Below w.heap.size w wr)) (fun _ v11 _ => s.value.length - (intOf v11).toNat)
  case atStart => exact ⟨0, _, rfl, rfl, ⟨Nat.zero_le _⟩, ⟨⟨rfl, Or.inl ⟨rfl, rfl⟩⟩⟩, ⟨Below.refl _ _⟩⟩
  case round =>
    obtain ⟨k, v3, rfl, rfl, HK, HO, HB⟩ := hrel
    by_cases hlt : k < s.value.length
    · have hkb : k < 1000000000 := by omega
      have d0 : decide (k < s.value.length) = true := decide_eq_true hlt
      obtain ⟨b, x, rfl, hx, hxe⟩ := HX.out k hlt wr HB.out
      have HE := Aside0.mk (show (modelF s).take (k + 1) = (modelF s).take k ++ [decide (x > 0)] by
        rw [List.take_add_one]
        unfold modelF
        rw [List.getElem?_map, hxe]; rfl)
      have HN := Aside0.mk (show (bools ((modelF s).take k)).length ≤ 1000000 by unfold bools; rw [List.length_map]; have := List.length_take_le k (modelF s); omega)
      clear HX hxe
      have HO1 := Aside0.mk (show wr.ownsRow w.heap.size 4 1 v3 (bools ((modelF s).take k)).length (bools ((modelF s).take k)) from HO.out)
      clear HO
      go_wp2_with (first | (at_builtin; refine print_append_cells w.heap.size rfl (.tmp 15) (.tmp 18) 25 4 (.bool false) 1 1 rfl Try.underlying25 info4 rfl (by decide) (by decide) v3 (bools ((modelF s).take k)).length (bools ((modelF s).take k)) [.bool (decide (x > 0))] rfl rfl rfl (one_bool _) ?o1 HB.out HB.out.size ?c1 ?_; (case o1 => exact HO1.out); (case c1 => have := HN.out; omega); intro v4 w3 ho3 hb3 hg3 hat3; have HO3 := Aside0.mk ho3; have HB3 := Aside0.mk hb3; clear ho3 hb3 hg3 hat3))
      go_round
      · refine ⟨k + 1, _, rfl, rfl, ⟨hlt⟩, ⟨?_⟩, HB3⟩
        have := app_own HO3.out
        rw [HE.out]
        rw [show bools ((modelF s).take k ++ [decide (x > 0)]) = bools ((modelF s).take k) ++ [.bool (decide (x > 0))] from by unfold bools; rw [List.map_append]; rfl]
        exact this
      · simp only [intOf]; omega
    · have d0 : decide (k < s.value.length) = false := decide_eq_false hlt
      obtain rfl : k = s.value.length := by have := HK.out; omega
      go_wp2
      go_ret
      refine ⟨v3, rfl, ?_, HB.out⟩
      have := HO.out
      rw [List.take_of_length_le (by unfold modelF; rw [List.length_map]; exact Nat.le_refl _)] at this
      exact this
/-- The place of the first element that is so; -1: there is none. -/
def firstAt {α : Type} (p : α → Bool) (l : List α) : Int := match l.findIdx? p with
  | some i => (i : Int)
  | none => -1
theorem firstAt_some {α : Type} {p : α → Bool} {l : List α} {k : Nat} (hk : k < l.length) (h : ∀ x ∈ l.take k, p x = false) (hp : p l[k] = true) : firstAt p l = (k : Int) := by
  have : l.findIdx? p = some k := by
    rw [List.findIdx?_eq_some_iff_getElem]
    refine ⟨hk, hp, fun j hj => ?_⟩
    have := h l[j] (by rw [List.mem_take_iff_getElem]; exact ⟨j, by omega, rfl⟩)
    simp [this]
  unfold firstAt
  rw [this]
theorem firstAt_none {α : Type} {p : α → Bool} {l : List α} (h : ∀ x ∈ l, p x = false) : firstAt p l = -1 := by
  have : l.findIdx? p = none := by
    rw [List.findIdx?_eq_none_iff]
    exact h
  unfold firstAt
  rw [this]
theorem firstAt_ge {α : Type} (p : α → Bool) (l : List α) : decide (0 ≤ firstAt p l) = l.any p := by
  unfold firstAt
  cases h : l.findIdx? p with
  | some i =>
    obtain ⟨hi, hp, _⟩ := List.findIdx?_eq_some_iff_getElem.1 h
    have : l.any p = true := List.any_eq_true.2 ⟨l[i], List.getElem_mem hi, hp⟩
    rw [this]
    simp
  | none =>
    have := List.findIdx?_eq_none_iff.1 h
    have : l.any p = false := List.any_eq_false.2 fun x hx => by simp [this x hx]
    rw [this]
    simp
theorem take_mem_succ {α : Type} {p : α → Bool} {l : List α} {k : Nat} (hk : k < l.length) (h : ∀ x ∈ l.take k, p x = false) (hp : p l[k] = false) : ∀ x ∈ l.take (k + 1), p x = false := by
  intro x hx
  rw [List.take_succ_eq_append_getElem hk] at hx
  rcases List.mem_append.1 hx with hx | hx
  · exact h x hx
  · rw [List.mem_singleton.1 hx]; exact hp

/-! Rows of rows as rows of headers. -/
def Heads (w : World) (us : List (List Value)) (xs : List (List Int)) : Prop := us.length = xs.length ∧ ∀ (j : Nat) (p : List Int) (u : List Value), xs[j]? = some p → us[j]? = some u → (Kd.slice 3 (Kd.int .i64)).K w p u
theorem Heads.below {w w1 : World} {us : List (List Value)} {xs : List (List Int)} (h : Heads w us xs) (hb : Below w.heap.size w w1) : Heads w1 us xs := ⟨h.1, fun j p u hp hu => (Kd.slice 3 (Kd.int .i64)).K_below hb (h.2 j p u hp hu)⟩
theorem Heads.append {w : World} {us vs : List (List Value)} {xs ys : List (List Int)} (h : Heads w us xs) (k : Heads w vs ys) : Heads w (us ++ vs) (xs ++ ys) := by
  refine ⟨by rw [List.length_append, List.length_append, h.1, k.1], fun j p u hp hu => ?_⟩
  by_cases hj : j < xs.length
  · rw [List.getElem?_append_left hj] at hp
    rw [List.getElem?_append_left (by rw [h.1]; exact hj)] at hu
    exact h.2 j p u hp hu
  · rw [List.getElem?_append_right (by omega)] at hp
    rw [List.getElem?_append_right (by rw [h.1]; omega), h.1] at hu
    exact k.2 _ p u hp hu
/-- A row's headers, as they are read. -/
def RawRead (w : World) (A : Option Addr) (n : Nat) (us : List (List Value)) : Prop := ReadsRow (fun (x c : List Value) => c = x ∧ c.length = 1 ∧ ∀ u ∈ c, u.oneCell' = true) 1 w A n us
theorem heads_of_C {w : World} {A : Option Addr} {xs : List (List Int)} (h : Kd.C (Kd.slice 3 (Kd.int .i64)) w A xs.length xs) : ∃ us, Heads w us xs ∧ RawRead w A xs.length us := by
  obtain ⟨_, hm, hc⟩ := h
  by_cases hp : 0 < xs.length
  · obtain ⟨ad, hA, hj⟩ := hc hp
    have each : ∀ j, j < xs.length → ∃ c : List Value, c.length = 1 ∧ (∀ p, xs[j]? = some p → (Kd.slice 3 (Kd.int .i64)).K w p c) ∧ ∀ i u, c[i]? = some u → w.cell? (ad.add (j * 1 + i)) = some u := by
      intro j hjl
      obtain ⟨c, h1, h2, h3⟩ := hj j _ (List.getElem?_eq_getElem hjl)
      exact ⟨c, h1, fun p hp => by rw [List.getElem?_eq_getElem hjl] at hp; cases hp; exact h2, h3⟩
    obtain ⟨f, hf⟩ := Go.Deep.choose_lt each
    have hget : ∀ j, j < xs.length → ((List.range xs.length).map f)[j]? = some (f j) := fun j hjl => by rw [List.getElem?_map, List.getElem?_range hjl]; rfl
    refine ⟨(List.range xs.length).map f, ⟨by simp, fun j p u hp hu => ?_⟩, by simp, hm, fun _ => ⟨ad, hA, fun j u hu => ?_⟩⟩
    · have hjl := (List.getElem?_eq_some_iff.1 hp).1
      rw [hget j hjl] at hu
      cases hu
      exact (hf j hjl).2.1 p hp
    · have hjl : j < xs.length := by have := (List.getElem?_eq_some_iff.1 hu).1; simpa using this
      rw [hget j hjl] at hu
      cases hu
      obtain ⟨h1, h2, h3⟩ := hf j hjl
      exact ⟨f j, h1, ⟨rfl, h1, (Kd.slice 3 (Kd.int .i64)).K_one (h2 _ (List.getElem?_eq_getElem hjl))⟩, h3⟩
  · have : xs = [] := List.eq_nil_of_length_eq_zero (by omega)
    subst this
    exact ⟨[], ⟨rfl, fun j p u hp => by simp at hp⟩, rfl, by simp, fun h => absurd h (by simp)⟩
theorem rdL_get {l : List Int} {k : Nat} (hk : k < l.length) : rd l (k : Int) = l[k] := by
  unfold rd
  rw [Int.toNat_natCast, List.getD_eq_getElem?_getD, List.getElem?_eq_getElem hk]
  rfl
/-! ### right -/
def badB (vars n : Int) : Bool := n == 0 || decide (n > vars) || decide (n < -vars)
theorem bad_calls (n vars : Int) (w : World) (g : Nat) (hx : w.cell? ⟨g, 0, none⟩ = some (.int .i64 vars)) (hv : 0 ≤ vars ∧ vars ≤ 10000) :
    Calls Try.prog 35 #[.int .i64 n, .pointer (some ⟨g, 0, none⟩)] w fun e w' => e = .returned (.bool (badB vars n)) ∧ w = w' := by
  obtain ⟨v0, v1⟩ := hv
  by_cases h1 : n = 0
  · subst h1
    go_enter Try.func35, Try.ntmps35
    go_wp2
    go_ret
    exact ⟨rfl, rfl⟩
  · have e1 : (n == 0) = false := by simpa using h1
    by_cases h2 : vars < n
    · have e2 : decide (vars < n) = true := decide_eq_true h2
      have H : Hid (badB vars n = true) := by show badB vars n = true; simp [badB, e1, e2]
      clear h1 h2
      go_enter Try.func35, Try.ntmps35
      go_wp2
      go_ret
      exact ⟨by rw [H.out]; rfl, rfl⟩
    · have e2 : decide (vars < n) = false := decide_eq_false h2
      have H : Hid (badB vars n = decide (n < -vars)) := by show badB vars n = decide (n < -vars); simp [badB, e1, e2]
      clear h1 h2
      go_enter Try.func35, Try.ntmps35
      go_wp2
      go_ret
      exact ⟨by rw [H.out]; rfl, rfl⟩
set_option maxHeartbeats 1000000 in
theorem idx50 (A0 : Option Addr) (c0 : Nat) (l0 : List Int) (w : World) (g : Nat) (vars : Int) (hx : w.cell? ⟨g, 0, none⟩ = some (.int .i64 vars)) (hv : 0 ≤ vars ∧ vars ≤ 10000) (hr0 : Kd.C (Kd.int .i64) w A0 l0.length l0) :
    Calls Try.prog 50 #[.slice A0 l0.length c0, .func (.func 35) #[] #[.pointer (some ⟨g, 0, none⟩)]] w fun e w' => e = .returned (.int .i64 (firstAt (badB vars) l0)) ∧ w = w' := by
  have HR0 := Aside0.mk hr0
  have BC := Aside0.mk (fun n => bad_calls n vars w g hx hv)
  have HL : l0.length ≤ 9223372036854775807 := hr0.2.1
  clear hr0 hx hv
  go_enter Try.func50, Try.ntmps50
  go_wp2
  go_loop [8] (fun v => ∃ k : Nat, v = .int .i64 (k : Int) ∧ Aside0 (k ≤ l0.length) ∧ Aside0 (∀ x ∈ l0.take k, badB vars x = false)) (fun v => match v with | .int _ q => l0.length - q.toNat | _ => 0)
  case atStart => exact ⟨0, rfl, ⟨Nat.zero_le _⟩, ⟨by simp⟩⟩
  case round =>
    obtain ⟨k, rfl, HK, HN⟩ := hrel
    by_cases hlt : (k : Int) < (l0.length : Int)
    · have hkn : k < l0.length := by omega
      obtain ⟨ad, e, hx⟩ := Kd.at_int HR0.out (k : Int) (Int.natCast_nonneg _) hlt
      cases e
      rw [Int.toNat_natCast] at hx
      cases hb : badB vars (rd l0 (k : Int)) with
      | true =>
        have HE := Aside0.mk (firstAt_some hkn HN.out (by rw [← rdL_get hkn]; exact hb))
        go_wp2_with (go_at_call 35; refine (BC.out _).mono ?_; rintro e w' ⟨rfl, rfl⟩)
        go_ret
        exact ⟨by rw [HE.out]; rfl, rfl⟩
      | false =>
        have HE := Aside0.mk (take_mem_succ hkn HN.out (by rw [← rdL_get hkn]; exact hb))
        go_wp2_with (go_at_call 35; refine (BC.out _).mono ?_; rintro e w' ⟨rfl, rfl⟩)
        refine ⟨⟨k + 1, by simp, ⟨hkn⟩, HE⟩, by simp; omega⟩
    · have HE := Aside0.mk (firstAt_none (p := badB vars) (l := l0) (by have := HN.out; rwa [List.take_of_length_le (by omega)] at this))
      go_wp2
      go_ret
      exact ⟨by rw [HE.out]; rfl, rfl⟩
theorem odd34 (A0 : Option Addr) (c0 : Nat) (l0 : List Int) (w : World) (g : Nat) (vars : Int) (hx : w.cell? ⟨g, 0, none⟩ = some (.int .i64 vars)) (hv : 0 ≤ vars ∧ vars ≤ 10000) (hr0 : Kd.C (Kd.int .i64) w A0 l0.length l0) :
    Calls Try.prog 34 #[.slice A0 l0.length c0, .func (.func 35) #[] #[.pointer (some ⟨g, 0, none⟩)]] w fun e w' => e = .returned (.bool (l0.any (badB vars))) ∧ w = w' := by
  have IC := Aside0.mk (idx50 A0 c0 l0 w g vars hx hv hr0)
  have HE := Aside0.mk (firstAt_ge (badB vars) l0)
  clear hr0 hx hv
  go_enter Try.func34, Try.ntmps34
  go_wp2_with (go_at_call 50; refine IC.out.mono ?_; rintro e w' ⟨rfl, rfl⟩)
  go_ret
  exact ⟨by show Ending.returned (.bool (decide (0 ≤ firstAt (badB vars) l0))) = _; rw [HE.out], rfl⟩
def rightF (cl : List (List Int)) (vars : Int) : Bool := decide (0 ≤ vars) && decide (vars ≤ 10000) && cl.all fun c => !c.any (badB vars)
theorem at_row {w : World} {A : Option Addr} {xs : List (List Int)} (h : Kd.C (Kd.slice 3 (Kd.int .i64)) w A xs.length xs) (k : Nat) (hk : k < xs.length) : ∃ ad A0 c0, A = some ad ∧ w.cell? (ad.add k) = some (.slice A0 xs[k].length c0) ∧ xs[k].length ≤ c0 ∧ (Kd.int .i64).C w A0 xs[k].length xs[k] := by
  obtain ⟨_, _, hc⟩ := h
  obtain ⟨ad, e, hj⟩ := hc (by omega)
  obtain ⟨c, h1, ⟨A0, c0, rfl, h2, h3⟩, h4⟩ := hj k _ (List.getElem?_eq_getElem hk)
  have := h4 0 _ rfl
  refine ⟨ad, A0, c0, e, ?_, h2, h3⟩
  rw [show k * (Kd.slice 3 (Kd.int .i64)).sz + 0 = k from Nat.mul_one k] at this
  exact this
set_option maxHeartbeats 4000000 in
set_option maxRecDepth 100000 in
theorem right_calls (A0 : Option Addr) (c0 : Nat) (l0 : List (List Int)) (vars : Int) (w : World) (hr0 : Kd.C (Kd.slice 3 (Kd.int .i64)) w A0 l0.length l0) :
    Calls Try.prog 21 #[.slice A0 l0.length c0, .int .i64 vars] w fun e w' => e = .returned (.bool (rightF l0 vars)) ∧ Below w.heap.size w w' := by
  have HB0 := Aside0.mk (below_alloc (Below.refl w.heap.size w) (.cells #[.int .i64 vars] 3))
  by_cases c1 : vars < 0
  · have d1 : decide (vars < 0) = true := decide_eq_true c1
    have HE := Aside0.mk (show rightF l0 vars = false by unfold rightF; rw [decide_eq_false (show ¬ 0 ≤ vars by omega)]; rfl)
    clear hr0 c1
    go_enter Try.func21, Try.ntmps21
    go_wp2
    (try rw [Exit.noGoto_ret])
    go_ret
    exact ⟨by rw [HE.out]; rfl, HB0.out⟩
  · have d1 : decide (vars < 0) = false := decide_eq_false c1
    by_cases c2 : 10000 < vars
    · have d2 : decide (10000 < vars) = true := decide_eq_true c2
      have HE := Aside0.mk (show rightF l0 vars = false by unfold rightF; rw [decide_eq_false (show ¬ vars ≤ 10000 by omega), Bool.and_false]; rfl)
      clear hr0 c1 c2
      go_enter Try.func21, Try.ntmps21
      go_wp2
      (try rw [Exit.noGoto_ret])
      go_ret
      exact ⟨by rw [HE.out]; rfl, HB0.out⟩
    · have d2 : decide (10000 < vars) = false := decide_eq_false c2
      have HE := Aside0.mk (show rightF l0 vars = l0.all (fun c => !c.any (badB vars)) by unfold rightF; rw [decide_eq_true (show vars ≤ 10000 by omega), decide_eq_true (show 0 ≤ vars by omega)]; rfl)
      have hxb : (w.alloc (.cells #[.int .i64 vars] 3)).cell? ⟨w.heap.size, 0, none⟩ = some (.int .i64 vars) := own_cell (w := w.alloc (.cells #[.int .i64 vars] 3)) (B := w.heap.size) (e := 3) (n := 1) (c := 1) (xs := [.int .i64 vars]) (own_lit (Nat.le_refl _) 3 #[.int .i64 vars] (by show 1 ≤ maxLen; unfold maxLen; omega)) 0 _ rfl
      have HC := Aside0.mk (Kd.C_below hr0 HB0.out)
      have OC := Aside0.mk (fun A c l hr => odd34 A c l (w.alloc (.cells #[.int .i64 vars] 3)) w.heap.size vars hxb ⟨by omega, by omega⟩ hr)
      have HL : l0.length ≤ 9223372036854775807 := hr0.2.1
      clear hr0 c1 c2
      go_enter Try.func21, Try.ntmps21
      go_wp2
      generalize w.alloc (.cells #[.int .i64 vars] 3) = w1 at HB0 hxb HC OC ⊢
      go_loop [15] (fun v => ∃ k : Nat, v = .int .i64 (k : Int) ∧ Aside0 (k ≤ l0.length) ∧ Aside0 (∀ x ∈ l0.take k, (x.any (badB vars)) = false)) (fun v => match v with | .int _ q => l0.length - q.toNat | _ => 0)
      case atStart => exact ⟨0, rfl, ⟨Nat.zero_le _⟩, ⟨by simp⟩⟩
      case round =>
        obtain ⟨k, rfl, HK, HN⟩ := hrel
        by_cases hlt : k < l0.length
        · have dk : decide (k < l0.length) = true := decide_eq_true hlt
          obtain ⟨ad, A1, c1, rfl, hx, hc, hr⟩ := at_row HC.out k hlt
          have OD := Aside0.mk (OC.out A1 c1 _ hr)
          generalize hee : l0[k] = ck at *
          have HEE := Aside0.mk hee
          clear hr hee
          cases hb : ck.any (badB vars) with
          | true =>
            have HF := Aside0.mk (show l0.all (fun c => !c.any (badB vars)) = false from List.all_eq_false.2 ⟨ck, by rw [← HEE.out]; exact List.getElem_mem hlt, by simp only [hb]; decide⟩)
            rw [hb] at OD
            go_wp2_with (go_at_call 34; refine OD.out.mono ?_; rintro e w' ⟨rfl, rfl⟩)
            (try rw [Exit.noGoto_ret])
            go_ret
            exact ⟨by rw [HE.out, HF.out]; rfl, HB0.out⟩
          | false =>
            have HE1 := Aside0.mk (take_mem_succ (p := fun x => x.any (badB vars)) hlt HN.out (by show (l0[k]).any _ = false; rw [HEE.out]; exact hb))
            rw [hb] at OD
            go_wp2_with (go_at_call 34; refine OD.out.mono ?_; rintro e w' ⟨rfl, rfl⟩)
            go_round
            · exact ⟨k + 1, rfl, ⟨hlt⟩, HE1⟩
            · simp only []; omega
        · have dk : decide (k < l0.length) = false := decide_eq_false hlt
          have HF := Aside0.mk (show l0.all (fun c => !c.any (badB vars)) = true from List.all_eq_true.2 fun x hx => by
            rw [← List.take_of_length_le (show l0.length ≤ k by omega)] at hx
            rw [HN.out x hx]; rfl)
          go_wp2
          go_ret
          exact ⟨by rw [HE.out, HF.out]; rfl, HB0.out⟩
/-! ### Clone of the clauses -/
theorem heads0_of {w : World} {us : List (List Value)} {xs : List (List Int)} (h : Heads w us xs) : ∃ us0, us = us0.map (fun u => [u]) ∧ Heads0 w us0 xs := by
  have hl := h.1
  refine ⟨us.map (fun u => u.headD undef), ?_, by rw [List.length_map]; exact hl, ?_⟩
  · rw [List.map_map]
    refine (List.map_id us).symm.trans (List.map_congr_left fun u hu => ?_)
    obtain ⟨j, hj⟩ := List.getElem?_of_mem hu
    have hjl := (List.getElem?_eq_some_iff.1 hj).1
    obtain ⟨A, c, e, _⟩ := h.2 j _ u (List.getElem?_eq_getElem (by omega)) hj
    rw [e]; rfl
  · intro j c u hc hu
    rw [List.getElem?_map] at hu
    obtain ⟨v, hv, rfl⟩ := Option.map_eq_some_iff.1 hu
    obtain ⟨A, cap, rfl, h1, h2⟩ := h.2 j c v hc hv
    refine ⟨A, cap, rfl, h1, fun hp => ?_⟩
    obtain ⟨ad, ea, hx⟩ := h2.2.2 hp
    refine ⟨ad, ea, fun i x hi => ?_⟩
    obtain ⟨cc, g1, rfl, g3⟩ := hx i x hi
    have := g3 0 _ rfl
    rw [show i * (Kd.int IntKind.i64).sz + 0 = i from Nat.mul_one i] at this
    exact this
theorem own_of_raw {e : Nat} {w : World} {base : Nat} {ok : Nat → Prop} {v : Value} {us0 : List Value} (h : (Kd.raw 1).R e w base ok v (us0.map (fun u => [u]))) : (Row.mk e v us0).own w base := by
  obtain ⟨_, inner, ho, hr⟩ := h
  have hi : inner = us0 := by
    have hl : inner.length = us0.length := by have := hr.1; rw [List.length_map] at this; rw [this]; exact Nat.mul_one _
    apply List.ext_getElem? 
    intro j
    by_cases hj : j < us0.length
    · have := hr.2 j [us0[j]] (by rw [List.getElem?_map, List.getElem?_eq_getElem hj]; rfl)
      have h1 : ((inner.drop (j * 1)).take 1) = [us0[j]] := this.1
      rw [Nat.mul_one, List.drop_eq_getElem_cons (by omega)] at h1
      rw [List.getElem?_eq_getElem hj, List.getElem?_eq_getElem (by omega)]
      have h2 := List.head_eq_of_cons_eq h1
      rw [h2]
    · rw [List.getElem?_eq_none (by omega), List.getElem?_eq_none (by omega)]
  subst hi
  have := ho
  rw [List.length_map] at this
  exact this
theorem clone22 (A0 : Option Addr) (c0 : Nat) (l0 : List (List Int)) (w : World) (hr0 : Kd.C (Kd.slice 3 (Kd.int .i64)) w A0 l0.length l0) (hl : l0.length < 5864062014805) :
    Calls Try.prog 22 #[.slice A0 l0.length c0] w fun e w' => ∃ v us0, e = .returned v ∧ (Row.mk 32 v us0).own w' w.heap.size ∧ Heads0 w us0 l0 ∧ Below w.heap.size w w' := by
  have HR0 := Aside0.mk hr0
  have HB := Aside0.mk (Below.refl w.heap.size w)
  cases A0 with
  | none =>
    have hz : l0 = [] := by
      apply List.eq_nil_of_length_eq_zero
      have := hr0.2.2
      by_cases hp : 0 < l0.length
      · obtain ⟨ad, h, _⟩ := this hp
        cases h
      · omega
    clear hr0 HR0 hl
    subst hz
    have hn := fun W => Lib.run_eql_slice_nil (P := Try.prog) W 22 32 none 0 c0 0 0 Try.underlying22
    go_enter Try.func22, Try.ntmps22
    go_wp2
    go_ret
    exact ⟨.slice none 0 0, [], rfl, ⟨rfl, Or.inl ⟨rfl, rfl⟩⟩, ⟨rfl, fun j p u hp => by simp at hp⟩, HB.out⟩
  | some a =>
    obtain ⟨us, hh, hrr⟩ := heads_of_C hr0
    have HH := Aside0.mk hh
    have HRR := Aside0.mk hrr
    have HL := Aside0.mk hl
    clear hr0 hh hrr hl
    have hn := fun W => Lib.run_eql_slice_nil (P := Try.prog) W 22 32 (some a) l0.length c0 0 0 Try.underlying22
    go_enter Try.func22, Try.ntmps22
    go_wp2_with (first | ((with_reducible refine gate_dst (N := 5) rfl ?_); refine Kd.R_lit (Kd.raw 1) w.heap.size 32 ?hg (N := 5) ?hd (xs := ([] : List (List Value))) (inner := []) (ok := fun _ => True) (okp := fun _ => True) ?hr ?hp (fun _ hk => hk) trivial HB.out (Nat.le_refl _) (by simp) ?_; (case hd => rfl); (case hg => rfl); (case hr => first | (go_simp; done) | (go_simp; rfl)); (case hp => exact (Reps.none _ _)); intro v1 w1 ho1 hb1 hg1 hnew1; clear hg1 hnew1; have HO1 := Aside0.mk ho1; have HB1 := Aside0.mk hb1; clear ho1 hb1) | ((with_reducible refine gate_builtin (b := .append) (xs := #[.tmp 5, .tmp 6]) rfl ?_); at_builtin; refine Kd.R_append_rows (Kd.raw 1) (w0 := w) w.heap.size rfl (.tmp 5) (.tmp 6) 22 32 (.slice none 0 0) 24 rfl Try.underlying22 info32 rfl (by decide) (by decide) v1 [] us (some a) l0.length c0 (fun _ => True) (fun _ => False) ?hs ?hx HO1.out ?hR (fun _ _ h => h) (fun _ h => h.elim) (fun _ _ => trivial) HB1.out ?hS ?hL ?_; (case hs => rfl); (case hx => rfl); (case hR => exact ReadsRow.imp_ HRR.out HB1.out (fun _ _ h => h)); (case hS => exact HB1.out.size); (case hL => have := HL.out; simp only [List.length_nil]; omega); intro v2 w2 ho2 hb2 hg2 hat2; clear hg2 hat2; have HO2 := Aside0.mk ho2; have HB2 := Aside0.mk hb2; clear ho2 hb2))
    go_ret
    obtain ⟨us0, e, hh⟩ := heads0_of HH.out
    refine ⟨v2, us0, rfl, ?_, hh, HB2.out⟩
    have := HO2.out
    rw [e, List.nil_append] at this
    exact own_of_raw this

end Go.Proofs.Ytmdjlhmifhnpdaa.SatW
