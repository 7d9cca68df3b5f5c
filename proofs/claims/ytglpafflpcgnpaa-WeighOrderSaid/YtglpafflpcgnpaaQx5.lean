/- written by a program of this session (wip/tools/printx.py, over the kit's printing program) out of the translation -/
import Derived.Test.YtglpafflpcgnpaaQx0
import Derived.Test.YtglpafflpcgnpaaQx1
import Derived.Test.YtglpafflpcgnpaaQx2
namespace Go.Proofs.Ytglpafflpcgnpaa.Q
open Go.RowKit Go.Proofs.YtglpafflpcgnpaaW.PrintWords Go.Proofs.YtglpafflpcgnpaaW.PrintLast Go.Proofs.YtglpafflpcgnpaaW.PrintMore
attribute [local go_sem] max2_int min2_int max_two min_two max_three min_three max_four min_four   -- for this text's walks alone
set_option linter.unusedVariables false
set_option linter.unusedSimpArgs false

/-! ### ashlarlaw02_WeighOrder: function 4 -/
def ashlarlaw02_WeighOrder.j0 : Nat → Bool → Nat → Nat → Bool → Bool → Bool → Bool → Bool → Bool → Bool → Option (Bool)
  | 0, _, _, _, _, _, _, _, _, _, _ => none
  | k + 1, x7, x8, x9, x11, x12, x13, x14, x15, x16, x61 => if x61 = true then (some false) else (if x11 = true then (if x7 = true then (if fNe x8 x8 = true then (some true) else (if fNe x9 x9 = true then (some true) else (if fEq x8 x9 = true then (some true) else (some (x11 == (fLt x8 x9)))))) else (some false)) else (if x12 = true then (if x7 = true then (if fNe x8 x8 = true then (some true) else (if fNe x9 x9 = true then (some true) else (if fEq x8 x9 = true then (some true) else (some (x11 == (fLt x8 x9)))))) else (some false)) else (if (x13 != x15) = true then (some false) else (if (x14 != x16) = true then (some false) else (if x7 = true then (if fNe x8 x8 = true then (some true) else (if fNe x9 x9 = true then (some true) else (if fEq x8 x9 = true then (some true) else (some (x11 == (fLt x8 x9)))))) else (some false))))))
def ashlarlaw02_WeighOrder.f (k : Nat) (a0 : Int) (a1 : Int) (a2 : Int) : Option (Bool) := (ashlarlaw02_shown.f k).bind fun t195 => ((weigh_Less.f k a0.toNat a1.toNat).bind fun t196 => ((weigh_Less.f k a1.toNat a0.toNat).bind fun t197 => ((weigh_Less.f k a1.toNat a2.toNat).bind fun t198 => ((weigh_Less.f k a2.toNat a1.toNat).bind fun t199 => ((weigh_Less.f k a0.toNat a2.toNat).bind fun t200 => ((weigh_Less.f k a2.toNat a0.toNat).bind fun t201 => ((weigh_Less.f k a0.toNat a0.toNat).bind fun t202 => (if t202 = true then (ashlarlaw02_WeighOrder.j0 k t195 a0.toNat a1.toNat t196 t197 t198 t199 t200 t201 true) else (if t196 = true then (if t197 = true then (ashlarlaw02_WeighOrder.j0 k t195 a0.toNat a1.toNat t196 t197 t198 t199 t200 t201 true) else (if t198 = true then (ashlarlaw02_WeighOrder.j0 k t195 a0.toNat a1.toNat t196 t197 t198 t199 t200 t201 (!t200)) else (ashlarlaw02_WeighOrder.j0 k t195 a0.toNat a1.toNat t196 t197 t198 t199 t200 t201 false))) else (ashlarlaw02_WeighOrder.j0 k t195 a0.toNat a1.toNat t196 t197 t198 t199 t200 t201 false))))))))))
theorem ashlarlaw02_WeighOrder.mono_l : ∀ k, (∀ y0 y1 y2 y3 y4 y5 y6 y7 y8 y9, LeO (ashlarlaw02_WeighOrder.j0 k y0 y1 y2 y3 y4 y5 y6 y7 y8 y9) (ashlarlaw02_WeighOrder.j0 (k + 1) y0 y1 y2 y3 y4 y5 y6 y7 y8 y9))
  | 0 => fun _ _ _ _ _ _ _ _ _ _ r h => by simp [ashlarlaw02_WeighOrder.j0] at h
  | k + 1 => by
    have ih0 := ashlarlaw02_WeighOrder.mono_l k
    · intro y0 y1 y2 y3 y4 y5 y6 y7 y8 y9
      unfold ashlarlaw02_WeighOrder.j0
      repeat' first
      | (with_reducible exact ih0 _ _ _ _ _ _ _ _ _ _)
      | (with_reducible exact ashlarlaw02_shown.mono _)
      | (with_reducible exact weigh_Less.mono _ _ _)
      | (with_reducible exact LeO.refl _)
      | (with_reducible exact LeO.none _)
      | (with_reducible refine LeO.ite ?_ ?_)
      | (with_reducible refine LeO.bind ?_ (fun _ => ?_))
      | exact ih0 _ _ _ _ _ _ _ _ _ _
      | exact ashlarlaw02_shown.mono _
      | exact weigh_Less.mono _ _ _
      | exact LeO.none _
      | refine LeO.ite ?_ ?_
      | refine LeO.bind ?_ (fun _ => ?_)
theorem ashlarlaw02_WeighOrder.mono : ∀ a0 a1 a2 k, LeO (ashlarlaw02_WeighOrder.f k a0 a1 a2) (ashlarlaw02_WeighOrder.f (k + 1) a0 a1 a2) := by
  intro a0 a1 a2 k
  have ih0 := ashlarlaw02_WeighOrder.mono_l k
  unfold ashlarlaw02_WeighOrder.f
  repeat' first
      | (with_reducible exact ih0 _ _ _ _ _ _ _ _ _ _)
      | (with_reducible exact ashlarlaw02_shown.mono _)
      | (with_reducible exact weigh_Less.mono _ _ _)
      | (with_reducible exact LeO.refl _)
      | (with_reducible exact LeO.none _)
      | (with_reducible refine LeO.ite ?_ ?_)
      | (with_reducible refine LeO.bind ?_ (fun _ => ?_))
      | exact ih0 _ _ _ _ _ _ _ _ _ _
      | exact ashlarlaw02_shown.mono _
      | exact weigh_Less.mono _ _ _
      | exact LeO.none _
      | refine LeO.ite ?_ ?_
      | refine LeO.bind ?_ (fun _ => ?_)
set_option maxHeartbeats 8000000 in
set_option maxRecDepth 100000 in
theorem ashlarlaw02_WeighOrder.calls (k : Nat) (a0 : Int) (a1 : Int) (a2 : Int) (r : Bool) (w : World) (h : ashlarlaw02_WeighOrder.f k a0 a1 a2 = some r) :
    Calls Try.prog 4 #[.int .u64 a0, .int .u64 a1, .int .u64 a2] w fun e w' => e = .returned (.bool r) ∧ Below w.heap.size w w' := by
  have HB := Aside0.mk (Below.refl w.heap.size w)
  have H : ((ashlarlaw02_shown.f k).bind fun t195 => ((weigh_Less.f k a0.toNat a1.toNat).bind fun t196 => ((weigh_Less.f k a1.toNat a0.toNat).bind fun t197 => ((weigh_Less.f k a1.toNat a2.toNat).bind fun t198 => ((weigh_Less.f k a2.toNat a1.toNat).bind fun t199 => ((weigh_Less.f k a0.toNat a2.toNat).bind fun t200 => ((weigh_Less.f k a2.toNat a0.toNat).bind fun t201 => ((weigh_Less.f k a0.toNat a0.toNat).bind fun t202 => (if t202 = true then (ashlarlaw02_WeighOrder.j0 k t195 a0.toNat a1.toNat t196 t197 t198 t199 t200 t201 true) else (if t196 = true then (if t197 = true then (ashlarlaw02_WeighOrder.j0 k t195 a0.toNat a1.toNat t196 t197 t198 t199 t200 t201 true) else (if t198 = true then (ashlarlaw02_WeighOrder.j0 k t195 a0.toNat a1.toNat t196 t197 t198 t199 t200 t201 (!t200)) else (ashlarlaw02_WeighOrder.j0 k t195 a0.toNat a1.toNat t196 t197 t198 t199 t200 t201 false))) else (ashlarlaw02_WeighOrder.j0 k t195 a0.toNat a1.toNat t196 t197 t198 t199 t200 t201 false))))))))))) = some r := h
  clear h
  replace H := Option.bind_eq_some_iff.mp H
  obtain ⟨t195, A40, H⟩ := H
  replace H : ((weigh_Less.f k a0.toNat a1.toNat).bind fun t196 => ((weigh_Less.f k a1.toNat a0.toNat).bind fun t197 => ((weigh_Less.f k a1.toNat a2.toNat).bind fun t198 => ((weigh_Less.f k a2.toNat a1.toNat).bind fun t199 => ((weigh_Less.f k a0.toNat a2.toNat).bind fun t200 => ((weigh_Less.f k a2.toNat a0.toNat).bind fun t201 => ((weigh_Less.f k a0.toNat a0.toNat).bind fun t202 => (if t202 = true then (ashlarlaw02_WeighOrder.j0 k t195 a0.toNat a1.toNat t196 t197 t198 t199 t200 t201 true) else (if t196 = true then (if t197 = true then (ashlarlaw02_WeighOrder.j0 k t195 a0.toNat a1.toNat t196 t197 t198 t199 t200 t201 true) else (if t198 = true then (ashlarlaw02_WeighOrder.j0 k t195 a0.toNat a1.toNat t196 t197 t198 t199 t200 t201 (!t200)) else (ashlarlaw02_WeighOrder.j0 k t195 a0.toNat a1.toNat t196 t197 t198 t199 t200 t201 false))) else (ashlarlaw02_WeighOrder.j0 k t195 a0.toNat a1.toNat t196 t197 t198 t199 t200 t201 false)))))))))) = some r := H
  have A4 := Aside0.mk A40
  clear A40
  replace H := Option.bind_eq_some_iff.mp H
  obtain ⟨t196, A50, H⟩ := H
  replace H : ((weigh_Less.f k a1.toNat a0.toNat).bind fun t197 => ((weigh_Less.f k a1.toNat a2.toNat).bind fun t198 => ((weigh_Less.f k a2.toNat a1.toNat).bind fun t199 => ((weigh_Less.f k a0.toNat a2.toNat).bind fun t200 => ((weigh_Less.f k a2.toNat a0.toNat).bind fun t201 => ((weigh_Less.f k a0.toNat a0.toNat).bind fun t202 => (if t202 = true then (ashlarlaw02_WeighOrder.j0 k t195 a0.toNat a1.toNat t196 t197 t198 t199 t200 t201 true) else (if t196 = true then (if t197 = true then (ashlarlaw02_WeighOrder.j0 k t195 a0.toNat a1.toNat t196 t197 t198 t199 t200 t201 true) else (if t198 = true then (ashlarlaw02_WeighOrder.j0 k t195 a0.toNat a1.toNat t196 t197 t198 t199 t200 t201 (!t200)) else (ashlarlaw02_WeighOrder.j0 k t195 a0.toNat a1.toNat t196 t197 t198 t199 t200 t201 false))) else (ashlarlaw02_WeighOrder.j0 k t195 a0.toNat a1.toNat t196 t197 t198 t199 t200 t201 false))))))))) = some r := H
  have A5 := Aside0.mk A50
  clear A50
  replace H := Option.bind_eq_some_iff.mp H
  obtain ⟨t197, A60, H⟩ := H
  replace H : ((weigh_Less.f k a1.toNat a2.toNat).bind fun t198 => ((weigh_Less.f k a2.toNat a1.toNat).bind fun t199 => ((weigh_Less.f k a0.toNat a2.toNat).bind fun t200 => ((weigh_Less.f k a2.toNat a0.toNat).bind fun t201 => ((weigh_Less.f k a0.toNat a0.toNat).bind fun t202 => (if t202 = true then (ashlarlaw02_WeighOrder.j0 k t195 a0.toNat a1.toNat t196 t197 t198 t199 t200 t201 true) else (if t196 = true then (if t197 = true then (ashlarlaw02_WeighOrder.j0 k t195 a0.toNat a1.toNat t196 t197 t198 t199 t200 t201 true) else (if t198 = true then (ashlarlaw02_WeighOrder.j0 k t195 a0.toNat a1.toNat t196 t197 t198 t199 t200 t201 (!t200)) else (ashlarlaw02_WeighOrder.j0 k t195 a0.toNat a1.toNat t196 t197 t198 t199 t200 t201 false))) else (ashlarlaw02_WeighOrder.j0 k t195 a0.toNat a1.toNat t196 t197 t198 t199 t200 t201 false)))))))) = some r := H
  have A6 := Aside0.mk A60
  clear A60
  replace H := Option.bind_eq_some_iff.mp H
  obtain ⟨t198, A70, H⟩ := H
  replace H : ((weigh_Less.f k a2.toNat a1.toNat).bind fun t199 => ((weigh_Less.f k a0.toNat a2.toNat).bind fun t200 => ((weigh_Less.f k a2.toNat a0.toNat).bind fun t201 => ((weigh_Less.f k a0.toNat a0.toNat).bind fun t202 => (if t202 = true then (ashlarlaw02_WeighOrder.j0 k t195 a0.toNat a1.toNat t196 t197 t198 t199 t200 t201 true) else (if t196 = true then (if t197 = true then (ashlarlaw02_WeighOrder.j0 k t195 a0.toNat a1.toNat t196 t197 t198 t199 t200 t201 true) else (if t198 = true then (ashlarlaw02_WeighOrder.j0 k t195 a0.toNat a1.toNat t196 t197 t198 t199 t200 t201 (!t200)) else (ashlarlaw02_WeighOrder.j0 k t195 a0.toNat a1.toNat t196 t197 t198 t199 t200 t201 false))) else (ashlarlaw02_WeighOrder.j0 k t195 a0.toNat a1.toNat t196 t197 t198 t199 t200 t201 false))))))) = some r := H
  have A7 := Aside0.mk A70
  clear A70
  replace H := Option.bind_eq_some_iff.mp H
  obtain ⟨t199, A80, H⟩ := H
  replace H : ((weigh_Less.f k a0.toNat a2.toNat).bind fun t200 => ((weigh_Less.f k a2.toNat a0.toNat).bind fun t201 => ((weigh_Less.f k a0.toNat a0.toNat).bind fun t202 => (if t202 = true then (ashlarlaw02_WeighOrder.j0 k t195 a0.toNat a1.toNat t196 t197 t198 t199 t200 t201 true) else (if t196 = true then (if t197 = true then (ashlarlaw02_WeighOrder.j0 k t195 a0.toNat a1.toNat t196 t197 t198 t199 t200 t201 true) else (if t198 = true then (ashlarlaw02_WeighOrder.j0 k t195 a0.toNat a1.toNat t196 t197 t198 t199 t200 t201 (!t200)) else (ashlarlaw02_WeighOrder.j0 k t195 a0.toNat a1.toNat t196 t197 t198 t199 t200 t201 false))) else (ashlarlaw02_WeighOrder.j0 k t195 a0.toNat a1.toNat t196 t197 t198 t199 t200 t201 false)))))) = some r := H
  have A8 := Aside0.mk A80
  clear A80
  replace H := Option.bind_eq_some_iff.mp H
  obtain ⟨t200, A90, H⟩ := H
  replace H : ((weigh_Less.f k a2.toNat a0.toNat).bind fun t201 => ((weigh_Less.f k a0.toNat a0.toNat).bind fun t202 => (if t202 = true then (ashlarlaw02_WeighOrder.j0 k t195 a0.toNat a1.toNat t196 t197 t198 t199 t200 t201 true) else (if t196 = true then (if t197 = true then (ashlarlaw02_WeighOrder.j0 k t195 a0.toNat a1.toNat t196 t197 t198 t199 t200 t201 true) else (if t198 = true then (ashlarlaw02_WeighOrder.j0 k t195 a0.toNat a1.toNat t196 t197 t198 t199 t200 t201 (!t200)) else (ashlarlaw02_WeighOrder.j0 k t195 a0.toNat a1.toNat t196 t197 t198 t199 t200 t201 false))) else (ashlarlaw02_WeighOrder.j0 k t195 a0.toNat a1.toNat t196 t197 t198 t199 t200 t201 false))))) = some r := H
  have A9 := Aside0.mk A90
  clear A90
  replace H := Option.bind_eq_some_iff.mp H
  obtain ⟨t201, A100, H⟩ := H
  replace H : ((weigh_Less.f k a0.toNat a0.toNat).bind fun t202 => (if t202 = true then (ashlarlaw02_WeighOrder.j0 k t195 a0.toNat a1.toNat t196 t197 t198 t199 t200 t201 true) else (if t196 = true then (if t197 = true then (ashlarlaw02_WeighOrder.j0 k t195 a0.toNat a1.toNat t196 t197 t198 t199 t200 t201 true) else (if t198 = true then (ashlarlaw02_WeighOrder.j0 k t195 a0.toNat a1.toNat t196 t197 t198 t199 t200 t201 (!t200)) else (ashlarlaw02_WeighOrder.j0 k t195 a0.toNat a1.toNat t196 t197 t198 t199 t200 t201 false))) else (ashlarlaw02_WeighOrder.j0 k t195 a0.toNat a1.toNat t196 t197 t198 t199 t200 t201 false)))) = some r := H
  have A10 := Aside0.mk A100
  clear A100
  have HC11 := Aside0.mk H
  clear H
  go_enter Try.func4, Try.ntmps4
  go_upto_region 11 with (first | ((with_reducible refine gate_callee (f := 12) rfl ?_); refine goesL_ (some 18) rfl rfl Try.func12 (by kernel_rfl) rfl #[] rfl (by (try simp only [List.map_toArray, List.map_cons, List.map_nil]); first | done | rfl | (simp only [List.length_drop, List.length_take]; rfl)) ?_; (with_reducible refine (ashlarlaw02_shown.calls k  t195 _ A4.out).mono ?_); rintro e w12 ⟨rfl, hb⟩; refine ⟨_, rfl, ?_⟩; have n0_ := Aside0.mk (below_step (by repeat (first | (with_reducible first | exact HB.out | apply below_alloc | apply pw_below_drewN | apply below_drew1) | exact HB.out)) hb); clear HB; have HB := n0_; clear n0_; (try clear hb); (try clear hb2); (try clear hk); (try clear hi)) | ((with_reducible refine gate_callee (f := 21) rfl ?_); refine goesL_ (some 27) rfl rfl Try.func21 (by kernel_rfl) rfl #[.float .f64 a0.toNat, .float .f64 a1.toNat] rfl (by (try simp only [List.map_toArray, List.map_cons, List.map_nil]); first | done | rfl | (simp only [List.length_drop, List.length_take]; rfl)) ?_; (with_reducible refine (weigh_Less.calls k a0.toNat a1.toNat t196 _ A5.out).mono ?_); rintro e w' ⟨rfl, ⟨nd, rfl⟩⟩; refine ⟨_, rfl, ?_⟩) | ((with_reducible refine gate_callee (f := 21) rfl ?_); refine goesL_ (some 30) rfl rfl Try.func21 (by kernel_rfl) rfl #[.float .f64 a1.toNat, .float .f64 a0.toNat] rfl (by (try simp only [List.map_toArray, List.map_cons, List.map_nil]); first | done | rfl | (simp only [List.length_drop, List.length_take]; rfl)) ?_; (with_reducible refine (weigh_Less.calls k a1.toNat a0.toNat t197 _ A6.out).mono ?_); rintro e w' ⟨rfl, ⟨nd, rfl⟩⟩; refine ⟨_, rfl, ?_⟩) | ((with_reducible refine gate_callee (f := 21) rfl ?_); refine goesL_ (some 33) rfl rfl Try.func21 (by kernel_rfl) rfl #[.float .f64 a1.toNat, .float .f64 a2.toNat] rfl (by (try simp only [List.map_toArray, List.map_cons, List.map_nil]); first | done | rfl | (simp only [List.length_drop, List.length_take]; rfl)) ?_; (with_reducible refine (weigh_Less.calls k a1.toNat a2.toNat t198 _ A7.out).mono ?_); rintro e w' ⟨rfl, ⟨nd, rfl⟩⟩; refine ⟨_, rfl, ?_⟩) | ((with_reducible refine gate_callee (f := 21) rfl ?_); refine goesL_ (some 36) rfl rfl Try.func21 (by kernel_rfl) rfl #[.float .f64 a2.toNat, .float .f64 a1.toNat] rfl (by (try simp only [List.map_toArray, List.map_cons, List.map_nil]); first | done | rfl | (simp only [List.length_drop, List.length_take]; rfl)) ?_; (with_reducible refine (weigh_Less.calls k a2.toNat a1.toNat t199 _ A8.out).mono ?_); rintro e w' ⟨rfl, ⟨nd, rfl⟩⟩; refine ⟨_, rfl, ?_⟩) | ((with_reducible refine gate_callee (f := 21) rfl ?_); refine goesL_ (some 39) rfl rfl Try.func21 (by kernel_rfl) rfl #[.float .f64 a0.toNat, .float .f64 a2.toNat] rfl (by (try simp only [List.map_toArray, List.map_cons, List.map_nil]); first | done | rfl | (simp only [List.length_drop, List.length_take]; rfl)) ?_; (with_reducible refine (weigh_Less.calls k a0.toNat a2.toNat t200 _ A9.out).mono ?_); rintro e w' ⟨rfl, ⟨nd, rfl⟩⟩; refine ⟨_, rfl, ?_⟩) | ((with_reducible refine gate_callee (f := 21) rfl ?_); refine goesL_ (some 42) rfl rfl Try.func21 (by kernel_rfl) rfl #[.float .f64 a2.toNat, .float .f64 a0.toNat] rfl (by (try simp only [List.map_toArray, List.map_cons, List.map_nil]); first | done | rfl | (simp only [List.length_drop, List.length_take]; rfl)) ?_; (with_reducible refine (weigh_Less.calls k a2.toNat a0.toNat t201 _ A10.out).mono ?_); rintro e w' ⟨rfl, ⟨nd, rfl⟩⟩; refine ⟨_, rfl, ?_⟩))
  (try simp only [Act.put, List.setIfInBounds_toArray, List.set_cons_zero, List.set_cons_succ])
  go_cut [61] (fun v61 wc => ∃ (kq : Nat) (x61_10 : Bool), v61 = .bool x61_10 ∧ Aside0 (ashlarlaw02_WeighOrder.j0 kq t195 a0.toNat a1.toNat t196 t197 t198 t199 t200 t201 x61_10 = some r) ∧ Aside0 (kq ≤ k) ∧ Aside0 (Below w.heap.size w wc))
  case first =>
    have H := HC11.out
    clear HC11
    replace H := Option.bind_eq_some_iff.mp H
    obtain ⟨t202, A130, H⟩ := H
    replace H : (if t202 = true then (ashlarlaw02_WeighOrder.j0 k t195 a0.toNat a1.toNat t196 t197 t198 t199 t200 t201 true) else (if t196 = true then (if t197 = true then (ashlarlaw02_WeighOrder.j0 k t195 a0.toNat a1.toNat t196 t197 t198 t199 t200 t201 true) else (if t198 = true then (ashlarlaw02_WeighOrder.j0 k t195 a0.toNat a1.toNat t196 t197 t198 t199 t200 t201 (!t200)) else (ashlarlaw02_WeighOrder.j0 k t195 a0.toNat a1.toNat t196 t197 t198 t199 t200 t201 false))) else (ashlarlaw02_WeighOrder.j0 k t195 a0.toNat a1.toNat t196 t197 t198 t199 t200 t201 false))) = some r := H
    have A13 := Aside0.mk A130
    clear A130
    by_cases c14 : t202 = true
    · subst c14
      have H1 : (ashlarlaw02_WeighOrder.j0 k t195 a0.toNat a1.toNat t196 t197 t198 t199 t200 t201 true) = some r := by rw [if_pos rfl] at H; exact H
      clear H
      have H := H1
      clear H1
      have H' := Aside0.mk H
      clear H
      go_wp2_with (first | ((with_reducible refine gate_callee (f := 21) rfl ?_); refine goesL_ (some 45) rfl rfl Try.func21 (by kernel_rfl) rfl #[.float .f64 a0.toNat, .float .f64 a0.toNat] rfl (by (try simp only [List.map_toArray, List.map_cons, List.map_nil]); first | done | rfl | (simp only [List.length_drop, List.length_take]; rfl)) ?_; (with_reducible refine (weigh_Less.calls k a0.toNat a0.toNat true _ A13.out).mono ?_); rintro e w' ⟨rfl, ⟨nd, rfl⟩⟩; refine ⟨_, rfl, ?_⟩))
      go_meet
      case rel => exact ⟨_, (true), (by first | rfl | (simp; done) | (simp [*]; done)), H', ⟨by first | omega | exact Nat.le_refl _⟩, ⟨by repeat (first | (with_reducible first | exact HB.out | apply below_alloc | apply pw_below_drewN | apply below_drew1) | exact HB.out)⟩⟩
    · replace c14 := Bool.eq_false_iff.mpr c14
      subst c14
      have H1 : (if t196 = true then (if t197 = true then (ashlarlaw02_WeighOrder.j0 k t195 a0.toNat a1.toNat t196 t197 t198 t199 t200 t201 true) else (if t198 = true then (ashlarlaw02_WeighOrder.j0 k t195 a0.toNat a1.toNat t196 t197 t198 t199 t200 t201 (!t200)) else (ashlarlaw02_WeighOrder.j0 k t195 a0.toNat a1.toNat t196 t197 t198 t199 t200 t201 false))) else (ashlarlaw02_WeighOrder.j0 k t195 a0.toNat a1.toNat t196 t197 t198 t199 t200 t201 false)) = some r := by rw [if_neg (show ¬ (false = true) by decide)] at H; exact H
      clear H
      have H := H1
      clear H1
      by_cases c15 : t196 = true
      · subst c15
        have H1 : (if t197 = true then (ashlarlaw02_WeighOrder.j0 k t195 a0.toNat a1.toNat true t197 t198 t199 t200 t201 true) else (if t198 = true then (ashlarlaw02_WeighOrder.j0 k t195 a0.toNat a1.toNat true t197 t198 t199 t200 t201 (!t200)) else (ashlarlaw02_WeighOrder.j0 k t195 a0.toNat a1.toNat true t197 t198 t199 t200 t201 false))) = some r := by rw [if_pos rfl] at H; exact H
        clear H
        have H := H1
        clear H1
        by_cases c16 : t197 = true
        · subst c16
          have H1 : (ashlarlaw02_WeighOrder.j0 k t195 a0.toNat a1.toNat true true t198 t199 t200 t201 true) = some r := by rw [if_pos rfl] at H; exact H
          clear H
          have H := H1
          clear H1
          have H' := Aside0.mk H
          clear H
          go_wp2_with (first | ((with_reducible refine gate_callee (f := 21) rfl ?_); refine goesL_ (some 45) rfl rfl Try.func21 (by kernel_rfl) rfl #[.float .f64 a0.toNat, .float .f64 a0.toNat] rfl (by (try simp only [List.map_toArray, List.map_cons, List.map_nil]); first | done | rfl | (simp only [List.length_drop, List.length_take]; rfl)) ?_; (with_reducible refine (weigh_Less.calls k a0.toNat a0.toNat false _ A13.out).mono ?_); rintro e w' ⟨rfl, ⟨nd, rfl⟩⟩; refine ⟨_, rfl, ?_⟩))
          go_meet
          case rel => exact ⟨_, (true), (by first | rfl | (simp; done) | (simp [*]; done)), H', ⟨by first | omega | exact Nat.le_refl _⟩, ⟨by repeat (first | (with_reducible first | exact HB.out | apply below_alloc | apply pw_below_drewN | apply below_drew1) | exact HB.out)⟩⟩
        · replace c16 := Bool.eq_false_iff.mpr c16
          subst c16
          have H1 : (if t198 = true then (ashlarlaw02_WeighOrder.j0 k t195 a0.toNat a1.toNat true false t198 t199 t200 t201 (!t200)) else (ashlarlaw02_WeighOrder.j0 k t195 a0.toNat a1.toNat true false t198 t199 t200 t201 false)) = some r := by rw [if_neg (show ¬ (false = true) by decide)] at H; exact H
          clear H
          have H := H1
          clear H1
          by_cases c17 : t198 = true
          · subst c17
            have H1 : (ashlarlaw02_WeighOrder.j0 k t195 a0.toNat a1.toNat true false true t199 t200 t201 (!t200)) = some r := by rw [if_pos rfl] at H; exact H
            clear H
            have H := H1
            clear H1
            have H' := Aside0.mk H
            clear H
            go_wp2_with (first | ((with_reducible refine gate_callee (f := 21) rfl ?_); refine goesL_ (some 45) rfl rfl Try.func21 (by kernel_rfl) rfl #[.float .f64 a0.toNat, .float .f64 a0.toNat] rfl (by (try simp only [List.map_toArray, List.map_cons, List.map_nil]); first | done | rfl | (simp only [List.length_drop, List.length_take]; rfl)) ?_; (with_reducible refine (weigh_Less.calls k a0.toNat a0.toNat false _ A13.out).mono ?_); rintro e w' ⟨rfl, ⟨nd, rfl⟩⟩; refine ⟨_, rfl, ?_⟩))
            go_meet
            case rel => exact ⟨_, (!t200), (by first | rfl | (simp; done) | (simp [*]; done)), H', ⟨by first | omega | exact Nat.le_refl _⟩, ⟨by repeat (first | (with_reducible first | exact HB.out | apply below_alloc | apply pw_below_drewN | apply below_drew1) | exact HB.out)⟩⟩
          · replace c17 := Bool.eq_false_iff.mpr c17
            subst c17
            have H1 : (ashlarlaw02_WeighOrder.j0 k t195 a0.toNat a1.toNat true false false t199 t200 t201 false) = some r := by rw [if_neg (show ¬ (false = true) by decide)] at H; exact H
            clear H
            have H := H1
            clear H1
            have H' := Aside0.mk H
            clear H
            go_wp2_with (first | ((with_reducible refine gate_callee (f := 21) rfl ?_); refine goesL_ (some 45) rfl rfl Try.func21 (by kernel_rfl) rfl #[.float .f64 a0.toNat, .float .f64 a0.toNat] rfl (by (try simp only [List.map_toArray, List.map_cons, List.map_nil]); first | done | rfl | (simp only [List.length_drop, List.length_take]; rfl)) ?_; (with_reducible refine (weigh_Less.calls k a0.toNat a0.toNat false _ A13.out).mono ?_); rintro e w' ⟨rfl, ⟨nd, rfl⟩⟩; refine ⟨_, rfl, ?_⟩))
            go_meet
            case rel => exact ⟨_, (false), (by first | rfl | (simp; done) | (simp [*]; done)), H', ⟨by first | omega | exact Nat.le_refl _⟩, ⟨by repeat (first | (with_reducible first | exact HB.out | apply below_alloc | apply pw_below_drewN | apply below_drew1) | exact HB.out)⟩⟩
      · replace c15 := Bool.eq_false_iff.mpr c15
        subst c15
        have H1 : (ashlarlaw02_WeighOrder.j0 k t195 a0.toNat a1.toNat false t197 t198 t199 t200 t201 false) = some r := by rw [if_neg (show ¬ (false = true) by decide)] at H; exact H
        clear H
        have H := H1
        clear H1
        have H' := Aside0.mk H
        clear H
        go_wp2_with (first | ((with_reducible refine gate_callee (f := 21) rfl ?_); refine goesL_ (some 45) rfl rfl Try.func21 (by kernel_rfl) rfl #[.float .f64 a0.toNat, .float .f64 a0.toNat] rfl (by (try simp only [List.map_toArray, List.map_cons, List.map_nil]); first | done | rfl | (simp only [List.length_drop, List.length_take]; rfl)) ?_; (with_reducible refine (weigh_Less.calls k a0.toNat a0.toNat false _ A13.out).mono ?_); rintro e w' ⟨rfl, ⟨nd, rfl⟩⟩; refine ⟨_, rfl, ?_⟩))
        go_meet
        case rel => exact ⟨_, (false), (by first | rfl | (simp; done) | (simp [*]; done)), H', ⟨by first | omega | exact Nat.le_refl _⟩, ⟨by repeat (first | (with_reducible first | exact HB.out | apply below_alloc | apply pw_below_drewN | apply below_drew1) | exact HB.out)⟩⟩
  case rest =>
    clear HC11
    try clear c1
    try clear c2
    try clear p2
    try clear c4
    try clear c12
    try clear c14
    try clear c15
    try clear c16
    try clear c17
    obtain ⟨kq, x61_10, rfl, HA, HJ10, HB⟩ := hcut
    cases kq with
    | zero => exact absurd HA.out (by simp [ashlarlaw02_WeighOrder.j0])
    | succ kj10 =>
      have H := HA.out
      clear HA
      simp only [ashlarlaw02_WeighOrder.j0] at H
      by_cases c18 : x61_10 = true
      · subst c18
        have H1 : (some false) = some r := by rw [if_pos rfl] at H; exact H
        clear H
        have H := H1
        clear H1
        obtain rfl := Option.some.inj H
        go_wp2
        go_ret
        exact ⟨by first | rfl | (simp [errW_none, errW_some] <;> rfl) | (simp [*, errW_none, errW_some] <;> rfl), by repeat (first | (with_reducible first | exact HB.out | apply below_alloc | apply pw_below_drewN | apply below_drew1) | exact HB.out)⟩
      · replace c18 := Bool.eq_false_iff.mpr c18
        subst c18
        have H1 : (if t196 = true then (if t195 = true then (if fNe a0.toNat a0.toNat = true then (some true) else (if fNe a1.toNat a1.toNat = true then (some true) else (if fEq a0.toNat a1.toNat = true then (some true) else (some (t196 == (fLt a0.toNat a1.toNat)))))) else (some false)) else (if t197 = true then (if t195 = true then (if fNe a0.toNat a0.toNat = true then (some true) else (if fNe a1.toNat a1.toNat = true then (some true) else (if fEq a0.toNat a1.toNat = true then (some true) else (some (t196 == (fLt a0.toNat a1.toNat)))))) else (some false)) else (if (t198 != t200) = true then (some false) else (if (t199 != t201) = true then (some false) else (if t195 = true then (if fNe a0.toNat a0.toNat = true then (some true) else (if fNe a1.toNat a1.toNat = true then (some true) else (if fEq a0.toNat a1.toNat = true then (some true) else (some (t196 == (fLt a0.toNat a1.toNat)))))) else (some false)))))) = some r := by rw [if_neg (show ¬ (false = true) by decide)] at H; exact H
        clear H
        have H := H1
        clear H1
        by_cases c19 : t196 = true
        · subst c19
          have H1 : (if t195 = true then (if fNe a0.toNat a0.toNat = true then (some true) else (if fNe a1.toNat a1.toNat = true then (some true) else (if fEq a0.toNat a1.toNat = true then (some true) else (some (true == (fLt a0.toNat a1.toNat)))))) else (some false)) = some r := by rw [if_pos rfl] at H; exact H
          clear H
          have H := H1
          clear H1
          by_cases c20 : t195 = true
          · subst c20
            have H1 : (if fNe a0.toNat a0.toNat = true then (some true) else (if fNe a1.toNat a1.toNat = true then (some true) else (if fEq a0.toNat a1.toNat = true then (some true) else (some (true == (fLt a0.toNat a1.toNat)))))) = some r := by rw [if_pos rfl] at H; exact H
            clear H
            have H := H1
            clear H1
            by_cases c21 : fNe a0.toNat a0.toNat = true
            · rw [if_pos c21] at H
              have c21b0 : fNe a0.toNat a0.toNat = true := c21
              clear c21
              obtain rfl := Option.some.inj H
              go_wp2
              go_ret
              exact ⟨by first | rfl | (simp [errW_none, errW_some] <;> rfl) | (simp [*, errW_none, errW_some] <;> rfl), by repeat (first | (with_reducible first | exact HB.out | apply below_alloc | apply pw_below_drewN | apply below_drew1) | exact HB.out)⟩
            · rw [if_neg c21] at H
              have c21b0 : fNe a0.toNat a0.toNat = false := by simpa using c21
              clear c21
              by_cases c22 : fNe a1.toNat a1.toNat = true
              · rw [if_pos c22] at H
                have c22b0 : fNe a1.toNat a1.toNat = true := c22
                clear c22
                obtain rfl := Option.some.inj H
                go_wp2
                go_ret
                exact ⟨by first | rfl | (simp [errW_none, errW_some] <;> rfl) | (simp [*, errW_none, errW_some] <;> rfl), by repeat (first | (with_reducible first | exact HB.out | apply below_alloc | apply pw_below_drewN | apply below_drew1) | exact HB.out)⟩
              · rw [if_neg c22] at H
                have c22b0 : fNe a1.toNat a1.toNat = false := by simpa using c22
                clear c22
                by_cases c23 : fEq a0.toNat a1.toNat = true
                · rw [if_pos c23] at H
                  have c23b0 : fEq a0.toNat a1.toNat = true := c23
                  clear c23
                  obtain rfl := Option.some.inj H
                  go_wp2
                  go_ret
                  exact ⟨by first | rfl | (simp [errW_none, errW_some] <;> rfl) | (simp [*, errW_none, errW_some] <;> rfl), by repeat (first | (with_reducible first | exact HB.out | apply below_alloc | apply pw_below_drewN | apply below_drew1) | exact HB.out)⟩
                · rw [if_neg c23] at H
                  have c23b0 : fEq a0.toNat a1.toNat = false := by simpa using c23
                  clear c23
                  obtain rfl := Option.some.inj H
                  go_wp2
                  go_ret
                  exact ⟨by first | rfl | (simp [errW_none, errW_some] <;> rfl) | (simp [*, errW_none, errW_some] <;> rfl), by repeat (first | (with_reducible first | exact HB.out | apply below_alloc | apply pw_below_drewN | apply below_drew1) | exact HB.out)⟩
          · replace c20 := Bool.eq_false_iff.mpr c20
            subst c20
            have H1 : (some false) = some r := by rw [if_neg (show ¬ (false = true) by decide)] at H; exact H
            clear H
            have H := H1
            clear H1
            obtain rfl := Option.some.inj H
            go_wp2
            go_ret
            exact ⟨by first | rfl | (simp [errW_none, errW_some] <;> rfl) | (simp [*, errW_none, errW_some] <;> rfl), by repeat (first | (with_reducible first | exact HB.out | apply below_alloc | apply pw_below_drewN | apply below_drew1) | exact HB.out)⟩
        · replace c19 := Bool.eq_false_iff.mpr c19
          subst c19
          have H1 : (if t197 = true then (if t195 = true then (if fNe a0.toNat a0.toNat = true then (some true) else (if fNe a1.toNat a1.toNat = true then (some true) else (if fEq a0.toNat a1.toNat = true then (some true) else (some (false == (fLt a0.toNat a1.toNat)))))) else (some false)) else (if (t198 != t200) = true then (some false) else (if (t199 != t201) = true then (some false) else (if t195 = true then (if fNe a0.toNat a0.toNat = true then (some true) else (if fNe a1.toNat a1.toNat = true then (some true) else (if fEq a0.toNat a1.toNat = true then (some true) else (some (false == (fLt a0.toNat a1.toNat)))))) else (some false))))) = some r := by rw [if_neg (show ¬ (false = true) by decide)] at H; exact H
          clear H
          have H := H1
          clear H1
          by_cases c24 : t197 = true
          · subst c24
            have H1 : (if t195 = true then (if fNe a0.toNat a0.toNat = true then (some true) else (if fNe a1.toNat a1.toNat = true then (some true) else (if fEq a0.toNat a1.toNat = true then (some true) else (some (false == (fLt a0.toNat a1.toNat)))))) else (some false)) = some r := by rw [if_pos rfl] at H; exact H
            clear H
            have H := H1
            clear H1
            by_cases c25 : t195 = true
            · subst c25
              have H1 : (if fNe a0.toNat a0.toNat = true then (some true) else (if fNe a1.toNat a1.toNat = true then (some true) else (if fEq a0.toNat a1.toNat = true then (some true) else (some (false == (fLt a0.toNat a1.toNat)))))) = some r := by rw [if_pos rfl] at H; exact H
              clear H
              have H := H1
              clear H1
              by_cases c26 : fNe a0.toNat a0.toNat = true
              · rw [if_pos c26] at H
                have c26b0 : fNe a0.toNat a0.toNat = true := c26
                clear c26
                obtain rfl := Option.some.inj H
                go_wp2
                go_ret
                exact ⟨by first | rfl | (simp [errW_none, errW_some] <;> rfl) | (simp [*, errW_none, errW_some] <;> rfl), by repeat (first | (with_reducible first | exact HB.out | apply below_alloc | apply pw_below_drewN | apply below_drew1) | exact HB.out)⟩
              · rw [if_neg c26] at H
                have c26b0 : fNe a0.toNat a0.toNat = false := by simpa using c26
                clear c26
                by_cases c27 : fNe a1.toNat a1.toNat = true
                · rw [if_pos c27] at H
                  have c27b0 : fNe a1.toNat a1.toNat = true := c27
                  clear c27
                  obtain rfl := Option.some.inj H
                  go_wp2
                  go_ret
                  exact ⟨by first | rfl | (simp [errW_none, errW_some] <;> rfl) | (simp [*, errW_none, errW_some] <;> rfl), by repeat (first | (with_reducible first | exact HB.out | apply below_alloc | apply pw_below_drewN | apply below_drew1) | exact HB.out)⟩
                · rw [if_neg c27] at H
                  have c27b0 : fNe a1.toNat a1.toNat = false := by simpa using c27
                  clear c27
                  by_cases c28 : fEq a0.toNat a1.toNat = true
                  · rw [if_pos c28] at H
                    have c28b0 : fEq a0.toNat a1.toNat = true := c28
                    clear c28
                    obtain rfl := Option.some.inj H
                    go_wp2
                    go_ret
                    exact ⟨by first | rfl | (simp [errW_none, errW_some] <;> rfl) | (simp [*, errW_none, errW_some] <;> rfl), by repeat (first | (with_reducible first | exact HB.out | apply below_alloc | apply pw_below_drewN | apply below_drew1) | exact HB.out)⟩
                  · rw [if_neg c28] at H
                    have c28b0 : fEq a0.toNat a1.toNat = false := by simpa using c28
                    clear c28
                    obtain rfl := Option.some.inj H
                    go_wp2
                    go_ret
                    exact ⟨by first | rfl | (simp [errW_none, errW_some] <;> rfl) | (simp [*, errW_none, errW_some] <;> rfl), by repeat (first | (with_reducible first | exact HB.out | apply below_alloc | apply pw_below_drewN | apply below_drew1) | exact HB.out)⟩
            · replace c25 := Bool.eq_false_iff.mpr c25
              subst c25
              have H1 : (some false) = some r := by rw [if_neg (show ¬ (false = true) by decide)] at H; exact H
              clear H
              have H := H1
              clear H1
              obtain rfl := Option.some.inj H
              go_wp2
              go_ret
              exact ⟨by first | rfl | (simp [errW_none, errW_some] <;> rfl) | (simp [*, errW_none, errW_some] <;> rfl), by repeat (first | (with_reducible first | exact HB.out | apply below_alloc | apply pw_below_drewN | apply below_drew1) | exact HB.out)⟩
          · replace c24 := Bool.eq_false_iff.mpr c24
            subst c24
            have H1 : (if (t198 != t200) = true then (some false) else (if (t199 != t201) = true then (some false) else (if t195 = true then (if fNe a0.toNat a0.toNat = true then (some true) else (if fNe a1.toNat a1.toNat = true then (some true) else (if fEq a0.toNat a1.toNat = true then (some true) else (some (false == (fLt a0.toNat a1.toNat)))))) else (some false)))) = some r := by rw [if_neg (show ¬ (false = true) by decide)] at H; exact H
            clear H
            have H := H1
            clear H1
            by_cases c29 : (t198 != t200) = true
            · rw [if_pos c29] at H
              have c29b0 : (t198 != t200) = true := c29
              (try (have c29b1 : decide (t198 = t200) = false := by simpa using c29))
              (try (have c29b2 : (t198 == t200) = false := by simpa using c29))
              (try (have c29b3 : ¬ (t198 = t200) := by simpa using c29))
              clear c29
              obtain rfl := Option.some.inj H
              go_wp2
              go_ret
              exact ⟨by first | rfl | (simp [errW_none, errW_some] <;> rfl) | (simp [*, errW_none, errW_some] <;> rfl), by repeat (first | (with_reducible first | exact HB.out | apply below_alloc | apply pw_below_drewN | apply below_drew1) | exact HB.out)⟩
            · rw [if_neg c29] at H
              have c29b0 : (t198 != t200) = false := by simpa using c29
              (try (have c29b1 : decide (t198 = t200) = true := by simpa using c29))
              (try (have c29b2 : (t198 == t200) = true := by simpa using c29))
              clear c29
              by_cases c30 : (t199 != t201) = true
              · rw [if_pos c30] at H
                have c30b0 : (t199 != t201) = true := c30
                (try (have c30b1 : decide (t199 = t201) = false := by simpa using c30))
                (try (have c30b2 : (t199 == t201) = false := by simpa using c30))
                (try (have c30b3 : ¬ (t199 = t201) := by simpa using c30))
                clear c30
                obtain rfl := Option.some.inj H
                go_wp2
                go_ret
                exact ⟨by first | rfl | (simp [errW_none, errW_some] <;> rfl) | (simp [*, errW_none, errW_some] <;> rfl), by repeat (first | (with_reducible first | exact HB.out | apply below_alloc | apply pw_below_drewN | apply below_drew1) | exact HB.out)⟩
              · rw [if_neg c30] at H
                have c30b0 : (t199 != t201) = false := by simpa using c30
                (try (have c30b1 : decide (t199 = t201) = true := by simpa using c30))
                (try (have c30b2 : (t199 == t201) = true := by simpa using c30))
                clear c30
                by_cases c31 : t195 = true
                · subst c31
                  have H1 : (if fNe a0.toNat a0.toNat = true then (some true) else (if fNe a1.toNat a1.toNat = true then (some true) else (if fEq a0.toNat a1.toNat = true then (some true) else (some (false == (fLt a0.toNat a1.toNat)))))) = some r := by rw [if_pos rfl] at H; exact H
                  clear H
                  have H := H1
                  clear H1
                  by_cases c32 : fNe a0.toNat a0.toNat = true
                  · rw [if_pos c32] at H
                    have c32b0 : fNe a0.toNat a0.toNat = true := c32
                    clear c32
                    obtain rfl := Option.some.inj H
                    go_wp2
                    go_ret
                    exact ⟨by first | rfl | (simp [errW_none, errW_some] <;> rfl) | (simp [*, errW_none, errW_some] <;> rfl), by repeat (first | (with_reducible first | exact HB.out | apply below_alloc | apply pw_below_drewN | apply below_drew1) | exact HB.out)⟩
                  · rw [if_neg c32] at H
                    have c32b0 : fNe a0.toNat a0.toNat = false := by simpa using c32
                    clear c32
                    by_cases c33 : fNe a1.toNat a1.toNat = true
                    · rw [if_pos c33] at H
                      have c33b0 : fNe a1.toNat a1.toNat = true := c33
                      clear c33
                      obtain rfl := Option.some.inj H
                      go_wp2
                      go_ret
                      exact ⟨by first | rfl | (simp [errW_none, errW_some] <;> rfl) | (simp [*, errW_none, errW_some] <;> rfl), by repeat (first | (with_reducible first | exact HB.out | apply below_alloc | apply pw_below_drewN | apply below_drew1) | exact HB.out)⟩
                    · rw [if_neg c33] at H
                      have c33b0 : fNe a1.toNat a1.toNat = false := by simpa using c33
                      clear c33
                      by_cases c34 : fEq a0.toNat a1.toNat = true
                      · rw [if_pos c34] at H
                        have c34b0 : fEq a0.toNat a1.toNat = true := c34
                        clear c34
                        obtain rfl := Option.some.inj H
                        go_wp2
                        go_ret
                        exact ⟨by first | rfl | (simp [errW_none, errW_some] <;> rfl) | (simp [*, errW_none, errW_some] <;> rfl), by repeat (first | (with_reducible first | exact HB.out | apply below_alloc | apply pw_below_drewN | apply below_drew1) | exact HB.out)⟩
                      · rw [if_neg c34] at H
                        have c34b0 : fEq a0.toNat a1.toNat = false := by simpa using c34
                        clear c34
                        obtain rfl := Option.some.inj H
                        go_wp2
                        go_ret
                        exact ⟨by first | rfl | (simp [errW_none, errW_some] <;> rfl) | (simp [*, errW_none, errW_some] <;> rfl), by repeat (first | (with_reducible first | exact HB.out | apply below_alloc | apply pw_below_drewN | apply below_drew1) | exact HB.out)⟩
                · replace c31 := Bool.eq_false_iff.mpr c31
                  subst c31
                  have H1 : (some false) = some r := by rw [if_neg (show ¬ (false = true) by decide)] at H; exact H
                  clear H
                  have H := H1
                  clear H1
                  obtain rfl := Option.some.inj H
                  go_wp2
                  go_ret
                  exact ⟨by first | rfl | (simp [errW_none, errW_some] <;> rfl) | (simp [*, errW_none, errW_some] <;> rfl), by repeat (first | (with_reducible first | exact HB.out | apply below_alloc | apply pw_below_drewN | apply below_drew1) | exact HB.out)⟩

/-- THE ONE PURE STATEMENT of ashlarlaw02_WeighOrder: yours. -/
def ashlarlaw02_WeighOrder.Pure : Prop := ∀ (a0 : Int) (a1 : Int) (a2 : Int), (Lit.int .u64 a0).wf = true → (Lit.int .u64 a1).wf = true → (Lit.int .u64 a2).wf = true → ∃ k, ashlarlaw02_WeighOrder.f k a0 a1 a2 = some true
theorem ashlarlaw02_WeighOrder.walk (P : ashlarlaw02_WeighOrder.Pure) (a0 : Int) (a1 : Int) (a2 : Int) (w : World) (w0 : (Lit.int .u64 a0).wf = true) (w1 : (Lit.int .u64 a1).wf = true) (w2 : (Lit.int .u64 a2).wf = true) :
    Calls Try.prog 4 #[.int .u64 a0, .int .u64 a1, .int .u64 a2] w fun e w' => e = .returned (.bool true) ∧ Below w.heap.size w w' := by
  obtain ⟨k, h⟩ := P a0 a1 a2 w0 w1 w2
  refine (ashlarlaw02_WeighOrder.calls k a0 a1 a2 true w h).mono ?_
  rintro e w' ⟨rfl, hd⟩
  exact ⟨rfl, hd⟩

/-! ### ashlarlaw02_WeighHeavy: function 5 -/
mutual
def ashlarlaw02_WeighHeavy.j0 : Nat → Bool → List Nat → Int → Bool → Option (Bool)
  | 0, _, _, _, _ => none
  | k + 1, x3, x4, x5, x30 => if x30 = true then (some false) else (ashlarlaw02_WeighHeavy.l0 k x3 x4 x5 0)
def ashlarlaw02_WeighHeavy.l0 : Nat → Bool → List Nat → Int → Int → Option (Bool)
  | 0, _, _, _, _ => none
  | k + 1, x3, x4, x5, x6 => if x6 < (x4.length : Int) then (if 0 ≤ x5 then (if x5 < (x4.length : Int) then (if 0 ≤ x6 then ((weigh_Less.f k (rdOf (0 : Nat) x4 x5) (rdOf (0 : Nat) x4 x6)).bind fun t218 => (if t218 = true then (some false) else (if x6 < x5 then ((weigh_Less.f k (rdOf (0 : Nat) x4 x6) (rdOf (0 : Nat) x4 x5)).bind fun t221 => (if t221 = true then (ashlarlaw02_WeighHeavy.l0 k x3 x4 x5 (wrap64 (x6 + 1))) else (some false))) else (ashlarlaw02_WeighHeavy.l0 k x3 x4 x5 (wrap64 (x6 + 1)))))) else (none)) else (none)) else (none)) else ((weigh_Rescale.f k x4).bind fun bt208 => ((weigh_Heavy.f bt208.1).bind fun t212 => (if x3 = true then (if t212 ≥ 0 then (if t212 < (bt208.1.length : Int) then (if 0 ≤ t212 then (if 0 ≤ x5 then (if x5 < (bt208.1.length : Int) then ((weigh_Less.f k (rdOf (0 : Nat) bt208.1 t212) (rdOf (0 : Nat) bt208.1 x5)).bind fun t215 => (some (!t215))) else (none)) else (none)) else (none)) else (some false)) else (some false)) else (some false))))
end
def ashlarlaw02_WeighHeavy.f (k : Nat) (l0 : List Int) : Option (Bool) := (ashlarlaw02_shown.f k).bind fun t203 => ((ashlarlaw02_floats.f k l0).bind fun t204 => ((weigh_Heavy.f t204).bind fun t207 => (if (t204.length : Int) = 0 then (if t203 = true then (some (t207 == (-1))) else (some false)) else (if t207 < 0 then (ashlarlaw02_WeighHeavy.j0 k t203 t204 t207 true) else (ashlarlaw02_WeighHeavy.j0 k t203 t204 t207 (decide (t207 ≥ (t204.length : Int))))))))
theorem ashlarlaw02_WeighHeavy.mono_l : ∀ k, (∀ y0 y1 y2 y3, LeO (ashlarlaw02_WeighHeavy.j0 k y0 y1 y2 y3) (ashlarlaw02_WeighHeavy.j0 (k + 1) y0 y1 y2 y3)) ∧ (∀ y0 y1 y2 y3, LeO (ashlarlaw02_WeighHeavy.l0 k y0 y1 y2 y3) (ashlarlaw02_WeighHeavy.l0 (k + 1) y0 y1 y2 y3))
  | 0 => ⟨fun _ _ _ _ r h => by simp [ashlarlaw02_WeighHeavy.j0] at h, fun _ _ _ _ r h => by simp [ashlarlaw02_WeighHeavy.l0] at h⟩
  | k + 1 => by
    obtain ⟨ih0, ih1⟩ := ashlarlaw02_WeighHeavy.mono_l k
    refine ⟨?_, ?_⟩
    · intro y0 y1 y2 y3
      unfold ashlarlaw02_WeighHeavy.j0
      repeat' first
      | (with_reducible exact ih0 _ _ _ _)
      | (with_reducible exact ih1 _ _ _ _)
      | (with_reducible exact ashlarlaw02_floats.mono _ _)
      | (with_reducible exact ashlarlaw02_shown.mono _)
      | (with_reducible exact weigh_Less.mono _ _ _)
      | (with_reducible exact weigh_Rescale.mono _ _)
      | (with_reducible exact LeO.refl _)
      | (with_reducible exact LeO.none _)
      | (with_reducible refine LeO.ite ?_ ?_)
      | (with_reducible refine LeO.bind ?_ (fun _ => ?_))
      | exact ih0 _ _ _ _
      | exact ih1 _ _ _ _
      | exact ashlarlaw02_floats.mono _ _
      | exact ashlarlaw02_shown.mono _
      | exact weigh_Less.mono _ _ _
      | exact weigh_Rescale.mono _ _
      | exact LeO.none _
      | refine LeO.ite ?_ ?_
      | refine LeO.bind ?_ (fun _ => ?_)
    · intro y0 y1 y2 y3
      unfold ashlarlaw02_WeighHeavy.l0
      repeat' first
      | (with_reducible exact ih0 _ _ _ _)
      | (with_reducible exact ih1 _ _ _ _)
      | (with_reducible exact ashlarlaw02_floats.mono _ _)
      | (with_reducible exact ashlarlaw02_shown.mono _)
      | (with_reducible exact weigh_Less.mono _ _ _)
      | (with_reducible exact weigh_Rescale.mono _ _)
      | (with_reducible exact LeO.refl _)
      | (with_reducible exact LeO.none _)
      | (with_reducible refine LeO.ite ?_ ?_)
      | (with_reducible refine LeO.bind ?_ (fun _ => ?_))
      | exact ih0 _ _ _ _
      | exact ih1 _ _ _ _
      | exact ashlarlaw02_floats.mono _ _
      | exact ashlarlaw02_shown.mono _
      | exact weigh_Less.mono _ _ _
      | exact weigh_Rescale.mono _ _
      | exact LeO.none _
      | refine LeO.ite ?_ ?_
      | refine LeO.bind ?_ (fun _ => ?_)
theorem ashlarlaw02_WeighHeavy.mono : ∀ a0 k, LeO (ashlarlaw02_WeighHeavy.f k a0) (ashlarlaw02_WeighHeavy.f (k + 1) a0) := by
  intro a0 k
  obtain ⟨ih0, ih1⟩ := ashlarlaw02_WeighHeavy.mono_l k
  unfold ashlarlaw02_WeighHeavy.f
  repeat' first
      | (with_reducible exact ih0 _ _ _ _)
      | (with_reducible exact ih1 _ _ _ _)
      | (with_reducible exact ashlarlaw02_floats.mono _ _)
      | (with_reducible exact ashlarlaw02_shown.mono _)
      | (with_reducible exact weigh_Less.mono _ _ _)
      | (with_reducible exact weigh_Rescale.mono _ _)
      | (with_reducible exact LeO.refl _)
      | (with_reducible exact LeO.none _)
      | (with_reducible refine LeO.ite ?_ ?_)
      | (with_reducible refine LeO.bind ?_ (fun _ => ?_))
      | exact ih0 _ _ _ _
      | exact ih1 _ _ _ _
      | exact ashlarlaw02_floats.mono _ _
      | exact ashlarlaw02_shown.mono _
      | exact weigh_Less.mono _ _ _
      | exact weigh_Rescale.mono _ _
      | exact LeO.none _
      | refine LeO.ite ?_ ?_
      | refine LeO.bind ?_ (fun _ => ?_)
set_option maxHeartbeats 8000000 in
set_option maxRecDepth 100000 in
theorem ashlarlaw02_WeighHeavy.calls (k : Nat) (A0 : Option Addr) (c0 : Nat) (l0 : List Int) (r : Bool) (w : World) (hr0 : Kd.C (Kd.int .u64) w A0 l0.length l0) (hc0 : l0.length ≤ c0) (h : ashlarlaw02_WeighHeavy.f k l0 = some r) :
    Calls Try.prog 5 #[.slice A0 l0.length c0] w fun e w' => e = .returned (.bool r) ∧ Below w.heap.size w w' := by
  have HR0 := Aside0.mk hr0
  have HC0 := Aside0.mk hc0
  clear hr0 hc0
  have HB := Aside0.mk (Below.refl w.heap.size w)
  have H : ((ashlarlaw02_shown.f k).bind fun t203 => ((ashlarlaw02_floats.f k l0).bind fun t204 => ((weigh_Heavy.f t204).bind fun t207 => (if (t204.length : Int) = 0 then (if t203 = true then (some (t207 == (-1))) else (some false)) else (if t207 < 0 then (ashlarlaw02_WeighHeavy.j0 k t203 t204 t207 true) else (ashlarlaw02_WeighHeavy.j0 k t203 t204 t207 (decide (t207 ≥ (t204.length : Int))))))))) = some r := h
  clear h
  replace H := Option.bind_eq_some_iff.mp H
  obtain ⟨t203, A20, H⟩ := H
  replace H : ((ashlarlaw02_floats.f k l0).bind fun t204 => ((weigh_Heavy.f t204).bind fun t207 => (if (t204.length : Int) = 0 then (if t203 = true then (some (t207 == (-1))) else (some false)) else (if t207 < 0 then (ashlarlaw02_WeighHeavy.j0 k t203 t204 t207 true) else (ashlarlaw02_WeighHeavy.j0 k t203 t204 t207 (decide (t207 ≥ (t204.length : Int)))))))) = some r := H
  have A2 := Aside0.mk A20
  clear A20
  replace H := Option.bind_eq_some_iff.mp H
  obtain ⟨t204, A30, H⟩ := H
  replace H : ((weigh_Heavy.f t204).bind fun t207 => (if (t204.length : Int) = 0 then (if t203 = true then (some (t207 == (-1))) else (some false)) else (if t207 < 0 then (ashlarlaw02_WeighHeavy.j0 k t203 t204 t207 true) else (ashlarlaw02_WeighHeavy.j0 k t203 t204 t207 (decide (t207 ≥ (t204.length : Int))))))) = some r := H
  have A3 := Aside0.mk A30
  clear A30
  replace H := Option.bind_eq_some_iff.mp H
  obtain ⟨t207, A40, H⟩ := H
  replace H : (if (t204.length : Int) = 0 then (if t203 = true then (some (t207 == (-1))) else (some false)) else (if t207 < 0 then (ashlarlaw02_WeighHeavy.j0 k t203 t204 t207 true) else (ashlarlaw02_WeighHeavy.j0 k t203 t204 t207 (decide (t207 ≥ (t204.length : Int)))))) = some r := H
  have A4 := Aside0.mk A40
  clear A40
  by_cases c5 : (t204.length : Int) = 0
  · rw [if_pos c5] at H
    have c5b0 : ((t204.length : Int) == 0) = true := beq_iff_eq.mpr c5
    have c5b1 : ((t204.length : Int) != 0) = false := bne_eq_false_iff_eq.mpr c5
    clear c5
    by_cases c6 : t203 = true
    · subst c6
      have H1 : (some (t207 == (-1))) = some r := by rw [if_pos rfl] at H; exact H
      clear H
      have H := H1
      clear H1
      obtain rfl := Option.some.inj H
      go_enter Try.func5, Try.ntmps5
      go_wp2_with (first | (go_at_call 12; (with_reducible refine (ashlarlaw02_shown.calls k  true _ A2.out).mono ?_); rintro e w7 ⟨rfl, hb⟩; have n0_ := Aside0.mk (below_step (by repeat (first | (with_reducible first | exact HB.out | apply below_alloc | apply pw_below_drewN | apply below_drew1) | exact HB.out)) hb); clear HB; have HB := n0_; clear n0_; (try clear hb); (try clear hb2); (try clear hk); (try clear hi)) | (go_at_call 13; (with_reducible refine (ashlarlaw02_floats.calls k _ _ l0 t204 _ ?side1 ?side2 A3.out).mono ?_); (case side1 => repeat (first | exact (Kd.C_below HR0.out HB.out) | (with_reducible refine Kd.C_alloc ?_ _) | (with_reducible refine Kd.C_drewN ?_ _) | (with_reducible refine Kd.C_drew ?_))); (case side2 => exact HC0.out); rintro e w8 ⟨v205, rfl, ho0, hb⟩; have n0_ := Aside0.mk (Kd.R_lower ho0 (below_size (by repeat (first | (with_reducible first | exact HB.out | apply below_alloc | apply pw_below_drewN | apply below_drew1) | exact HB.out)))); have n1_ := Aside0.mk (below_step (by repeat (first | (with_reducible first | exact HB.out | apply below_alloc | apply pw_below_drewN | apply below_drew1) | exact HB.out)) hb); clear HB; have HO206 := n0_; have HB := n1_; clear n0_ n1_; (try clear hb); (try clear hb2); (try clear hk); (try clear hi); (try clear ho0); obtain ⟨Ao9, co9, eo9⟩ := Kd.R_slice HO206.out; subst eo9) | (go_at_call 16; (with_reducible refine (weigh_Heavy.calls _ _ t204 t207 _ ?side1 ?side2 A4.out).mono ?_); (case side1 => repeat (first | exact (Kd.R_reads' HO206.out).2.2 | (with_reducible refine Kd.C_alloc ?_ _) | (with_reducible refine Kd.C_drewN ?_ _) | (with_reducible refine Kd.C_drew ?_))); (case side2 => exact (Kd.R_reads' HO206.out).2.1); rintro e w10 ⟨rfl, hb⟩; have n0_ := Aside0.mk (Kd.R_below (by (with_reducible repeat (first | apply Kd.R_alloc | apply Kd.R_drewN | apply Kd.R_drew)); exact HO206.out) hb); have n1_ := Aside0.mk (below_step (by repeat (first | (with_reducible first | exact HB.out | apply below_alloc | apply pw_below_drewN | apply below_drew1) | exact HB.out)) hb); clear HO206; clear HB; have HO206 := n0_; have HB := n1_; clear n0_ n1_; (try clear hb); (try clear hb2); (try clear hk); (try clear hi)))
      repeat (go_quiet (first | (go_at_call 12; (with_reducible refine (ashlarlaw02_shown.calls k  true _ A2.out).mono ?_); rintro e w7 ⟨rfl, hb⟩; have n0_ := Aside0.mk (below_step (by repeat (first | (with_reducible first | exact HB.out | apply below_alloc | apply pw_below_drewN | apply below_drew1) | exact HB.out)) hb); clear HB; have HB := n0_; clear n0_; (try clear hb); (try clear hb2); (try clear hk); (try clear hi)) | (go_at_call 13; (with_reducible refine (ashlarlaw02_floats.calls k _ _ l0 t204 _ ?side1 ?side2 A3.out).mono ?_); (case side1 => repeat (first | exact (Kd.C_below HR0.out HB.out) | (with_reducible refine Kd.C_alloc ?_ _) | (with_reducible refine Kd.C_drewN ?_ _) | (with_reducible refine Kd.C_drew ?_))); (case side2 => exact HC0.out); rintro e w8 ⟨v205, rfl, ho0, hb⟩; have n0_ := Aside0.mk (Kd.R_lower ho0 (below_size (by repeat (first | (with_reducible first | exact HB.out | apply below_alloc | apply pw_below_drewN | apply below_drew1) | exact HB.out)))); have n1_ := Aside0.mk (below_step (by repeat (first | (with_reducible first | exact HB.out | apply below_alloc | apply pw_below_drewN | apply below_drew1) | exact HB.out)) hb); clear HB; have HO206 := n0_; have HB := n1_; clear n0_ n1_; (try clear hb); (try clear hb2); (try clear hk); (try clear hi); (try clear ho0); obtain ⟨Ao9, co9, eo9⟩ := Kd.R_slice HO206.out; subst eo9) | (go_at_call 16; (with_reducible refine (weigh_Heavy.calls _ _ t204 t207 _ ?side1 ?side2 A4.out).mono ?_); (case side1 => repeat (first | exact (Kd.R_reads' HO206.out).2.2 | (with_reducible refine Kd.C_alloc ?_ _) | (with_reducible refine Kd.C_drewN ?_ _) | (with_reducible refine Kd.C_drew ?_))); (case side2 => exact (Kd.R_reads' HO206.out).2.1); rintro e w10 ⟨rfl, hb⟩; have n0_ := Aside0.mk (Kd.R_below (by (with_reducible repeat (first | apply Kd.R_alloc | apply Kd.R_drewN | apply Kd.R_drew)); exact HO206.out) hb); have n1_ := Aside0.mk (below_step (by repeat (first | (with_reducible first | exact HB.out | apply below_alloc | apply pw_below_drewN | apply below_drew1) | exact HB.out)) hb); clear HO206; clear HB; have HO206 := n0_; have HB := n1_; clear n0_ n1_; (try clear hb); (try clear hb2); (try clear hk); (try clear hi))); try go_wp2_with (first | (go_at_call 12; (with_reducible refine (ashlarlaw02_shown.calls k  true _ A2.out).mono ?_); rintro e w7 ⟨rfl, hb⟩; have n0_ := Aside0.mk (below_step (by repeat (first | (with_reducible first | exact HB.out | apply below_alloc | apply pw_below_drewN | apply below_drew1) | exact HB.out)) hb); clear HB; have HB := n0_; clear n0_; (try clear hb); (try clear hb2); (try clear hk); (try clear hi)) | (go_at_call 13; (with_reducible refine (ashlarlaw02_floats.calls k _ _ l0 t204 _ ?side1 ?side2 A3.out).mono ?_); (case side1 => repeat (first | exact (Kd.C_below HR0.out HB.out) | (with_reducible refine Kd.C_alloc ?_ _) | (with_reducible refine Kd.C_drewN ?_ _) | (with_reducible refine Kd.C_drew ?_))); (case side2 => exact HC0.out); rintro e w8 ⟨v205, rfl, ho0, hb⟩; have n0_ := Aside0.mk (Kd.R_lower ho0 (below_size (by repeat (first | (with_reducible first | exact HB.out | apply below_alloc | apply pw_below_drewN | apply below_drew1) | exact HB.out)))); have n1_ := Aside0.mk (below_step (by repeat (first | (with_reducible first | exact HB.out | apply below_alloc | apply pw_below_drewN | apply below_drew1) | exact HB.out)) hb); clear HB; have HO206 := n0_; have HB := n1_; clear n0_ n1_; (try clear hb); (try clear hb2); (try clear hk); (try clear hi); (try clear ho0); obtain ⟨Ao9, co9, eo9⟩ := Kd.R_slice HO206.out; subst eo9) | (go_at_call 16; (with_reducible refine (weigh_Heavy.calls _ _ t204 t207 _ ?side1 ?side2 A4.out).mono ?_); (case side1 => repeat (first | exact (Kd.R_reads' HO206.out).2.2 | (with_reducible refine Kd.C_alloc ?_ _) | (with_reducible refine Kd.C_drewN ?_ _) | (with_reducible refine Kd.C_drew ?_))); (case side2 => exact (Kd.R_reads' HO206.out).2.1); rintro e w10 ⟨rfl, hb⟩; have n0_ := Aside0.mk (Kd.R_below (by (with_reducible repeat (first | apply Kd.R_alloc | apply Kd.R_drewN | apply Kd.R_drew)); exact HO206.out) hb); have n1_ := Aside0.mk (below_step (by repeat (first | (with_reducible first | exact HB.out | apply below_alloc | apply pw_below_drewN | apply below_drew1) | exact HB.out)) hb); clear HO206; clear HB; have HO206 := n0_; have HB := n1_; clear n0_ n1_; (try clear hb); (try clear hb2); (try clear hk); (try clear hi))))
      go_ret
      exact ⟨by first | rfl | (simp [errW_none, errW_some] <;> rfl) | (simp [*, errW_none, errW_some] <;> rfl), by repeat (first | (with_reducible first | exact HB.out | apply below_alloc | apply pw_below_drewN | apply below_drew1) | exact HB.out)⟩
    · replace c6 := Bool.eq_false_iff.mpr c6
      subst c6
      have H1 : (some false) = some r := by rw [if_neg (show ¬ (false = true) by decide)] at H; exact H
      clear H
      have H := H1
      clear H1
      obtain rfl := Option.some.inj H
      go_enter Try.func5, Try.ntmps5
      go_wp2_with (first | (go_at_call 12; (with_reducible refine (ashlarlaw02_shown.calls k  false _ A2.out).mono ?_); rintro e w11 ⟨rfl, hb⟩; have n0_ := Aside0.mk (below_step (by repeat (first | (with_reducible first | exact HB.out | apply below_alloc | apply pw_below_drewN | apply below_drew1) | exact HB.out)) hb); clear HB; have HB := n0_; clear n0_; (try clear hb); (try clear hb2); (try clear hk); (try clear hi)) | (go_at_call 13; (with_reducible refine (ashlarlaw02_floats.calls k _ _ l0 t204 _ ?side1 ?side2 A3.out).mono ?_); (case side1 => repeat (first | exact (Kd.C_below HR0.out HB.out) | (with_reducible refine Kd.C_alloc ?_ _) | (with_reducible refine Kd.C_drewN ?_ _) | (with_reducible refine Kd.C_drew ?_))); (case side2 => exact HC0.out); rintro e w12 ⟨v205, rfl, ho0, hb⟩; have n0_ := Aside0.mk (Kd.R_lower ho0 (below_size (by repeat (first | (with_reducible first | exact HB.out | apply below_alloc | apply pw_below_drewN | apply below_drew1) | exact HB.out)))); have n1_ := Aside0.mk (below_step (by repeat (first | (with_reducible first | exact HB.out | apply below_alloc | apply pw_below_drewN | apply below_drew1) | exact HB.out)) hb); clear HB; have HO206 := n0_; have HB := n1_; clear n0_ n1_; (try clear hb); (try clear hb2); (try clear hk); (try clear hi); (try clear ho0); obtain ⟨Ao13, co13, eo13⟩ := Kd.R_slice HO206.out; subst eo13) | (go_at_call 16; (with_reducible refine (weigh_Heavy.calls _ _ t204 t207 _ ?side1 ?side2 A4.out).mono ?_); (case side1 => repeat (first | exact (Kd.R_reads' HO206.out).2.2 | (with_reducible refine Kd.C_alloc ?_ _) | (with_reducible refine Kd.C_drewN ?_ _) | (with_reducible refine Kd.C_drew ?_))); (case side2 => exact (Kd.R_reads' HO206.out).2.1); rintro e w14 ⟨rfl, hb⟩; have n0_ := Aside0.mk (Kd.R_below (by (with_reducible repeat (first | apply Kd.R_alloc | apply Kd.R_drewN | apply Kd.R_drew)); exact HO206.out) hb); have n1_ := Aside0.mk (below_step (by repeat (first | (with_reducible first | exact HB.out | apply below_alloc | apply pw_below_drewN | apply below_drew1) | exact HB.out)) hb); clear HO206; clear HB; have HO206 := n0_; have HB := n1_; clear n0_ n1_; (try clear hb); (try clear hb2); (try clear hk); (try clear hi)))
      repeat (go_quiet (first | (go_at_call 12; (with_reducible refine (ashlarlaw02_shown.calls k  false _ A2.out).mono ?_); rintro e w11 ⟨rfl, hb⟩; have n0_ := Aside0.mk (below_step (by repeat (first | (with_reducible first | exact HB.out | apply below_alloc | apply pw_below_drewN | apply below_drew1) | exact HB.out)) hb); clear HB; have HB := n0_; clear n0_; (try clear hb); (try clear hb2); (try clear hk); (try clear hi)) | (go_at_call 13; (with_reducible refine (ashlarlaw02_floats.calls k _ _ l0 t204 _ ?side1 ?side2 A3.out).mono ?_); (case side1 => repeat (first | exact (Kd.C_below HR0.out HB.out) | (with_reducible refine Kd.C_alloc ?_ _) | (with_reducible refine Kd.C_drewN ?_ _) | (with_reducible refine Kd.C_drew ?_))); (case side2 => exact HC0.out); rintro e w12 ⟨v205, rfl, ho0, hb⟩; have n0_ := Aside0.mk (Kd.R_lower ho0 (below_size (by repeat (first | (with_reducible first | exact HB.out | apply below_alloc | apply pw_below_drewN | apply below_drew1) | exact HB.out)))); have n1_ := Aside0.mk (below_step (by repeat (first | (with_reducible first | exact HB.out | apply below_alloc | apply pw_below_drewN | apply below_drew1) | exact HB.out)) hb); clear HB; have HO206 := n0_; have HB := n1_; clear n0_ n1_; (try clear hb); (try clear hb2); (try clear hk); (try clear hi); (try clear ho0); obtain ⟨Ao13, co13, eo13⟩ := Kd.R_slice HO206.out; subst eo13) | (go_at_call 16; (with_reducible refine (weigh_Heavy.calls _ _ t204 t207 _ ?side1 ?side2 A4.out).mono ?_); (case side1 => repeat (first | exact (Kd.R_reads' HO206.out).2.2 | (with_reducible refine Kd.C_alloc ?_ _) | (with_reducible refine Kd.C_drewN ?_ _) | (with_reducible refine Kd.C_drew ?_))); (case side2 => exact (Kd.R_reads' HO206.out).2.1); rintro e w14 ⟨rfl, hb⟩; have n0_ := Aside0.mk (Kd.R_below (by (with_reducible repeat (first | apply Kd.R_alloc | apply Kd.R_drewN | apply Kd.R_drew)); exact HO206.out) hb); have n1_ := Aside0.mk (below_step (by repeat (first | (with_reducible first | exact HB.out | apply below_alloc | apply pw_below_drewN | apply below_drew1) | exact HB.out)) hb); clear HO206; clear HB; have HO206 := n0_; have HB := n1_; clear n0_ n1_; (try clear hb); (try clear hb2); (try clear hk); (try clear hi))); try go_wp2_with (first | (go_at_call 12; (with_reducible refine (ashlarlaw02_shown.calls k  false _ A2.out).mono ?_); rintro e w11 ⟨rfl, hb⟩; have n0_ := Aside0.mk (below_step (by repeat (first | (with_reducible first | exact HB.out | apply below_alloc | apply pw_below_drewN | apply below_drew1) | exact HB.out)) hb); clear HB; have HB := n0_; clear n0_; (try clear hb); (try clear hb2); (try clear hk); (try clear hi)) | (go_at_call 13; (with_reducible refine (ashlarlaw02_floats.calls k _ _ l0 t204 _ ?side1 ?side2 A3.out).mono ?_); (case side1 => repeat (first | exact (Kd.C_below HR0.out HB.out) | (with_reducible refine Kd.C_alloc ?_ _) | (with_reducible refine Kd.C_drewN ?_ _) | (with_reducible refine Kd.C_drew ?_))); (case side2 => exact HC0.out); rintro e w12 ⟨v205, rfl, ho0, hb⟩; have n0_ := Aside0.mk (Kd.R_lower ho0 (below_size (by repeat (first | (with_reducible first | exact HB.out | apply below_alloc | apply pw_below_drewN | apply below_drew1) | exact HB.out)))); have n1_ := Aside0.mk (below_step (by repeat (first | (with_reducible first | exact HB.out | apply below_alloc | apply pw_below_drewN | apply below_drew1) | exact HB.out)) hb); clear HB; have HO206 := n0_; have HB := n1_; clear n0_ n1_; (try clear hb); (try clear hb2); (try clear hk); (try clear hi); (try clear ho0); obtain ⟨Ao13, co13, eo13⟩ := Kd.R_slice HO206.out; subst eo13) | (go_at_call 16; (with_reducible refine (weigh_Heavy.calls _ _ t204 t207 _ ?side1 ?side2 A4.out).mono ?_); (case side1 => repeat (first | exact (Kd.R_reads' HO206.out).2.2 | (with_reducible refine Kd.C_alloc ?_ _) | (with_reducible refine Kd.C_drewN ?_ _) | (with_reducible refine Kd.C_drew ?_))); (case side2 => exact (Kd.R_reads' HO206.out).2.1); rintro e w14 ⟨rfl, hb⟩; have n0_ := Aside0.mk (Kd.R_below (by (with_reducible repeat (first | apply Kd.R_alloc | apply Kd.R_drewN | apply Kd.R_drew)); exact HO206.out) hb); have n1_ := Aside0.mk (below_step (by repeat (first | (with_reducible first | exact HB.out | apply below_alloc | apply pw_below_drewN | apply below_drew1) | exact HB.out)) hb); clear HO206; clear HB; have HO206 := n0_; have HB := n1_; clear n0_ n1_; (try clear hb); (try clear hb2); (try clear hk); (try clear hi))))
      go_ret
      exact ⟨by first | rfl | (simp [errW_none, errW_some] <;> rfl) | (simp [*, errW_none, errW_some] <;> rfl), by repeat (first | (with_reducible first | exact HB.out | apply below_alloc | apply pw_below_drewN | apply below_drew1) | exact HB.out)⟩
  · rw [if_neg c5] at H
    have c5b0 : ((t204.length : Int) == 0) = false := beq_eq_false_iff_ne.mpr c5
    have c5b1 : ((t204.length : Int) != 0) = true := bne_iff_ne.mpr c5
    have c5b2 : ¬ (t204 = []) := fun h_ => c5 (by rw [h_]; rfl)
    have HC15 := Aside0.mk H
    clear H
    go_enter Try.func5, Try.ntmps5
    go_upto_region 6 with (first | (go_at_call 12; (with_reducible refine (ashlarlaw02_shown.calls k  t203 _ A2.out).mono ?_); rintro e w16 ⟨rfl, hb⟩; have n0_ := Aside0.mk (below_step (by repeat (first | (with_reducible first | exact HB.out | apply below_alloc | apply pw_below_drewN | apply below_drew1) | exact HB.out)) hb); clear HB; have HB := n0_; clear n0_; (try clear hb); (try clear hb2); (try clear hk); (try clear hi)) | (go_at_call 13; (with_reducible refine (ashlarlaw02_floats.calls k _ _ l0 t204 _ ?side1 ?side2 A3.out).mono ?_); (case side1 => repeat (first | exact (Kd.C_below HR0.out HB.out) | (with_reducible refine Kd.C_alloc ?_ _) | (with_reducible refine Kd.C_drewN ?_ _) | (with_reducible refine Kd.C_drew ?_))); (case side2 => exact HC0.out); rintro e w17 ⟨v205, rfl, ho0, hb⟩; have n0_ := Aside0.mk (Kd.R_lower ho0 (below_size (by repeat (first | (with_reducible first | exact HB.out | apply below_alloc | apply pw_below_drewN | apply below_drew1) | exact HB.out)))); have n1_ := Aside0.mk (below_step (by repeat (first | (with_reducible first | exact HB.out | apply below_alloc | apply pw_below_drewN | apply below_drew1) | exact HB.out)) hb); clear HB; have HO206 := n0_; have HB := n1_; clear n0_ n1_; (try clear hb); (try clear hb2); (try clear hk); (try clear hi); (try clear ho0); obtain ⟨Ao18, co18, eo18⟩ := Kd.R_slice HO206.out; subst eo18) | (go_at_call 16; (with_reducible refine (weigh_Heavy.calls _ _ t204 t207 _ ?side1 ?side2 A4.out).mono ?_); (case side1 => repeat (first | exact (Kd.R_reads' HO206.out).2.2 | (with_reducible refine Kd.C_alloc ?_ _) | (with_reducible refine Kd.C_drewN ?_ _) | (with_reducible refine Kd.C_drew ?_))); (case side2 => exact (Kd.R_reads' HO206.out).2.1); rintro e w19 ⟨rfl, hb⟩; have n0_ := Aside0.mk (Kd.R_below (by (with_reducible repeat (first | apply Kd.R_alloc | apply Kd.R_drewN | apply Kd.R_drew)); exact HO206.out) hb); have n1_ := Aside0.mk (below_step (by repeat (first | (with_reducible first | exact HB.out | apply below_alloc | apply pw_below_drewN | apply below_drew1) | exact HB.out)) hb); clear HO206; clear HB; have HO206 := n0_; have HB := n1_; clear n0_ n1_; (try clear hb); (try clear hb2); (try clear hk); (try clear hi)))
    repeat (go_quiet (first | (go_at_call 12; (with_reducible refine (ashlarlaw02_shown.calls k  t203 _ A2.out).mono ?_); rintro e w16 ⟨rfl, hb⟩; have n0_ := Aside0.mk (below_step (by repeat (first | (with_reducible first | exact HB.out | apply below_alloc | apply pw_below_drewN | apply below_drew1) | exact HB.out)) hb); clear HB; have HB := n0_; clear n0_; (try clear hb); (try clear hb2); (try clear hk); (try clear hi)) | (go_at_call 13; (with_reducible refine (ashlarlaw02_floats.calls k _ _ l0 t204 _ ?side1 ?side2 A3.out).mono ?_); (case side1 => repeat (first | exact (Kd.C_below HR0.out HB.out) | (with_reducible refine Kd.C_alloc ?_ _) | (with_reducible refine Kd.C_drewN ?_ _) | (with_reducible refine Kd.C_drew ?_))); (case side2 => exact HC0.out); rintro e w17 ⟨v205, rfl, ho0, hb⟩; have n0_ := Aside0.mk (Kd.R_lower ho0 (below_size (by repeat (first | (with_reducible first | exact HB.out | apply below_alloc | apply pw_below_drewN | apply below_drew1) | exact HB.out)))); have n1_ := Aside0.mk (below_step (by repeat (first | (with_reducible first | exact HB.out | apply below_alloc | apply pw_below_drewN | apply below_drew1) | exact HB.out)) hb); clear HB; have HO206 := n0_; have HB := n1_; clear n0_ n1_; (try clear hb); (try clear hb2); (try clear hk); (try clear hi); (try clear ho0); obtain ⟨Ao18, co18, eo18⟩ := Kd.R_slice HO206.out; subst eo18) | (go_at_call 16; (with_reducible refine (weigh_Heavy.calls _ _ t204 t207 _ ?side1 ?side2 A4.out).mono ?_); (case side1 => repeat (first | exact (Kd.R_reads' HO206.out).2.2 | (with_reducible refine Kd.C_alloc ?_ _) | (with_reducible refine Kd.C_drewN ?_ _) | (with_reducible refine Kd.C_drew ?_))); (case side2 => exact (Kd.R_reads' HO206.out).2.1); rintro e w19 ⟨rfl, hb⟩; have n0_ := Aside0.mk (Kd.R_below (by (with_reducible repeat (first | apply Kd.R_alloc | apply Kd.R_drewN | apply Kd.R_drew)); exact HO206.out) hb); have n1_ := Aside0.mk (below_step (by repeat (first | (with_reducible first | exact HB.out | apply below_alloc | apply pw_below_drewN | apply below_drew1) | exact HB.out)) hb); clear HO206; clear HB; have HO206 := n0_; have HB := n1_; clear n0_ n1_; (try clear hb); (try clear hb2); (try clear hk); (try clear hi))); go_upto_region 6 with (first | (go_at_call 12; (with_reducible refine (ashlarlaw02_shown.calls k  t203 _ A2.out).mono ?_); rintro e w16 ⟨rfl, hb⟩; have n0_ := Aside0.mk (below_step (by repeat (first | (with_reducible first | exact HB.out | apply below_alloc | apply pw_below_drewN | apply below_drew1) | exact HB.out)) hb); clear HB; have HB := n0_; clear n0_; (try clear hb); (try clear hb2); (try clear hk); (try clear hi)) | (go_at_call 13; (with_reducible refine (ashlarlaw02_floats.calls k _ _ l0 t204 _ ?side1 ?side2 A3.out).mono ?_); (case side1 => repeat (first | exact (Kd.C_below HR0.out HB.out) | (with_reducible refine Kd.C_alloc ?_ _) | (with_reducible refine Kd.C_drewN ?_ _) | (with_reducible refine Kd.C_drew ?_))); (case side2 => exact HC0.out); rintro e w17 ⟨v205, rfl, ho0, hb⟩; have n0_ := Aside0.mk (Kd.R_lower ho0 (below_size (by repeat (first | (with_reducible first | exact HB.out | apply below_alloc | apply pw_below_drewN | apply below_drew1) | exact HB.out)))); have n1_ := Aside0.mk (below_step (by repeat (first | (with_reducible first | exact HB.out | apply below_alloc | apply pw_below_drewN | apply below_drew1) | exact HB.out)) hb); clear HB; have HO206 := n0_; have HB := n1_; clear n0_ n1_; (try clear hb); (try clear hb2); (try clear hk); (try clear hi); (try clear ho0); obtain ⟨Ao18, co18, eo18⟩ := Kd.R_slice HO206.out; subst eo18) | (go_at_call 16; (with_reducible refine (weigh_Heavy.calls _ _ t204 t207 _ ?side1 ?side2 A4.out).mono ?_); (case side1 => repeat (first | exact (Kd.R_reads' HO206.out).2.2 | (with_reducible refine Kd.C_alloc ?_ _) | (with_reducible refine Kd.C_drewN ?_ _) | (with_reducible refine Kd.C_drew ?_))); (case side2 => exact (Kd.R_reads' HO206.out).2.1); rintro e w19 ⟨rfl, hb⟩; have n0_ := Aside0.mk (Kd.R_below (by (with_reducible repeat (first | apply Kd.R_alloc | apply Kd.R_drewN | apply Kd.R_drew)); exact HO206.out) hb); have n1_ := Aside0.mk (below_step (by repeat (first | (with_reducible first | exact HB.out | apply below_alloc | apply pw_below_drewN | apply below_drew1) | exact HB.out)) hb); clear HO206; clear HB; have HO206 := n0_; have HB := n1_; clear n0_ n1_; (try clear hb); (try clear hb2); (try clear hk); (try clear hi))))
    (try simp only [Act.put, List.setIfInBounds_toArray, List.set_cons_zero, List.set_cons_succ])
    go_cut [30] (fun v30 wc => ∃ (kq : Nat) (x30_14 : Bool), v30 = .bool x30_14 ∧ Aside0 (ashlarlaw02_WeighHeavy.j0 kq t203 t204 t207 x30_14 = some r) ∧ Aside0 (kq ≤ k) ∧ Aside0 (Kd.R Kd.f64 30 wc w.heap.size (fun _ => True) (.slice Ao18 t204.length co18) t204) ∧ Aside0 (Below w.heap.size w wc))
    case first =>
      have H := HC15.out
      clear HC15
      by_cases c20 : t207 < 0
      · rw [if_pos c20] at H
        have c20b0 : decide (t207 < 0) = true := decide_eq_true c20
        clear c20
        (first | rw [c20b0] | (simp only [i64_w, i32_w]; rw [c20b0]) | skip)
        have H' := Aside0.mk H
        clear H
        go_wp2
        repeat (go_quiet (fail); try go_wp2)
        go_meet
        case rel => exact ⟨_, (true), (by first | rfl | (simp; done) | (simp [*]; done)), H', ⟨by first | omega | exact Nat.le_refl _⟩, ⟨by (with_reducible repeat (first | apply Kd.R_alloc | apply Kd.R_drewN | apply Kd.R_drew)); exact HO206.out⟩, ⟨by repeat (first | (with_reducible first | exact HB.out | apply below_alloc | apply pw_below_drewN | apply below_drew1) | exact HB.out)⟩⟩
      · rw [if_neg c20] at H
        have c20b0 : decide (t207 < 0) = false := decide_eq_false c20
        clear c20
        (first | rw [c20b0] | (simp only [i64_w, i32_w]; rw [c20b0]) | skip)
        have H' := Aside0.mk H
        clear H
        go_wp2
        repeat (go_quiet (fail); try go_wp2)
        go_meet
        case rel => exact ⟨_, (decide (t207 ≥ (t204.length : Int))), (by first | rfl | (simp; done) | (simp [*]; done)), H', ⟨by first | omega | exact Nat.le_refl _⟩, ⟨by (with_reducible repeat (first | apply Kd.R_alloc | apply Kd.R_drewN | apply Kd.R_drew)); exact HO206.out⟩, ⟨by repeat (first | (with_reducible first | exact HB.out | apply below_alloc | apply pw_below_drewN | apply below_drew1) | exact HB.out)⟩⟩
    case rest =>
      clear HC15
      try clear c2
      try clear p2
      try clear c5
      try clear c5b0
      try clear c5b1
      try clear c5b2
      try clear c6
      try clear c20
      try clear c20b0
      obtain ⟨kq, x30_14, rfl, HA, HJ14, HO_4, HB⟩ := hcut
      cases kq with
      | zero => exact absurd HA.out (by simp [ashlarlaw02_WeighHeavy.j0])
      | succ kj14 =>
        have H := HA.out
        clear HA
        simp only [ashlarlaw02_WeighHeavy.j0] at H
        by_cases c21 : x30_14 = true
        · subst c21
          have H1 : (some false) = some r := by rw [if_pos rfl] at H; exact H
          clear H
          have H := H1
          clear H1
          obtain rfl := Option.some.inj H
          go_wp2
          repeat (go_quiet (fail); try go_wp2)
          go_ret
          exact ⟨by first | rfl | (simp [errW_none, errW_some] <;> rfl) | (simp [*, errW_none, errW_some] <;> rfl), by repeat (first | (with_reducible first | exact HB.out | apply below_alloc | apply pw_below_drewN | apply below_drew1) | exact HB.out)⟩
        · replace c21 := Bool.eq_false_iff.mpr c21
          subst c21
          have H1 : (ashlarlaw02_WeighHeavy.l0 kj14 t203 t204 t207 0) = some r := by rw [if_neg (show ¬ (false = true) by decide)] at H; exact H
          clear H
          have H := H1
          clear H1
          have H' := Aside0.mk H
          clear H
          go_wp2
          repeat (go_quiet (fail); try go_wp2)
          go_loopg [6] kj14 (fun kq v6 w' => ∃ (x6_2 : Int), v6 = .int .i64 x6_2 ∧ Aside0 (ashlarlaw02_WeighHeavy.l0 kq t203 t204 t207 x6_2 = some r) ∧ Aside0 (kq ≤ kj14) ∧ Aside0 (Kd.R Kd.f64 30 w' w.heap.size (fun _ => True) (.slice Ao18 t204.length co18) t204) ∧ Aside0 (Below w.heap.size w w'))
          case atStart => exact ⟨(0), (by first | rfl | (simp; done) | (simp [*]; done)), H', ⟨Nat.le_refl _⟩, ⟨by (with_reducible repeat (first | apply Kd.R_alloc | apply Kd.R_drewN | apply Kd.R_drew)); exact HO_4.out⟩, ⟨by repeat (first | (with_reducible first | exact HB.out | apply below_alloc | apply pw_below_drewN | apply below_drew1) | exact HB.out)⟩⟩
          case round =>
            clear H'
            try clear c2
            try clear p2
            try clear c5
            try clear c5b0
            try clear c5b1
            try clear c5b2
            try clear c6
            try clear c20
            try clear c20b0
            try clear c21
            try clear p2
            obtain ⟨x6_2, rfl, HA, HK2, HO_4, HB⟩ := hrel
            cases gk with
            | zero => exact absurd HA.out (by simp [ashlarlaw02_WeighHeavy.l0])
            | succ k2 =>
              have H := HA.out
              clear HA
              simp only [ashlarlaw02_WeighHeavy.l0] at H
              by_cases c22 : x6_2 < (t204.length : Int)
              · rw [if_pos c22] at H
                have c22b0 : decide (x6_2 < (t204.length : Int)) = true := decide_eq_true c22
                clear c22
                by_cases c23 : 0 ≤ t207
                · rw [if_pos c23] at H
                  have c23b0 : decide (0 ≤ t207) = true := decide_eq_true c23
                  clear c23
                  by_cases c24 : t207 < (t204.length : Int)
                  · rw [if_pos c24] at H
                    have c24b0 : decide (t207 < (t204.length : Int)) = true := decide_eq_true c24
                    clear c24
                    by_cases c25 : 0 ≤ x6_2
                    · rw [if_pos c25] at H
                      have c25b0 : decide (0 ≤ x6_2) = true := decide_eq_true c25
                      clear c25
                      replace H := Option.bind_eq_some_iff.mp H
                      obtain ⟨t218, A260, H⟩ := H
                      replace H : (if t218 = true then (some false) else (if x6_2 < t207 then ((weigh_Less.f k2 (rdOf (0 : Nat) t204 x6_2) (rdOf (0 : Nat) t204 t207)).bind fun t221 => (if t221 = true then (ashlarlaw02_WeighHeavy.l0 k2 t203 t204 t207 (wrap64 (x6_2 + 1))) else (some false))) else (ashlarlaw02_WeighHeavy.l0 k2 t203 t204 t207 (wrap64 (x6_2 + 1))))) = some r := H
                      have A26 := Aside0.mk A260
                      clear A260
                      by_cases c27 : t218 = true
                      · subst c27
                        have H1 : (some false) = some r := by rw [if_pos rfl] at H; exact H
                        clear H
                        have H := H1
                        clear H1
                        obtain rfl := Option.some.inj H
                        have p216 : 0 ≤ (t207 : Int) := of_decide_eq_true (by first | (with_reducible assumption) | assumption)
                        have q216 : t207 < (t204.length : Int) := of_decide_eq_true (by first | (with_reducible assumption) | assumption)
                        obtain ⟨ad216, e216, hx216_0⟩ := Kd.at_f64 (Kd.R_reads' HO_4.out).2.2 t207 p216 q216
                        cases e216
                        replace p216 := eq_true p216
                        replace q216 := eq_true q216
                        have p217 : 0 ≤ (x6_2 : Int) := of_decide_eq_true (by first | (with_reducible assumption) | assumption)
                        have q217 : x6_2 < (t204.length : Int) := of_decide_eq_true (by first | (with_reducible assumption) | assumption)
                        obtain ⟨ad217, e217, hx217_0⟩ := Kd.at_f64 (Kd.R_reads' HO_4.out).2.2 x6_2 p217 q217
                        obtain rfl : ad216 = ad217 := (by injection e217)
                        replace p217 := eq_true p217
                        replace q217 := eq_true q217
                        go_wp2_with (first | (go_at_call 21; (with_reducible refine (weigh_Less.calls k2 (rdOf (0 : Nat) t204 t207) (rdOf (0 : Nat) t204 x6_2) true _ A26.out).mono ?_); rintro e w' ⟨rfl, ⟨nd, rfl⟩⟩; (try first | exact ⟨rfl, _, World.drewN_drewN _ _ _⟩ | exact ⟨rfl, _, Eq.trans (World.drewN_drewN _ _ _) (congrArg (World.drewN _) (Nat.add_assoc _ _ _))⟩)))
                        repeat (go_quiet (first | (go_at_call 21; (with_reducible refine (weigh_Less.calls k2 (rdOf (0 : Nat) t204 t207) (rdOf (0 : Nat) t204 x6_2) true _ A26.out).mono ?_); rintro e w' ⟨rfl, ⟨nd, rfl⟩⟩; (try first | exact ⟨rfl, _, World.drewN_drewN _ _ _⟩ | exact ⟨rfl, _, Eq.trans (World.drewN_drewN _ _ _) (congrArg (World.drewN _) (Nat.add_assoc _ _ _))⟩))); try go_wp2_with (first | (go_at_call 21; (with_reducible refine (weigh_Less.calls k2 (rdOf (0 : Nat) t204 t207) (rdOf (0 : Nat) t204 x6_2) true _ A26.out).mono ?_); rintro e w' ⟨rfl, ⟨nd, rfl⟩⟩; (try first | exact ⟨rfl, _, World.drewN_drewN _ _ _⟩ | exact ⟨rfl, _, Eq.trans (World.drewN_drewN _ _ _) (congrArg (World.drewN _) (Nat.add_assoc _ _ _))⟩))))
                        go_ret
                        exact ⟨by first | rfl | (simp [errW_none, errW_some] <;> rfl) | (simp [*, errW_none, errW_some] <;> rfl), by repeat (first | (with_reducible first | exact HB.out | apply below_alloc | apply pw_below_drewN | apply below_drew1) | exact HB.out)⟩
                      · replace c27 := Bool.eq_false_iff.mpr c27
                        subst c27
                        have H1 : (if x6_2 < t207 then ((weigh_Less.f k2 (rdOf (0 : Nat) t204 x6_2) (rdOf (0 : Nat) t204 t207)).bind fun t221 => (if t221 = true then (ashlarlaw02_WeighHeavy.l0 k2 t203 t204 t207 (wrap64 (x6_2 + 1))) else (some false))) else (ashlarlaw02_WeighHeavy.l0 k2 t203 t204 t207 (wrap64 (x6_2 + 1)))) = some r := by rw [if_neg (show ¬ (false = true) by decide)] at H; exact H
                        clear H
                        have H := H1
                        clear H1
                        by_cases c28 : x6_2 < t207
                        · rw [if_pos c28] at H
                          have c28b0 : decide (x6_2 < t207) = true := decide_eq_true c28
                          clear c28
                          replace H := Option.bind_eq_some_iff.mp H
                          obtain ⟨t221, A290, H⟩ := H
                          replace H : (if t221 = true then (ashlarlaw02_WeighHeavy.l0 k2 t203 t204 t207 (wrap64 (x6_2 + 1))) else (some false)) = some r := H
                          have A29 := Aside0.mk A290
                          clear A290
                          by_cases c30 : t221 = true
                          · subst c30
                            have H1 : (ashlarlaw02_WeighHeavy.l0 k2 t203 t204 t207 (wrap64 (x6_2 + 1))) = some r := by rw [if_pos rfl] at H; exact H
                            clear H
                            have H := H1
                            clear H1
                            have H' := Aside0.mk H
                            clear H
                            have p216 : 0 ≤ (t207 : Int) := of_decide_eq_true (by first | (with_reducible assumption) | assumption)
                            have q216 : t207 < (t204.length : Int) := of_decide_eq_true (by first | (with_reducible assumption) | assumption)
                            obtain ⟨ad216, e216, hx216_0⟩ := Kd.at_f64 (Kd.R_reads' HO_4.out).2.2 t207 p216 q216
                            cases e216
                            replace p216 := eq_true p216
                            replace q216 := eq_true q216
                            have p217 : 0 ≤ (x6_2 : Int) := of_decide_eq_true (by first | (with_reducible assumption) | assumption)
                            have q217 : x6_2 < (t204.length : Int) := of_decide_eq_true (by first | (with_reducible assumption) | assumption)
                            obtain ⟨ad217, e217, hx217_0⟩ := Kd.at_f64 (Kd.R_reads' HO_4.out).2.2 x6_2 p217 q217
                            obtain rfl : ad216 = ad217 := (by injection e217)
                            replace p217 := eq_true p217
                            replace q217 := eq_true q217
                            go_wp2_with (first | (go_at_call 21; (with_reducible refine (weigh_Less.calls k2 (rdOf (0 : Nat) t204 t207) (rdOf (0 : Nat) t204 x6_2) false _ A26.out).mono ?_); rintro e w' ⟨rfl, ⟨nd, rfl⟩⟩; (try first | exact ⟨rfl, _, World.drewN_drewN _ _ _⟩ | exact ⟨rfl, _, Eq.trans (World.drewN_drewN _ _ _) (congrArg (World.drewN _) (Nat.add_assoc _ _ _))⟩); have p219 : 0 ≤ (x6_2 : Int) := of_decide_eq_true (by first | (with_reducible assumption) | assumption); have q219 : x6_2 < (t204.length : Int) := of_decide_eq_true (by first | (with_reducible assumption) | assumption); obtain ⟨ad219, e219, hx219_0⟩ := Kd.at_f64 (Kd.R_reads' HO_4.out).2.2 x6_2 p219 q219; obtain rfl : ad216 = ad219 := (by injection e219); replace p219 := eq_true p219; replace q219 := eq_true q219; have p220 : 0 ≤ (t207 : Int) := of_decide_eq_true (by first | (with_reducible assumption) | assumption); have q220 : t207 < (t204.length : Int) := of_decide_eq_true (by first | (with_reducible assumption) | assumption); obtain ⟨ad220, e220, hx220_0⟩ := Kd.at_f64 (Kd.R_reads' HO_4.out).2.2 t207 p220 q220; obtain rfl : ad216 = ad220 := (by injection e220); replace p220 := eq_true p220; replace q220 := eq_true q220) | (go_at_call 21; (with_reducible refine (weigh_Less.calls k2 (rdOf (0 : Nat) t204 x6_2) (rdOf (0 : Nat) t204 t207) true _ A29.out).mono ?_); rintro e w' ⟨rfl, ⟨nd, rfl⟩⟩; (try first | exact ⟨rfl, _, World.drewN_drewN _ _ _⟩ | exact ⟨rfl, _, Eq.trans (World.drewN_drewN _ _ _) (congrArg (World.drewN _) (Nat.add_assoc _ _ _))⟩)))
                            repeat (go_quiet (first | (go_at_call 21; (with_reducible refine (weigh_Less.calls k2 (rdOf (0 : Nat) t204 t207) (rdOf (0 : Nat) t204 x6_2) false _ A26.out).mono ?_); rintro e w' ⟨rfl, ⟨nd, rfl⟩⟩; (try first | exact ⟨rfl, _, World.drewN_drewN _ _ _⟩ | exact ⟨rfl, _, Eq.trans (World.drewN_drewN _ _ _) (congrArg (World.drewN _) (Nat.add_assoc _ _ _))⟩); have p219 : 0 ≤ (x6_2 : Int) := of_decide_eq_true (by first | (with_reducible assumption) | assumption); have q219 : x6_2 < (t204.length : Int) := of_decide_eq_true (by first | (with_reducible assumption) | assumption); obtain ⟨ad219, e219, hx219_0⟩ := Kd.at_f64 (Kd.R_reads' HO_4.out).2.2 x6_2 p219 q219; obtain rfl : ad216 = ad219 := (by injection e219); replace p219 := eq_true p219; replace q219 := eq_true q219; have p220 : 0 ≤ (t207 : Int) := of_decide_eq_true (by first | (with_reducible assumption) | assumption); have q220 : t207 < (t204.length : Int) := of_decide_eq_true (by first | (with_reducible assumption) | assumption); obtain ⟨ad220, e220, hx220_0⟩ := Kd.at_f64 (Kd.R_reads' HO_4.out).2.2 t207 p220 q220; obtain rfl : ad216 = ad220 := (by injection e220); replace p220 := eq_true p220; replace q220 := eq_true q220) | (go_at_call 21; (with_reducible refine (weigh_Less.calls k2 (rdOf (0 : Nat) t204 x6_2) (rdOf (0 : Nat) t204 t207) true _ A29.out).mono ?_); rintro e w' ⟨rfl, ⟨nd, rfl⟩⟩; (try first | exact ⟨rfl, _, World.drewN_drewN _ _ _⟩ | exact ⟨rfl, _, Eq.trans (World.drewN_drewN _ _ _) (congrArg (World.drewN _) (Nat.add_assoc _ _ _))⟩))); try go_wp2_with (first | (go_at_call 21; (with_reducible refine (weigh_Less.calls k2 (rdOf (0 : Nat) t204 t207) (rdOf (0 : Nat) t204 x6_2) false _ A26.out).mono ?_); rintro e w' ⟨rfl, ⟨nd, rfl⟩⟩; (try first | exact ⟨rfl, _, World.drewN_drewN _ _ _⟩ | exact ⟨rfl, _, Eq.trans (World.drewN_drewN _ _ _) (congrArg (World.drewN _) (Nat.add_assoc _ _ _))⟩); have p219 : 0 ≤ (x6_2 : Int) := of_decide_eq_true (by first | (with_reducible assumption) | assumption); have q219 : x6_2 < (t204.length : Int) := of_decide_eq_true (by first | (with_reducible assumption) | assumption); obtain ⟨ad219, e219, hx219_0⟩ := Kd.at_f64 (Kd.R_reads' HO_4.out).2.2 x6_2 p219 q219; obtain rfl : ad216 = ad219 := (by injection e219); replace p219 := eq_true p219; replace q219 := eq_true q219; have p220 : 0 ≤ (t207 : Int) := of_decide_eq_true (by first | (with_reducible assumption) | assumption); have q220 : t207 < (t204.length : Int) := of_decide_eq_true (by first | (with_reducible assumption) | assumption); obtain ⟨ad220, e220, hx220_0⟩ := Kd.at_f64 (Kd.R_reads' HO_4.out).2.2 t207 p220 q220; obtain rfl : ad216 = ad220 := (by injection e220); replace p220 := eq_true p220; replace q220 := eq_true q220) | (go_at_call 21; (with_reducible refine (weigh_Less.calls k2 (rdOf (0 : Nat) t204 x6_2) (rdOf (0 : Nat) t204 t207) true _ A29.out).mono ?_); rintro e w' ⟨rfl, ⟨nd, rfl⟩⟩; (try first | exact ⟨rfl, _, World.drewN_drewN _ _ _⟩ | exact ⟨rfl, _, Eq.trans (World.drewN_drewN _ _ _) (congrArg (World.drewN _) (Nat.add_assoc _ _ _))⟩))))
                            go_roundg k2
                            case measure => have := HJ14.out; have := HK2.out; omega
                            case rel => exact ⟨(wrap64 (x6_2 + 1)), (by first | rfl | (simp; done) | (simp [*]; done)), H', ⟨by have := HJ14.out; have := HK2.out; omega⟩, ⟨by (with_reducible repeat (first | apply Kd.R_alloc | apply Kd.R_drewN | apply Kd.R_drew)); exact HO_4.out⟩, ⟨by repeat (first | (with_reducible first | exact HB.out | apply below_alloc | apply pw_below_drewN | apply below_drew1) | exact HB.out)⟩⟩
                          · replace c30 := Bool.eq_false_iff.mpr c30
                            subst c30
                            have H1 : (some false) = some r := by rw [if_neg (show ¬ (false = true) by decide)] at H; exact H
                            clear H
                            have H := H1
                            clear H1
                            obtain rfl := Option.some.inj H
                            have p216 : 0 ≤ (t207 : Int) := of_decide_eq_true (by first | (with_reducible assumption) | assumption)
                            have q216 : t207 < (t204.length : Int) := of_decide_eq_true (by first | (with_reducible assumption) | assumption)
                            obtain ⟨ad216, e216, hx216_0⟩ := Kd.at_f64 (Kd.R_reads' HO_4.out).2.2 t207 p216 q216
                            cases e216
                            replace p216 := eq_true p216
                            replace q216 := eq_true q216
                            have p217 : 0 ≤ (x6_2 : Int) := of_decide_eq_true (by first | (with_reducible assumption) | assumption)
                            have q217 : x6_2 < (t204.length : Int) := of_decide_eq_true (by first | (with_reducible assumption) | assumption)
                            obtain ⟨ad217, e217, hx217_0⟩ := Kd.at_f64 (Kd.R_reads' HO_4.out).2.2 x6_2 p217 q217
                            obtain rfl : ad216 = ad217 := (by injection e217)
                            replace p217 := eq_true p217
                            replace q217 := eq_true q217
                            go_wp2_with (first | (go_at_call 21; (with_reducible refine (weigh_Less.calls k2 (rdOf (0 : Nat) t204 t207) (rdOf (0 : Nat) t204 x6_2) false _ A26.out).mono ?_); rintro e w' ⟨rfl, ⟨nd, rfl⟩⟩; (try first | exact ⟨rfl, _, World.drewN_drewN _ _ _⟩ | exact ⟨rfl, _, Eq.trans (World.drewN_drewN _ _ _) (congrArg (World.drewN _) (Nat.add_assoc _ _ _))⟩); have p219 : 0 ≤ (x6_2 : Int) := of_decide_eq_true (by first | (with_reducible assumption) | assumption); have q219 : x6_2 < (t204.length : Int) := of_decide_eq_true (by first | (with_reducible assumption) | assumption); obtain ⟨ad219, e219, hx219_0⟩ := Kd.at_f64 (Kd.R_reads' HO_4.out).2.2 x6_2 p219 q219; obtain rfl : ad216 = ad219 := (by injection e219); replace p219 := eq_true p219; replace q219 := eq_true q219; have p220 : 0 ≤ (t207 : Int) := of_decide_eq_true (by first | (with_reducible assumption) | assumption); have q220 : t207 < (t204.length : Int) := of_decide_eq_true (by first | (with_reducible assumption) | assumption); obtain ⟨ad220, e220, hx220_0⟩ := Kd.at_f64 (Kd.R_reads' HO_4.out).2.2 t207 p220 q220; obtain rfl : ad216 = ad220 := (by injection e220); replace p220 := eq_true p220; replace q220 := eq_true q220) | (go_at_call 21; (with_reducible refine (weigh_Less.calls k2 (rdOf (0 : Nat) t204 x6_2) (rdOf (0 : Nat) t204 t207) false _ A29.out).mono ?_); rintro e w' ⟨rfl, ⟨nd, rfl⟩⟩; (try first | exact ⟨rfl, _, World.drewN_drewN _ _ _⟩ | exact ⟨rfl, _, Eq.trans (World.drewN_drewN _ _ _) (congrArg (World.drewN _) (Nat.add_assoc _ _ _))⟩)))
                            repeat (go_quiet (first | (go_at_call 21; (with_reducible refine (weigh_Less.calls k2 (rdOf (0 : Nat) t204 t207) (rdOf (0 : Nat) t204 x6_2) false _ A26.out).mono ?_); rintro e w' ⟨rfl, ⟨nd, rfl⟩⟩; (try first | exact ⟨rfl, _, World.drewN_drewN _ _ _⟩ | exact ⟨rfl, _, Eq.trans (World.drewN_drewN _ _ _) (congrArg (World.drewN _) (Nat.add_assoc _ _ _))⟩); have p219 : 0 ≤ (x6_2 : Int) := of_decide_eq_true (by first | (with_reducible assumption) | assumption); have q219 : x6_2 < (t204.length : Int) := of_decide_eq_true (by first | (with_reducible assumption) | assumption); obtain ⟨ad219, e219, hx219_0⟩ := Kd.at_f64 (Kd.R_reads' HO_4.out).2.2 x6_2 p219 q219; obtain rfl : ad216 = ad219 := (by injection e219); replace p219 := eq_true p219; replace q219 := eq_true q219; have p220 : 0 ≤ (t207 : Int) := of_decide_eq_true (by first | (with_reducible assumption) | assumption); have q220 : t207 < (t204.length : Int) := of_decide_eq_true (by first | (with_reducible assumption) | assumption); obtain ⟨ad220, e220, hx220_0⟩ := Kd.at_f64 (Kd.R_reads' HO_4.out).2.2 t207 p220 q220; obtain rfl : ad216 = ad220 := (by injection e220); replace p220 := eq_true p220; replace q220 := eq_true q220) | (go_at_call 21; (with_reducible refine (weigh_Less.calls k2 (rdOf (0 : Nat) t204 x6_2) (rdOf (0 : Nat) t204 t207) false _ A29.out).mono ?_); rintro e w' ⟨rfl, ⟨nd, rfl⟩⟩; (try first | exact ⟨rfl, _, World.drewN_drewN _ _ _⟩ | exact ⟨rfl, _, Eq.trans (World.drewN_drewN _ _ _) (congrArg (World.drewN _) (Nat.add_assoc _ _ _))⟩))); try go_wp2_with (first | (go_at_call 21; (with_reducible refine (weigh_Less.calls k2 (rdOf (0 : Nat) t204 t207) (rdOf (0 : Nat) t204 x6_2) false _ A26.out).mono ?_); rintro e w' ⟨rfl, ⟨nd, rfl⟩⟩; (try first | exact ⟨rfl, _, World.drewN_drewN _ _ _⟩ | exact ⟨rfl, _, Eq.trans (World.drewN_drewN _ _ _) (congrArg (World.drewN _) (Nat.add_assoc _ _ _))⟩); have p219 : 0 ≤ (x6_2 : Int) := of_decide_eq_true (by first | (with_reducible assumption) | assumption); have q219 : x6_2 < (t204.length : Int) := of_decide_eq_true (by first | (with_reducible assumption) | assumption); obtain ⟨ad219, e219, hx219_0⟩ := Kd.at_f64 (Kd.R_reads' HO_4.out).2.2 x6_2 p219 q219; obtain rfl : ad216 = ad219 := (by injection e219); replace p219 := eq_true p219; replace q219 := eq_true q219; have p220 : 0 ≤ (t207 : Int) := of_decide_eq_true (by first | (with_reducible assumption) | assumption); have q220 : t207 < (t204.length : Int) := of_decide_eq_true (by first | (with_reducible assumption) | assumption); obtain ⟨ad220, e220, hx220_0⟩ := Kd.at_f64 (Kd.R_reads' HO_4.out).2.2 t207 p220 q220; obtain rfl : ad216 = ad220 := (by injection e220); replace p220 := eq_true p220; replace q220 := eq_true q220) | (go_at_call 21; (with_reducible refine (weigh_Less.calls k2 (rdOf (0 : Nat) t204 x6_2) (rdOf (0 : Nat) t204 t207) false _ A29.out).mono ?_); rintro e w' ⟨rfl, ⟨nd, rfl⟩⟩; (try first | exact ⟨rfl, _, World.drewN_drewN _ _ _⟩ | exact ⟨rfl, _, Eq.trans (World.drewN_drewN _ _ _) (congrArg (World.drewN _) (Nat.add_assoc _ _ _))⟩))))
                            go_ret
                            exact ⟨by first | rfl | (simp [errW_none, errW_some] <;> rfl) | (simp [*, errW_none, errW_some] <;> rfl), by repeat (first | (with_reducible first | exact HB.out | apply below_alloc | apply pw_below_drewN | apply below_drew1) | exact HB.out)⟩
                        · rw [if_neg c28] at H
                          have c28b0 : decide (x6_2 < t207) = false := decide_eq_false c28
                          clear c28
                          have H' := Aside0.mk H
                          clear H
                          have p216 : 0 ≤ (t207 : Int) := of_decide_eq_true (by first | (with_reducible assumption) | assumption)
                          have q216 : t207 < (t204.length : Int) := of_decide_eq_true (by first | (with_reducible assumption) | assumption)
                          obtain ⟨ad216, e216, hx216_0⟩ := Kd.at_f64 (Kd.R_reads' HO_4.out).2.2 t207 p216 q216
                          cases e216
                          replace p216 := eq_true p216
                          replace q216 := eq_true q216
                          have p217 : 0 ≤ (x6_2 : Int) := of_decide_eq_true (by first | (with_reducible assumption) | assumption)
                          have q217 : x6_2 < (t204.length : Int) := of_decide_eq_true (by first | (with_reducible assumption) | assumption)
                          obtain ⟨ad217, e217, hx217_0⟩ := Kd.at_f64 (Kd.R_reads' HO_4.out).2.2 x6_2 p217 q217
                          obtain rfl : ad216 = ad217 := (by injection e217)
                          replace p217 := eq_true p217
                          replace q217 := eq_true q217
                          go_wp2_with (first | (go_at_call 21; (with_reducible refine (weigh_Less.calls k2 (rdOf (0 : Nat) t204 t207) (rdOf (0 : Nat) t204 x6_2) false _ A26.out).mono ?_); rintro e w' ⟨rfl, ⟨nd, rfl⟩⟩; (try first | exact ⟨rfl, _, World.drewN_drewN _ _ _⟩ | exact ⟨rfl, _, Eq.trans (World.drewN_drewN _ _ _) (congrArg (World.drewN _) (Nat.add_assoc _ _ _))⟩)))
                          repeat (go_quiet (first | (go_at_call 21; (with_reducible refine (weigh_Less.calls k2 (rdOf (0 : Nat) t204 t207) (rdOf (0 : Nat) t204 x6_2) false _ A26.out).mono ?_); rintro e w' ⟨rfl, ⟨nd, rfl⟩⟩; (try first | exact ⟨rfl, _, World.drewN_drewN _ _ _⟩ | exact ⟨rfl, _, Eq.trans (World.drewN_drewN _ _ _) (congrArg (World.drewN _) (Nat.add_assoc _ _ _))⟩))); try go_wp2_with (first | (go_at_call 21; (with_reducible refine (weigh_Less.calls k2 (rdOf (0 : Nat) t204 t207) (rdOf (0 : Nat) t204 x6_2) false _ A26.out).mono ?_); rintro e w' ⟨rfl, ⟨nd, rfl⟩⟩; (try first | exact ⟨rfl, _, World.drewN_drewN _ _ _⟩ | exact ⟨rfl, _, Eq.trans (World.drewN_drewN _ _ _) (congrArg (World.drewN _) (Nat.add_assoc _ _ _))⟩))))
                          go_roundg k2
                          case measure => have := HJ14.out; have := HK2.out; omega
                          case rel => exact ⟨(wrap64 (x6_2 + 1)), (by first | rfl | (simp; done) | (simp [*]; done)), H', ⟨by have := HJ14.out; have := HK2.out; omega⟩, ⟨by (with_reducible repeat (first | apply Kd.R_alloc | apply Kd.R_drewN | apply Kd.R_drew)); exact HO_4.out⟩, ⟨by repeat (first | (with_reducible first | exact HB.out | apply below_alloc | apply pw_below_drewN | apply below_drew1) | exact HB.out)⟩⟩
                    · rw [if_neg c25] at H
                      exact absurd H (by simp)
                  · rw [if_neg c24] at H
                    exact absurd H (by simp)
                · rw [if_neg c23] at H
                  exact absurd H (by simp)
              · rw [if_neg c22] at H
                have c22b0 : decide (x6_2 < (t204.length : Int)) = false := decide_eq_false c22
                clear c22
                replace H := Option.bind_eq_some_iff.mp H
                obtain ⟨⟨t208, t209⟩, A310, H⟩ := H
                replace H : ((weigh_Heavy.f t208).bind fun t212 => (if t203 = true then (if t212 ≥ 0 then (if t212 < (t208.length : Int) then (if 0 ≤ t212 then (if 0 ≤ t207 then (if t207 < (t208.length : Int) then ((weigh_Less.f k2 (rdOf (0 : Nat) t208 t212) (rdOf (0 : Nat) t208 t207)).bind fun t215 => (some (!t215))) else (none)) else (none)) else (none)) else (some false)) else (some false)) else (some false))) = some r := H
                have A31 := Aside0.mk A310
                clear A310
                replace H := Option.bind_eq_some_iff.mp H
                obtain ⟨t212, A320, H⟩ := H
                replace H : (if t203 = true then (if t212 ≥ 0 then (if t212 < (t208.length : Int) then (if 0 ≤ t212 then (if 0 ≤ t207 then (if t207 < (t208.length : Int) then ((weigh_Less.f k2 (rdOf (0 : Nat) t208 t212) (rdOf (0 : Nat) t208 t207)).bind fun t215 => (some (!t215))) else (none)) else (none)) else (none)) else (some false)) else (some false)) else (some false)) = some r := H
                have A32 := Aside0.mk A320
                clear A320
                by_cases c33 : t203 = true
                · subst c33
                  have H1 : (if t212 ≥ 0 then (if t212 < (t208.length : Int) then (if 0 ≤ t212 then (if 0 ≤ t207 then (if t207 < (t208.length : Int) then ((weigh_Less.f k2 (rdOf (0 : Nat) t208 t212) (rdOf (0 : Nat) t208 t207)).bind fun t215 => (some (!t215))) else (none)) else (none)) else (none)) else (some false)) else (some false)) = some r := by rw [if_pos rfl] at H; exact H
                  clear H
                  have H := H1
                  clear H1
                  by_cases c34 : t212 ≥ 0
                  · rw [if_pos c34] at H
                    have c34b0 : decide (0 ≤ t212) = true := decide_eq_true c34
                    clear c34
                    by_cases c35 : t212 < (t208.length : Int)
                    · rw [if_pos c35] at H
                      have c35b0 : decide (t212 < (t208.length : Int)) = true := decide_eq_true c35
                      clear c35
                      by_cases c36 : 0 ≤ t212
                      · rw [if_pos c36] at H
                        have c36b0 : decide (0 ≤ t212) = true := decide_eq_true c36
                        clear c36
                        by_cases c37 : 0 ≤ t207
                        · rw [if_pos c37] at H
                          have c37b0 : decide (0 ≤ t207) = true := decide_eq_true c37
                          clear c37
                          by_cases c38 : t207 < (t208.length : Int)
                          · rw [if_pos c38] at H
                            have c38b0 : decide (t207 < (t208.length : Int)) = true := decide_eq_true c38
                            clear c38
                            replace H := Option.bind_eq_some_iff.mp H
                            obtain ⟨t215, A390, H⟩ := H
                            replace H : (some (!t215)) = some r := H
                            have A39 := Aside0.mk A390
                            clear A390
                            obtain rfl := Option.some.inj H
                            go_wp2_with (first | (go_at_call 14; (with_reducible refine (weigh_Rescale.calls k2 _ _ t204 t208 t209 _ ?side1 ?side2 A31.out).mono ?_); (case side1 => repeat (first | exact (Kd.R_reads' HO_4.out).2.2 | (with_reducible refine Kd.C_alloc ?_ _) | (with_reducible refine Kd.C_drewN ?_ _) | (with_reducible refine Kd.C_drew ?_))); (case side2 => exact (Kd.R_reads' HO_4.out).2.1); rintro e w40 ⟨v210, rfl, ho0, hb⟩; have n0_ := Aside0.mk (Kd.R_elder' (by (with_reducible repeat (first | apply Kd.R_alloc | apply Kd.R_drewN | apply Kd.R_drew)); exact HO_4.out) (Kd.R_base ho0) hb); have n1_ := Aside0.mk (Kd.R_lower (Kd.R_new' ho0 (Kd.R_lt (by (with_reducible repeat (first | apply Kd.R_alloc | apply Kd.R_drewN | apply Kd.R_drew)); exact HO_4.out))) (below_size (by repeat (first | (with_reducible first | exact HB.out | apply below_alloc | apply pw_below_drewN | apply below_drew1) | exact HB.out)))); have n2_ := Aside0.mk (below_step (by repeat (first | (with_reducible first | exact HB.out | apply below_alloc | apply pw_below_drewN | apply below_drew1) | exact HB.out)) hb); clear HO_4; clear HB; have HO_4 := n0_; have HO211 := n1_; have HB := n2_; clear n0_ n1_ n2_; (try clear hb); (try clear hb2); (try clear hk); (try clear hi); (try clear ho0); obtain ⟨Ao41, co41, eo41⟩ := Kd.R_slice HO211.out; subst eo41) | (go_at_call 16; (with_reducible refine (weigh_Heavy.calls _ _ t208 t212 _ ?side1 ?side2 A32.out).mono ?_); (case side1 => repeat (first | exact (Kd.R_reads' HO211.out).2.2 | (with_reducible refine Kd.C_alloc ?_ _) | (with_reducible refine Kd.C_drewN ?_ _) | (with_reducible refine Kd.C_drew ?_))); (case side2 => exact (Kd.R_reads' HO211.out).2.1); rintro e w42 ⟨rfl, hb⟩; have n0_ := Aside0.mk (Kd.R_below (by (with_reducible repeat (first | apply Kd.R_alloc | apply Kd.R_drewN | apply Kd.R_drew)); exact HO_4.out) hb); have n1_ := Aside0.mk (Kd.R_below (by (with_reducible repeat (first | apply Kd.R_alloc | apply Kd.R_drewN | apply Kd.R_drew)); exact HO211.out) hb); have n2_ := Aside0.mk (below_step (by repeat (first | (with_reducible first | exact HB.out | apply below_alloc | apply pw_below_drewN | apply below_drew1) | exact HB.out)) hb); clear HO_4; clear HO211; clear HB; have HO_4 := n0_; have HO211 := n1_; have HB := n2_; clear n0_ n1_ n2_; (try clear hb); (try clear hb2); (try clear hk); (try clear hi); have p213 : 0 ≤ (t212 : Int) := of_decide_eq_true (by first | (with_reducible assumption) | assumption); have q213 : t212 < (t208.length : Int) := of_decide_eq_true (by first | (with_reducible assumption) | assumption); obtain ⟨ad213, e213, hx213_0⟩ := Kd.at_f64 (Kd.R_reads' HO211.out).2.2 t212 p213 q213; cases e213; replace p213 := eq_true p213; replace q213 := eq_true q213; have p214 : 0 ≤ (t207 : Int) := of_decide_eq_true (by first | (with_reducible assumption) | assumption); have q214 : t207 < (t208.length : Int) := of_decide_eq_true (by first | (with_reducible assumption) | assumption); obtain ⟨ad214, e214, hx214_0⟩ := Kd.at_f64 (Kd.R_reads' HO211.out).2.2 t207 p214 q214; obtain rfl : ad213 = ad214 := (by injection e214); replace p214 := eq_true p214; replace q214 := eq_true q214) | (go_at_call 21; (with_reducible refine (weigh_Less.calls k2 (rdOf (0 : Nat) t208 t212) (rdOf (0 : Nat) t208 t207) t215 _ A39.out).mono ?_); rintro e w' ⟨rfl, ⟨nd, rfl⟩⟩; (try first | exact ⟨rfl, _, World.drewN_drewN _ _ _⟩ | exact ⟨rfl, _, Eq.trans (World.drewN_drewN _ _ _) (congrArg (World.drewN _) (Nat.add_assoc _ _ _))⟩)))
                            repeat (go_quiet (first | (go_at_call 14; (with_reducible refine (weigh_Rescale.calls k2 _ _ t204 t208 t209 _ ?side1 ?side2 A31.out).mono ?_); (case side1 => repeat (first | exact (Kd.R_reads' HO_4.out).2.2 | (with_reducible refine Kd.C_alloc ?_ _) | (with_reducible refine Kd.C_drewN ?_ _) | (with_reducible refine Kd.C_drew ?_))); (case side2 => exact (Kd.R_reads' HO_4.out).2.1); rintro e w40 ⟨v210, rfl, ho0, hb⟩; have n0_ := Aside0.mk (Kd.R_elder' (by (with_reducible repeat (first | apply Kd.R_alloc | apply Kd.R_drewN | apply Kd.R_drew)); exact HO_4.out) (Kd.R_base ho0) hb); have n1_ := Aside0.mk (Kd.R_lower (Kd.R_new' ho0 (Kd.R_lt (by (with_reducible repeat (first | apply Kd.R_alloc | apply Kd.R_drewN | apply Kd.R_drew)); exact HO_4.out))) (below_size (by repeat (first | (with_reducible first | exact HB.out | apply below_alloc | apply pw_below_drewN | apply below_drew1) | exact HB.out)))); have n2_ := Aside0.mk (below_step (by repeat (first | (with_reducible first | exact HB.out | apply below_alloc | apply pw_below_drewN | apply below_drew1) | exact HB.out)) hb); clear HO_4; clear HB; have HO_4 := n0_; have HO211 := n1_; have HB := n2_; clear n0_ n1_ n2_; (try clear hb); (try clear hb2); (try clear hk); (try clear hi); (try clear ho0); obtain ⟨Ao41, co41, eo41⟩ := Kd.R_slice HO211.out; subst eo41) | (go_at_call 16; (with_reducible refine (weigh_Heavy.calls _ _ t208 t212 _ ?side1 ?side2 A32.out).mono ?_); (case side1 => repeat (first | exact (Kd.R_reads' HO211.out).2.2 | (with_reducible refine Kd.C_alloc ?_ _) | (with_reducible refine Kd.C_drewN ?_ _) | (with_reducible refine Kd.C_drew ?_))); (case side2 => exact (Kd.R_reads' HO211.out).2.1); rintro e w42 ⟨rfl, hb⟩; have n0_ := Aside0.mk (Kd.R_below (by (with_reducible repeat (first | apply Kd.R_alloc | apply Kd.R_drewN | apply Kd.R_drew)); exact HO_4.out) hb); have n1_ := Aside0.mk (Kd.R_below (by (with_reducible repeat (first | apply Kd.R_alloc | apply Kd.R_drewN | apply Kd.R_drew)); exact HO211.out) hb); have n2_ := Aside0.mk (below_step (by repeat (first | (with_reducible first | exact HB.out | apply below_alloc | apply pw_below_drewN | apply below_drew1) | exact HB.out)) hb); clear HO_4; clear HO211; clear HB; have HO_4 := n0_; have HO211 := n1_; have HB := n2_; clear n0_ n1_ n2_; (try clear hb); (try clear hb2); (try clear hk); (try clear hi); have p213 : 0 ≤ (t212 : Int) := of_decide_eq_true (by first | (with_reducible assumption) | assumption); have q213 : t212 < (t208.length : Int) := of_decide_eq_true (by first | (with_reducible assumption) | assumption); obtain ⟨ad213, e213, hx213_0⟩ := Kd.at_f64 (Kd.R_reads' HO211.out).2.2 t212 p213 q213; cases e213; replace p213 := eq_true p213; replace q213 := eq_true q213; have p214 : 0 ≤ (t207 : Int) := of_decide_eq_true (by first | (with_reducible assumption) | assumption); have q214 : t207 < (t208.length : Int) := of_decide_eq_true (by first | (with_reducible assumption) | assumption); obtain ⟨ad214, e214, hx214_0⟩ := Kd.at_f64 (Kd.R_reads' HO211.out).2.2 t207 p214 q214; obtain rfl : ad213 = ad214 := (by injection e214); replace p214 := eq_true p214; replace q214 := eq_true q214) | (go_at_call 21; (with_reducible refine (weigh_Less.calls k2 (rdOf (0 : Nat) t208 t212) (rdOf (0 : Nat) t208 t207) t215 _ A39.out).mono ?_); rintro e w' ⟨rfl, ⟨nd, rfl⟩⟩; (try first | exact ⟨rfl, _, World.drewN_drewN _ _ _⟩ | exact ⟨rfl, _, Eq.trans (World.drewN_drewN _ _ _) (congrArg (World.drewN _) (Nat.add_assoc _ _ _))⟩))); try go_wp2_with (first | (go_at_call 14; (with_reducible refine (weigh_Rescale.calls k2 _ _ t204 t208 t209 _ ?side1 ?side2 A31.out).mono ?_); (case side1 => repeat (first | exact (Kd.R_reads' HO_4.out).2.2 | (with_reducible refine Kd.C_alloc ?_ _) | (with_reducible refine Kd.C_drewN ?_ _) | (with_reducible refine Kd.C_drew ?_))); (case side2 => exact (Kd.R_reads' HO_4.out).2.1); rintro e w40 ⟨v210, rfl, ho0, hb⟩; have n0_ := Aside0.mk (Kd.R_elder' (by (with_reducible repeat (first | apply Kd.R_alloc | apply Kd.R_drewN | apply Kd.R_drew)); exact HO_4.out) (Kd.R_base ho0) hb); have n1_ := Aside0.mk (Kd.R_lower (Kd.R_new' ho0 (Kd.R_lt (by (with_reducible repeat (first | apply Kd.R_alloc | apply Kd.R_drewN | apply Kd.R_drew)); exact HO_4.out))) (below_size (by repeat (first | (with_reducible first | exact HB.out | apply below_alloc | apply pw_below_drewN | apply below_drew1) | exact HB.out)))); have n2_ := Aside0.mk (below_step (by repeat (first | (with_reducible first | exact HB.out | apply below_alloc | apply pw_below_drewN | apply below_drew1) | exact HB.out)) hb); clear HO_4; clear HB; have HO_4 := n0_; have HO211 := n1_; have HB := n2_; clear n0_ n1_ n2_; (try clear hb); (try clear hb2); (try clear hk); (try clear hi); (try clear ho0); obtain ⟨Ao41, co41, eo41⟩ := Kd.R_slice HO211.out; subst eo41) | (go_at_call 16; (with_reducible refine (weigh_Heavy.calls _ _ t208 t212 _ ?side1 ?side2 A32.out).mono ?_); (case side1 => repeat (first | exact (Kd.R_reads' HO211.out).2.2 | (with_reducible refine Kd.C_alloc ?_ _) | (with_reducible refine Kd.C_drewN ?_ _) | (with_reducible refine Kd.C_drew ?_))); (case side2 => exact (Kd.R_reads' HO211.out).2.1); rintro e w42 ⟨rfl, hb⟩; have n0_ := Aside0.mk (Kd.R_below (by (with_reducible repeat (first | apply Kd.R_alloc | apply Kd.R_drewN | apply Kd.R_drew)); exact HO_4.out) hb); have n1_ := Aside0.mk (Kd.R_below (by (with_reducible repeat (first | apply Kd.R_alloc | apply Kd.R_drewN | apply Kd.R_drew)); exact HO211.out) hb); have n2_ := Aside0.mk (below_step (by repeat (first | (with_reducible first | exact HB.out | apply below_alloc | apply pw_below_drewN | apply below_drew1) | exact HB.out)) hb); clear HO_4; clear HO211; clear HB; have HO_4 := n0_; have HO211 := n1_; have HB := n2_; clear n0_ n1_ n2_; (try clear hb); (try clear hb2); (try clear hk); (try clear hi); have p213 : 0 ≤ (t212 : Int) := of_decide_eq_true (by first | (with_reducible assumption) | assumption); have q213 : t212 < (t208.length : Int) := of_decide_eq_true (by first | (with_reducible assumption) | assumption); obtain ⟨ad213, e213, hx213_0⟩ := Kd.at_f64 (Kd.R_reads' HO211.out).2.2 t212 p213 q213; cases e213; replace p213 := eq_true p213; replace q213 := eq_true q213; have p214 : 0 ≤ (t207 : Int) := of_decide_eq_true (by first | (with_reducible assumption) | assumption); have q214 : t207 < (t208.length : Int) := of_decide_eq_true (by first | (with_reducible assumption) | assumption); obtain ⟨ad214, e214, hx214_0⟩ := Kd.at_f64 (Kd.R_reads' HO211.out).2.2 t207 p214 q214; obtain rfl : ad213 = ad214 := (by injection e214); replace p214 := eq_true p214; replace q214 := eq_true q214) | (go_at_call 21; (with_reducible refine (weigh_Less.calls k2 (rdOf (0 : Nat) t208 t212) (rdOf (0 : Nat) t208 t207) t215 _ A39.out).mono ?_); rintro e w' ⟨rfl, ⟨nd, rfl⟩⟩; (try first | exact ⟨rfl, _, World.drewN_drewN _ _ _⟩ | exact ⟨rfl, _, Eq.trans (World.drewN_drewN _ _ _) (congrArg (World.drewN _) (Nat.add_assoc _ _ _))⟩))))
                            go_ret
                            exact ⟨by first | rfl | (simp [errW_none, errW_some] <;> rfl) | (simp [*, errW_none, errW_some] <;> rfl), by repeat (first | (with_reducible first | exact HB.out | apply below_alloc | apply pw_below_drewN | apply below_drew1) | exact HB.out)⟩
                          · rw [if_neg c38] at H
                            exact absurd H (by simp)
                        · rw [if_neg c37] at H
                          exact absurd H (by simp)
                      · rw [if_neg c36] at H
                        exact absurd H (by simp)
                    · rw [if_neg c35] at H
                      have c35b0 : decide (t212 < (t208.length : Int)) = false := decide_eq_false c35
                      clear c35
                      obtain rfl := Option.some.inj H
                      go_wp2_with (first | (go_at_call 14; (with_reducible refine (weigh_Rescale.calls k2 _ _ t204 t208 t209 _ ?side1 ?side2 A31.out).mono ?_); (case side1 => repeat (first | exact (Kd.R_reads' HO_4.out).2.2 | (with_reducible refine Kd.C_alloc ?_ _) | (with_reducible refine Kd.C_drewN ?_ _) | (with_reducible refine Kd.C_drew ?_))); (case side2 => exact (Kd.R_reads' HO_4.out).2.1); rintro e w43 ⟨v210, rfl, ho0, hb⟩; have n0_ := Aside0.mk (Kd.R_elder' (by (with_reducible repeat (first | apply Kd.R_alloc | apply Kd.R_drewN | apply Kd.R_drew)); exact HO_4.out) (Kd.R_base ho0) hb); have n1_ := Aside0.mk (Kd.R_lower (Kd.R_new' ho0 (Kd.R_lt (by (with_reducible repeat (first | apply Kd.R_alloc | apply Kd.R_drewN | apply Kd.R_drew)); exact HO_4.out))) (below_size (by repeat (first | (with_reducible first | exact HB.out | apply below_alloc | apply pw_below_drewN | apply below_drew1) | exact HB.out)))); have n2_ := Aside0.mk (below_step (by repeat (first | (with_reducible first | exact HB.out | apply below_alloc | apply pw_below_drewN | apply below_drew1) | exact HB.out)) hb); clear HO_4; clear HB; have HO_4 := n0_; have HO211 := n1_; have HB := n2_; clear n0_ n1_ n2_; (try clear hb); (try clear hb2); (try clear hk); (try clear hi); (try clear ho0); obtain ⟨Ao44, co44, eo44⟩ := Kd.R_slice HO211.out; subst eo44) | (go_at_call 16; (with_reducible refine (weigh_Heavy.calls _ _ t208 t212 _ ?side1 ?side2 A32.out).mono ?_); (case side1 => repeat (first | exact (Kd.R_reads' HO211.out).2.2 | (with_reducible refine Kd.C_alloc ?_ _) | (with_reducible refine Kd.C_drewN ?_ _) | (with_reducible refine Kd.C_drew ?_))); (case side2 => exact (Kd.R_reads' HO211.out).2.1); rintro e w45 ⟨rfl, hb⟩; have n0_ := Aside0.mk (Kd.R_below (by (with_reducible repeat (first | apply Kd.R_alloc | apply Kd.R_drewN | apply Kd.R_drew)); exact HO_4.out) hb); have n1_ := Aside0.mk (Kd.R_below (by (with_reducible repeat (first | apply Kd.R_alloc | apply Kd.R_drewN | apply Kd.R_drew)); exact HO211.out) hb); have n2_ := Aside0.mk (below_step (by repeat (first | (with_reducible first | exact HB.out | apply below_alloc | apply pw_below_drewN | apply below_drew1) | exact HB.out)) hb); clear HO_4; clear HO211; clear HB; have HO_4 := n0_; have HO211 := n1_; have HB := n2_; clear n0_ n1_ n2_; (try clear hb); (try clear hb2); (try clear hk); (try clear hi)))
                      repeat (go_quiet (first | (go_at_call 14; (with_reducible refine (weigh_Rescale.calls k2 _ _ t204 t208 t209 _ ?side1 ?side2 A31.out).mono ?_); (case side1 => repeat (first | exact (Kd.R_reads' HO_4.out).2.2 | (with_reducible refine Kd.C_alloc ?_ _) | (with_reducible refine Kd.C_drewN ?_ _) | (with_reducible refine Kd.C_drew ?_))); (case side2 => exact (Kd.R_reads' HO_4.out).2.1); rintro e w43 ⟨v210, rfl, ho0, hb⟩; have n0_ := Aside0.mk (Kd.R_elder' (by (with_reducible repeat (first | apply Kd.R_alloc | apply Kd.R_drewN | apply Kd.R_drew)); exact HO_4.out) (Kd.R_base ho0) hb); have n1_ := Aside0.mk (Kd.R_lower (Kd.R_new' ho0 (Kd.R_lt (by (with_reducible repeat (first | apply Kd.R_alloc | apply Kd.R_drewN | apply Kd.R_drew)); exact HO_4.out))) (below_size (by repeat (first | (with_reducible first | exact HB.out | apply below_alloc | apply pw_below_drewN | apply below_drew1) | exact HB.out)))); have n2_ := Aside0.mk (below_step (by repeat (first | (with_reducible first | exact HB.out | apply below_alloc | apply pw_below_drewN | apply below_drew1) | exact HB.out)) hb); clear HO_4; clear HB; have HO_4 := n0_; have HO211 := n1_; have HB := n2_; clear n0_ n1_ n2_; (try clear hb); (try clear hb2); (try clear hk); (try clear hi); (try clear ho0); obtain ⟨Ao44, co44, eo44⟩ := Kd.R_slice HO211.out; subst eo44) | (go_at_call 16; (with_reducible refine (weigh_Heavy.calls _ _ t208 t212 _ ?side1 ?side2 A32.out).mono ?_); (case side1 => repeat (first | exact (Kd.R_reads' HO211.out).2.2 | (with_reducible refine Kd.C_alloc ?_ _) | (with_reducible refine Kd.C_drewN ?_ _) | (with_reducible refine Kd.C_drew ?_))); (case side2 => exact (Kd.R_reads' HO211.out).2.1); rintro e w45 ⟨rfl, hb⟩; have n0_ := Aside0.mk (Kd.R_below (by (with_reducible repeat (first | apply Kd.R_alloc | apply Kd.R_drewN | apply Kd.R_drew)); exact HO_4.out) hb); have n1_ := Aside0.mk (Kd.R_below (by (with_reducible repeat (first | apply Kd.R_alloc | apply Kd.R_drewN | apply Kd.R_drew)); exact HO211.out) hb); have n2_ := Aside0.mk (below_step (by repeat (first | (with_reducible first | exact HB.out | apply below_alloc | apply pw_below_drewN | apply below_drew1) | exact HB.out)) hb); clear HO_4; clear HO211; clear HB; have HO_4 := n0_; have HO211 := n1_; have HB := n2_; clear n0_ n1_ n2_; (try clear hb); (try clear hb2); (try clear hk); (try clear hi))); try go_wp2_with (first | (go_at_call 14; (with_reducible refine (weigh_Rescale.calls k2 _ _ t204 t208 t209 _ ?side1 ?side2 A31.out).mono ?_); (case side1 => repeat (first | exact (Kd.R_reads' HO_4.out).2.2 | (with_reducible refine Kd.C_alloc ?_ _) | (with_reducible refine Kd.C_drewN ?_ _) | (with_reducible refine Kd.C_drew ?_))); (case side2 => exact (Kd.R_reads' HO_4.out).2.1); rintro e w43 ⟨v210, rfl, ho0, hb⟩; have n0_ := Aside0.mk (Kd.R_elder' (by (with_reducible repeat (first | apply Kd.R_alloc | apply Kd.R_drewN | apply Kd.R_drew)); exact HO_4.out) (Kd.R_base ho0) hb); have n1_ := Aside0.mk (Kd.R_lower (Kd.R_new' ho0 (Kd.R_lt (by (with_reducible repeat (first | apply Kd.R_alloc | apply Kd.R_drewN | apply Kd.R_drew)); exact HO_4.out))) (below_size (by repeat (first | (with_reducible first | exact HB.out | apply below_alloc | apply pw_below_drewN | apply below_drew1) | exact HB.out)))); have n2_ := Aside0.mk (below_step (by repeat (first | (with_reducible first | exact HB.out | apply below_alloc | apply pw_below_drewN | apply below_drew1) | exact HB.out)) hb); clear HO_4; clear HB; have HO_4 := n0_; have HO211 := n1_; have HB := n2_; clear n0_ n1_ n2_; (try clear hb); (try clear hb2); (try clear hk); (try clear hi); (try clear ho0); obtain ⟨Ao44, co44, eo44⟩ := Kd.R_slice HO211.out; subst eo44) | (go_at_call 16; (with_reducible refine (weigh_Heavy.calls _ _ t208 t212 _ ?side1 ?side2 A32.out).mono ?_); (case side1 => repeat (first | exact (Kd.R_reads' HO211.out).2.2 | (with_reducible refine Kd.C_alloc ?_ _) | (with_reducible refine Kd.C_drewN ?_ _) | (with_reducible refine Kd.C_drew ?_))); (case side2 => exact (Kd.R_reads' HO211.out).2.1); rintro e w45 ⟨rfl, hb⟩; have n0_ := Aside0.mk (Kd.R_below (by (with_reducible repeat (first | apply Kd.R_alloc | apply Kd.R_drewN | apply Kd.R_drew)); exact HO_4.out) hb); have n1_ := Aside0.mk (Kd.R_below (by (with_reducible repeat (first | apply Kd.R_alloc | apply Kd.R_drewN | apply Kd.R_drew)); exact HO211.out) hb); have n2_ := Aside0.mk (below_step (by repeat (first | (with_reducible first | exact HB.out | apply below_alloc | apply pw_below_drewN | apply below_drew1) | exact HB.out)) hb); clear HO_4; clear HO211; clear HB; have HO_4 := n0_; have HO211 := n1_; have HB := n2_; clear n0_ n1_ n2_; (try clear hb); (try clear hb2); (try clear hk); (try clear hi))))
                      go_ret
                      exact ⟨by first | rfl | (simp [errW_none, errW_some] <;> rfl) | (simp [*, errW_none, errW_some] <;> rfl), by repeat (first | (with_reducible first | exact HB.out | apply below_alloc | apply pw_below_drewN | apply below_drew1) | exact HB.out)⟩
                  · rw [if_neg c34] at H
                    have c34b0 : decide (0 ≤ t212) = false := decide_eq_false c34
                    clear c34
                    obtain rfl := Option.some.inj H
                    go_wp2_with (first | (go_at_call 14; (with_reducible refine (weigh_Rescale.calls k2 _ _ t204 t208 t209 _ ?side1 ?side2 A31.out).mono ?_); (case side1 => repeat (first | exact (Kd.R_reads' HO_4.out).2.2 | (with_reducible refine Kd.C_alloc ?_ _) | (with_reducible refine Kd.C_drewN ?_ _) | (with_reducible refine Kd.C_drew ?_))); (case side2 => exact (Kd.R_reads' HO_4.out).2.1); rintro e w46 ⟨v210, rfl, ho0, hb⟩; have n0_ := Aside0.mk (Kd.R_elder' (by (with_reducible repeat (first | apply Kd.R_alloc | apply Kd.R_drewN | apply Kd.R_drew)); exact HO_4.out) (Kd.R_base ho0) hb); have n1_ := Aside0.mk (Kd.R_lower (Kd.R_new' ho0 (Kd.R_lt (by (with_reducible repeat (first | apply Kd.R_alloc | apply Kd.R_drewN | apply Kd.R_drew)); exact HO_4.out))) (below_size (by repeat (first | (with_reducible first | exact HB.out | apply below_alloc | apply pw_below_drewN | apply below_drew1) | exact HB.out)))); have n2_ := Aside0.mk (below_step (by repeat (first | (with_reducible first | exact HB.out | apply below_alloc | apply pw_below_drewN | apply below_drew1) | exact HB.out)) hb); clear HO_4; clear HB; have HO_4 := n0_; have HO211 := n1_; have HB := n2_; clear n0_ n1_ n2_; (try clear hb); (try clear hb2); (try clear hk); (try clear hi); (try clear ho0); obtain ⟨Ao47, co47, eo47⟩ := Kd.R_slice HO211.out; subst eo47) | (go_at_call 16; (with_reducible refine (weigh_Heavy.calls _ _ t208 t212 _ ?side1 ?side2 A32.out).mono ?_); (case side1 => repeat (first | exact (Kd.R_reads' HO211.out).2.2 | (with_reducible refine Kd.C_alloc ?_ _) | (with_reducible refine Kd.C_drewN ?_ _) | (with_reducible refine Kd.C_drew ?_))); (case side2 => exact (Kd.R_reads' HO211.out).2.1); rintro e w48 ⟨rfl, hb⟩; have n0_ := Aside0.mk (Kd.R_below (by (with_reducible repeat (first | apply Kd.R_alloc | apply Kd.R_drewN | apply Kd.R_drew)); exact HO_4.out) hb); have n1_ := Aside0.mk (Kd.R_below (by (with_reducible repeat (first | apply Kd.R_alloc | apply Kd.R_drewN | apply Kd.R_drew)); exact HO211.out) hb); have n2_ := Aside0.mk (below_step (by repeat (first | (with_reducible first | exact HB.out | apply below_alloc | apply pw_below_drewN | apply below_drew1) | exact HB.out)) hb); clear HO_4; clear HO211; clear HB; have HO_4 := n0_; have HO211 := n1_; have HB := n2_; clear n0_ n1_ n2_; (try clear hb); (try clear hb2); (try clear hk); (try clear hi)))
                    repeat (go_quiet (first | (go_at_call 14; (with_reducible refine (weigh_Rescale.calls k2 _ _ t204 t208 t209 _ ?side1 ?side2 A31.out).mono ?_); (case side1 => repeat (first | exact (Kd.R_reads' HO_4.out).2.2 | (with_reducible refine Kd.C_alloc ?_ _) | (with_reducible refine Kd.C_drewN ?_ _) | (with_reducible refine Kd.C_drew ?_))); (case side2 => exact (Kd.R_reads' HO_4.out).2.1); rintro e w46 ⟨v210, rfl, ho0, hb⟩; have n0_ := Aside0.mk (Kd.R_elder' (by (with_reducible repeat (first | apply Kd.R_alloc | apply Kd.R_drewN | apply Kd.R_drew)); exact HO_4.out) (Kd.R_base ho0) hb); have n1_ := Aside0.mk (Kd.R_lower (Kd.R_new' ho0 (Kd.R_lt (by (with_reducible repeat (first | apply Kd.R_alloc | apply Kd.R_drewN | apply Kd.R_drew)); exact HO_4.out))) (below_size (by repeat (first | (with_reducible first | exact HB.out | apply below_alloc | apply pw_below_drewN | apply below_drew1) | exact HB.out)))); have n2_ := Aside0.mk (below_step (by repeat (first | (with_reducible first | exact HB.out | apply below_alloc | apply pw_below_drewN | apply below_drew1) | exact HB.out)) hb); clear HO_4; clear HB; have HO_4 := n0_; have HO211 := n1_; have HB := n2_; clear n0_ n1_ n2_; (try clear hb); (try clear hb2); (try clear hk); (try clear hi); (try clear ho0); obtain ⟨Ao47, co47, eo47⟩ := Kd.R_slice HO211.out; subst eo47) | (go_at_call 16; (with_reducible refine (weigh_Heavy.calls _ _ t208 t212 _ ?side1 ?side2 A32.out).mono ?_); (case side1 => repeat (first | exact (Kd.R_reads' HO211.out).2.2 | (with_reducible refine Kd.C_alloc ?_ _) | (with_reducible refine Kd.C_drewN ?_ _) | (with_reducible refine Kd.C_drew ?_))); (case side2 => exact (Kd.R_reads' HO211.out).2.1); rintro e w48 ⟨rfl, hb⟩; have n0_ := Aside0.mk (Kd.R_below (by (with_reducible repeat (first | apply Kd.R_alloc | apply Kd.R_drewN | apply Kd.R_drew)); exact HO_4.out) hb); have n1_ := Aside0.mk (Kd.R_below (by (with_reducible repeat (first | apply Kd.R_alloc | apply Kd.R_drewN | apply Kd.R_drew)); exact HO211.out) hb); have n2_ := Aside0.mk (below_step (by repeat (first | (with_reducible first | exact HB.out | apply below_alloc | apply pw_below_drewN | apply below_drew1) | exact HB.out)) hb); clear HO_4; clear HO211; clear HB; have HO_4 := n0_; have HO211 := n1_; have HB := n2_; clear n0_ n1_ n2_; (try clear hb); (try clear hb2); (try clear hk); (try clear hi))); try go_wp2_with (first | (go_at_call 14; (with_reducible refine (weigh_Rescale.calls k2 _ _ t204 t208 t209 _ ?side1 ?side2 A31.out).mono ?_); (case side1 => repeat (first | exact (Kd.R_reads' HO_4.out).2.2 | (with_reducible refine Kd.C_alloc ?_ _) | (with_reducible refine Kd.C_drewN ?_ _) | (with_reducible refine Kd.C_drew ?_))); (case side2 => exact (Kd.R_reads' HO_4.out).2.1); rintro e w46 ⟨v210, rfl, ho0, hb⟩; have n0_ := Aside0.mk (Kd.R_elder' (by (with_reducible repeat (first | apply Kd.R_alloc | apply Kd.R_drewN | apply Kd.R_drew)); exact HO_4.out) (Kd.R_base ho0) hb); have n1_ := Aside0.mk (Kd.R_lower (Kd.R_new' ho0 (Kd.R_lt (by (with_reducible repeat (first | apply Kd.R_alloc | apply Kd.R_drewN | apply Kd.R_drew)); exact HO_4.out))) (below_size (by repeat (first | (with_reducible first | exact HB.out | apply below_alloc | apply pw_below_drewN | apply below_drew1) | exact HB.out)))); have n2_ := Aside0.mk (below_step (by repeat (first | (with_reducible first | exact HB.out | apply below_alloc | apply pw_below_drewN | apply below_drew1) | exact HB.out)) hb); clear HO_4; clear HB; have HO_4 := n0_; have HO211 := n1_; have HB := n2_; clear n0_ n1_ n2_; (try clear hb); (try clear hb2); (try clear hk); (try clear hi); (try clear ho0); obtain ⟨Ao47, co47, eo47⟩ := Kd.R_slice HO211.out; subst eo47) | (go_at_call 16; (with_reducible refine (weigh_Heavy.calls _ _ t208 t212 _ ?side1 ?side2 A32.out).mono ?_); (case side1 => repeat (first | exact (Kd.R_reads' HO211.out).2.2 | (with_reducible refine Kd.C_alloc ?_ _) | (with_reducible refine Kd.C_drewN ?_ _) | (with_reducible refine Kd.C_drew ?_))); (case side2 => exact (Kd.R_reads' HO211.out).2.1); rintro e w48 ⟨rfl, hb⟩; have n0_ := Aside0.mk (Kd.R_below (by (with_reducible repeat (first | apply Kd.R_alloc | apply Kd.R_drewN | apply Kd.R_drew)); exact HO_4.out) hb); have n1_ := Aside0.mk (Kd.R_below (by (with_reducible repeat (first | apply Kd.R_alloc | apply Kd.R_drewN | apply Kd.R_drew)); exact HO211.out) hb); have n2_ := Aside0.mk (below_step (by repeat (first | (with_reducible first | exact HB.out | apply below_alloc | apply pw_below_drewN | apply below_drew1) | exact HB.out)) hb); clear HO_4; clear HO211; clear HB; have HO_4 := n0_; have HO211 := n1_; have HB := n2_; clear n0_ n1_ n2_; (try clear hb); (try clear hb2); (try clear hk); (try clear hi))))
                    go_ret
                    exact ⟨by first | rfl | (simp [errW_none, errW_some] <;> rfl) | (simp [*, errW_none, errW_some] <;> rfl), by repeat (first | (with_reducible first | exact HB.out | apply below_alloc | apply pw_below_drewN | apply below_drew1) | exact HB.out)⟩
                · replace c33 := Bool.eq_false_iff.mpr c33
                  subst c33
                  have H1 : (some false) = some r := by rw [if_neg (show ¬ (false = true) by decide)] at H; exact H
                  clear H
                  have H := H1
                  clear H1
                  obtain rfl := Option.some.inj H
                  go_wp2_with (first | (go_at_call 14; (with_reducible refine (weigh_Rescale.calls k2 _ _ t204 t208 t209 _ ?side1 ?side2 A31.out).mono ?_); (case side1 => repeat (first | exact (Kd.R_reads' HO_4.out).2.2 | (with_reducible refine Kd.C_alloc ?_ _) | (with_reducible refine Kd.C_drewN ?_ _) | (with_reducible refine Kd.C_drew ?_))); (case side2 => exact (Kd.R_reads' HO_4.out).2.1); rintro e w49 ⟨v210, rfl, ho0, hb⟩; have n0_ := Aside0.mk (Kd.R_elder' (by (with_reducible repeat (first | apply Kd.R_alloc | apply Kd.R_drewN | apply Kd.R_drew)); exact HO_4.out) (Kd.R_base ho0) hb); have n1_ := Aside0.mk (Kd.R_lower (Kd.R_new' ho0 (Kd.R_lt (by (with_reducible repeat (first | apply Kd.R_alloc | apply Kd.R_drewN | apply Kd.R_drew)); exact HO_4.out))) (below_size (by repeat (first | (with_reducible first | exact HB.out | apply below_alloc | apply pw_below_drewN | apply below_drew1) | exact HB.out)))); have n2_ := Aside0.mk (below_step (by repeat (first | (with_reducible first | exact HB.out | apply below_alloc | apply pw_below_drewN | apply below_drew1) | exact HB.out)) hb); clear HO_4; clear HB; have HO_4 := n0_; have HO211 := n1_; have HB := n2_; clear n0_ n1_ n2_; (try clear hb); (try clear hb2); (try clear hk); (try clear hi); (try clear ho0); obtain ⟨Ao50, co50, eo50⟩ := Kd.R_slice HO211.out; subst eo50) | (go_at_call 16; (with_reducible refine (weigh_Heavy.calls _ _ t208 t212 _ ?side1 ?side2 A32.out).mono ?_); (case side1 => repeat (first | exact (Kd.R_reads' HO211.out).2.2 | (with_reducible refine Kd.C_alloc ?_ _) | (with_reducible refine Kd.C_drewN ?_ _) | (with_reducible refine Kd.C_drew ?_))); (case side2 => exact (Kd.R_reads' HO211.out).2.1); rintro e w51 ⟨rfl, hb⟩; have n0_ := Aside0.mk (Kd.R_below (by (with_reducible repeat (first | apply Kd.R_alloc | apply Kd.R_drewN | apply Kd.R_drew)); exact HO_4.out) hb); have n1_ := Aside0.mk (Kd.R_below (by (with_reducible repeat (first | apply Kd.R_alloc | apply Kd.R_drewN | apply Kd.R_drew)); exact HO211.out) hb); have n2_ := Aside0.mk (below_step (by repeat (first | (with_reducible first | exact HB.out | apply below_alloc | apply pw_below_drewN | apply below_drew1) | exact HB.out)) hb); clear HO_4; clear HO211; clear HB; have HO_4 := n0_; have HO211 := n1_; have HB := n2_; clear n0_ n1_ n2_; (try clear hb); (try clear hb2); (try clear hk); (try clear hi)))
                  repeat (go_quiet (first | (go_at_call 14; (with_reducible refine (weigh_Rescale.calls k2 _ _ t204 t208 t209 _ ?side1 ?side2 A31.out).mono ?_); (case side1 => repeat (first | exact (Kd.R_reads' HO_4.out).2.2 | (with_reducible refine Kd.C_alloc ?_ _) | (with_reducible refine Kd.C_drewN ?_ _) | (with_reducible refine Kd.C_drew ?_))); (case side2 => exact (Kd.R_reads' HO_4.out).2.1); rintro e w49 ⟨v210, rfl, ho0, hb⟩; have n0_ := Aside0.mk (Kd.R_elder' (by (with_reducible repeat (first | apply Kd.R_alloc | apply Kd.R_drewN | apply Kd.R_drew)); exact HO_4.out) (Kd.R_base ho0) hb); have n1_ := Aside0.mk (Kd.R_lower (Kd.R_new' ho0 (Kd.R_lt (by (with_reducible repeat (first | apply Kd.R_alloc | apply Kd.R_drewN | apply Kd.R_drew)); exact HO_4.out))) (below_size (by repeat (first | (with_reducible first | exact HB.out | apply below_alloc | apply pw_below_drewN | apply below_drew1) | exact HB.out)))); have n2_ := Aside0.mk (below_step (by repeat (first | (with_reducible first | exact HB.out | apply below_alloc | apply pw_below_drewN | apply below_drew1) | exact HB.out)) hb); clear HO_4; clear HB; have HO_4 := n0_; have HO211 := n1_; have HB := n2_; clear n0_ n1_ n2_; (try clear hb); (try clear hb2); (try clear hk); (try clear hi); (try clear ho0); obtain ⟨Ao50, co50, eo50⟩ := Kd.R_slice HO211.out; subst eo50) | (go_at_call 16; (with_reducible refine (weigh_Heavy.calls _ _ t208 t212 _ ?side1 ?side2 A32.out).mono ?_); (case side1 => repeat (first | exact (Kd.R_reads' HO211.out).2.2 | (with_reducible refine Kd.C_alloc ?_ _) | (with_reducible refine Kd.C_drewN ?_ _) | (with_reducible refine Kd.C_drew ?_))); (case side2 => exact (Kd.R_reads' HO211.out).2.1); rintro e w51 ⟨rfl, hb⟩; have n0_ := Aside0.mk (Kd.R_below (by (with_reducible repeat (first | apply Kd.R_alloc | apply Kd.R_drewN | apply Kd.R_drew)); exact HO_4.out) hb); have n1_ := Aside0.mk (Kd.R_below (by (with_reducible repeat (first | apply Kd.R_alloc | apply Kd.R_drewN | apply Kd.R_drew)); exact HO211.out) hb); have n2_ := Aside0.mk (below_step (by repeat (first | (with_reducible first | exact HB.out | apply below_alloc | apply pw_below_drewN | apply below_drew1) | exact HB.out)) hb); clear HO_4; clear HO211; clear HB; have HO_4 := n0_; have HO211 := n1_; have HB := n2_; clear n0_ n1_ n2_; (try clear hb); (try clear hb2); (try clear hk); (try clear hi))); try go_wp2_with (first | (go_at_call 14; (with_reducible refine (weigh_Rescale.calls k2 _ _ t204 t208 t209 _ ?side1 ?side2 A31.out).mono ?_); (case side1 => repeat (first | exact (Kd.R_reads' HO_4.out).2.2 | (with_reducible refine Kd.C_alloc ?_ _) | (with_reducible refine Kd.C_drewN ?_ _) | (with_reducible refine Kd.C_drew ?_))); (case side2 => exact (Kd.R_reads' HO_4.out).2.1); rintro e w49 ⟨v210, rfl, ho0, hb⟩; have n0_ := Aside0.mk (Kd.R_elder' (by (with_reducible repeat (first | apply Kd.R_alloc | apply Kd.R_drewN | apply Kd.R_drew)); exact HO_4.out) (Kd.R_base ho0) hb); have n1_ := Aside0.mk (Kd.R_lower (Kd.R_new' ho0 (Kd.R_lt (by (with_reducible repeat (first | apply Kd.R_alloc | apply Kd.R_drewN | apply Kd.R_drew)); exact HO_4.out))) (below_size (by repeat (first | (with_reducible first | exact HB.out | apply below_alloc | apply pw_below_drewN | apply below_drew1) | exact HB.out)))); have n2_ := Aside0.mk (below_step (by repeat (first | (with_reducible first | exact HB.out | apply below_alloc | apply pw_below_drewN | apply below_drew1) | exact HB.out)) hb); clear HO_4; clear HB; have HO_4 := n0_; have HO211 := n1_; have HB := n2_; clear n0_ n1_ n2_; (try clear hb); (try clear hb2); (try clear hk); (try clear hi); (try clear ho0); obtain ⟨Ao50, co50, eo50⟩ := Kd.R_slice HO211.out; subst eo50) | (go_at_call 16; (with_reducible refine (weigh_Heavy.calls _ _ t208 t212 _ ?side1 ?side2 A32.out).mono ?_); (case side1 => repeat (first | exact (Kd.R_reads' HO211.out).2.2 | (with_reducible refine Kd.C_alloc ?_ _) | (with_reducible refine Kd.C_drewN ?_ _) | (with_reducible refine Kd.C_drew ?_))); (case side2 => exact (Kd.R_reads' HO211.out).2.1); rintro e w51 ⟨rfl, hb⟩; have n0_ := Aside0.mk (Kd.R_below (by (with_reducible repeat (first | apply Kd.R_alloc | apply Kd.R_drewN | apply Kd.R_drew)); exact HO_4.out) hb); have n1_ := Aside0.mk (Kd.R_below (by (with_reducible repeat (first | apply Kd.R_alloc | apply Kd.R_drewN | apply Kd.R_drew)); exact HO211.out) hb); have n2_ := Aside0.mk (below_step (by repeat (first | (with_reducible first | exact HB.out | apply below_alloc | apply pw_below_drewN | apply below_drew1) | exact HB.out)) hb); clear HO_4; clear HO211; clear HB; have HO_4 := n0_; have HO211 := n1_; have HB := n2_; clear n0_ n1_ n2_; (try clear hb); (try clear hb2); (try clear hk); (try clear hi))))
                  go_ret
                  exact ⟨by first | rfl | (simp [errW_none, errW_some] <;> rfl) | (simp [*, errW_none, errW_some] <;> rfl), by repeat (first | (with_reducible first | exact HB.out | apply below_alloc | apply pw_below_drewN | apply below_drew1) | exact HB.out)⟩

/-- THE ONE PURE STATEMENT of ashlarlaw02_WeighHeavy: yours. -/
def ashlarlaw02_WeighHeavy.Pure : Prop := ∀ (l0 : List Int), l0.length ≤ maxLen → l0.length * 8 ≤ 140737488351232 → (∀ x ∈ l0, (Lit.int .u64 x).wf = true) → ∃ k, ashlarlaw02_WeighHeavy.f k l0 = some true
theorem ashlarlaw02_WeighHeavy.walk (P : ashlarlaw02_WeighHeavy.Pure) (a0 : Option Addr) (len0 cap0 : Nat) (z0 : List Int) (w : World) (w0 : (a0 = none ∧ len0 = 0 ∧ cap0 = 0 ∧ z0 = []) ∨ ∃ x, a0 = some x ∧ len0 ≤ cap0 ∧ cap0 ≤ maxLen ∧ z0.length = cap0 ∧ (∀ i, i < z0.length → w.cell? (x.add i) = some (.int .u64 (z0.getD i 0))) ∧ ∀ n ∈ z0, (Lit.int .u64 n).wf = true) (y0 : len0 * 8 ≤ 140737488351232) :
    Calls Try.prog 5 #[.slice a0 len0 cap0] w fun e w' => e = .returned (.bool true) ∧ Below w.heap.size w w' := by
  obtain ⟨l0, rfl, hr0, hm0, hw0, hc0⟩ := ReadsInt.ofRowC w0
  obtain ⟨k, h⟩ := P l0 hm0 y0 hw0
  refine (ashlarlaw02_WeighHeavy.calls k _ _ l0 true w (Kd.C_of_reads (d := (0 : Int)) (h1 := fun _ => rfl) hr0) hc0 h).mono ?_
  rintro e w' ⟨rfl, hd⟩
  exact ⟨rfl, hd⟩

end Go.Proofs.Ytglpafflpcgnpaa.Q
