/- written by a program of this session (wip/tools/printx.py, over the kit's printing program) out of the translation -/
import Derived.Test.YtglpafflpcgnpaaQx0
import Derived.Test.YtglpafflpcgnpaaQx1
import Derived.Test.YtglpafflpcgnpaaQx2
import Derived.Test.YtglpafflpcgnpaaQx3
import Derived.Test.YtglpafflpcgnpaaQx8
namespace Go.Proofs.Ytglpafflpcgnpaa.Q
open Go.RowKit Go.Proofs.YtglpafflpcgnpaaW.PrintWords Go.Proofs.YtglpafflpcgnpaaW.PrintLast Go.Proofs.YtglpafflpcgnpaaW.PrintMore
attribute [local go_sem] max2_int min2_int max_two min_two max_three min_three max_four min_four   -- for this text's walks alone
set_option linter.unusedVariables false
set_option linter.unusedSimpArgs false

/-! ### ashlarlaw02_WeighFinite: function 10 -/
mutual
def ashlarlaw02_WeighFinite.j0 : Nat → List Int → Bool → Nat → Nat → Nat → Nat → Bool → Option (Bool)
  | 0, _, _, _, _, _, _, _ => none
  | k + 1, x2, x7, x9, x10, x11, x12, x49 => if x49 = true then (some false) else (if fGt x9 0 = true then (if fLt x10 x12 = true then (ashlarlaw02_WeighFinite.j1 k x2 x7 x9 x11 true) else (if fLt x9 0 = true then (ashlarlaw02_WeighFinite.j1 k x2 x7 x9 x11 (fGt x10 x12)) else (ashlarlaw02_WeighFinite.j1 k x2 x7 x9 x11 false))) else (if fLt x9 0 = true then (ashlarlaw02_WeighFinite.j1 k x2 x7 x9 x11 (fGt x10 x12)) else (ashlarlaw02_WeighFinite.j1 k x2 x7 x9 x11 false)))
def ashlarlaw02_WeighFinite.j1 : Nat → List Int → Bool → Nat → Nat → Bool → Option (Bool)
  | 0, _, _, _, _, _ => none
  | k + 1, x2, x7, x9, x11, x65 => if x65 = true then (some false) else ((ashlarlaw02_floats.f k x2).bind fun t326 => ((weigh_Rescale.f k t326).bind fun bt329 => (ashlarlaw02_WeighFinite.l0 k x7 x9 x11 bt329.1 bt329.2 0)))
def ashlarlaw02_WeighFinite.l0 : Nat → Bool → Nat → Nat → List Nat → Bool → Int → Option (Bool)
  | 0, _, _, _, _, _, _ => none
  | k + 1, x7, x9, x11, x13, x14, x15 => if x15 < (x13.length : Int) then (if 0 ≤ x15 then ((ashlarlaw02_finite.f (rdOf (0 : Nat) x13 x15)).bind fun t341 => (if t341 = true then (if x14 = true then ((math_Abs.f (rdOf (0 : Nat) x13 x15)).bind fun t343 => (if fGt t343 7748537163665533883 = true then (some false) else (ashlarlaw02_WeighFinite.l0 k x7 x9 x11 x13 x14 (wrap64 (x15 + 1))))) else ((math_Abs.f (rdOf (0 : Nat) x13 x15)).bind fun t345 => (if fGt t345 6103021453049119613 = true then (some false) else (ashlarlaw02_WeighFinite.l0 k x7 x9 x11 x13 x14 (wrap64 (x15 + 1)))))) else (some false))) else (none)) else ((weigh_Rescale.f k x13).bind fun bt333 => (if x7 = true then (if x14 = true then (if fLe x9 0 = true then (some true) else ((weigh_Tame.f x9).bind fun t337 => (some (fGe x11 t337)))) else (if bt333.2 = true then (some false) else ((ashlarlaw02_rows.f k bt333.1 x13).bind fun t338 => (if t338 = true then (if fLe x9 0 = true then (some true) else ((weigh_Tame.f x9).bind fun t339 => (some (fGe x11 t339)))) else (some false))))) else (some false)))
end
def ashlarlaw02_WeighFinite.f (k : Nat) (a0 : Int) (a1 : Int) (l2 : List Int) : Option (Bool) := (ashlarlaw02_shown.f k).bind fun t317 => ((weigh_Bump.f a0.toNat a1.toNat).bind fun t318 => ((weigh_Decay.f a1.toNat).bind fun t319 => ((weigh_Tame.f a0.toNat).bind fun t320 => ((ashlarlaw02_finite.f t318).bind fun t321 => (if t321 = true then ((ashlarlaw02_finite.f t319).bind fun t322 => (if t322 = true then ((ashlarlaw02_finite.f t320).bind fun t323 => (if t323 = true then ((weigh_Tame.f t320).bind fun t324 => ((ashlarlaw02_same.f t324 t320).bind fun t325 => (ashlarlaw02_WeighFinite.j0 k l2 t317 a1.toNat t318 t319 t320 (!t325)))) else (ashlarlaw02_WeighFinite.j0 k l2 t317 a1.toNat t318 t319 t320 true))) else (ashlarlaw02_WeighFinite.j0 k l2 t317 a1.toNat t318 t319 t320 true))) else (ashlarlaw02_WeighFinite.j0 k l2 t317 a1.toNat t318 t319 t320 true))))))
theorem ashlarlaw02_WeighFinite.mono_l : ∀ k, (∀ y0 y1 y2 y3 y4 y5 y6, LeO (ashlarlaw02_WeighFinite.j0 k y0 y1 y2 y3 y4 y5 y6) (ashlarlaw02_WeighFinite.j0 (k + 1) y0 y1 y2 y3 y4 y5 y6)) ∧ (∀ y0 y1 y2 y3 y4, LeO (ashlarlaw02_WeighFinite.j1 k y0 y1 y2 y3 y4) (ashlarlaw02_WeighFinite.j1 (k + 1) y0 y1 y2 y3 y4)) ∧ (∀ y0 y1 y2 y3 y4 y5, LeO (ashlarlaw02_WeighFinite.l0 k y0 y1 y2 y3 y4 y5) (ashlarlaw02_WeighFinite.l0 (k + 1) y0 y1 y2 y3 y4 y5))
  | 0 => ⟨fun _ _ _ _ _ _ _ r h => by simp [ashlarlaw02_WeighFinite.j0] at h, fun _ _ _ _ _ r h => by simp [ashlarlaw02_WeighFinite.j1] at h, fun _ _ _ _ _ _ r h => by simp [ashlarlaw02_WeighFinite.l0] at h⟩
  | k + 1 => by
    obtain ⟨ih0, ih1, ih2⟩ := ashlarlaw02_WeighFinite.mono_l k
    refine ⟨?_, ?_, ?_⟩
    · intro y0 y1 y2 y3 y4 y5 y6
      unfold ashlarlaw02_WeighFinite.j0
      repeat' first
      | (with_reducible exact ih0 _ _ _ _ _ _ _)
      | (with_reducible exact ih1 _ _ _ _ _)
      | (with_reducible exact ih2 _ _ _ _ _ _)
      | (with_reducible exact ashlarlaw02_floats.mono _ _)
      | (with_reducible exact ashlarlaw02_rows.mono _ _ _)
      | (with_reducible exact ashlarlaw02_shown.mono _)
      | (with_reducible exact weigh_Rescale.mono _ _)
      | (with_reducible exact LeO.refl _)
      | (with_reducible exact LeO.none _)
      | (with_reducible refine LeO.ite ?_ ?_)
      | (with_reducible refine LeO.bind ?_ (fun _ => ?_))
      | exact ih0 _ _ _ _ _ _ _
      | exact ih1 _ _ _ _ _
      | exact ih2 _ _ _ _ _ _
      | exact ashlarlaw02_floats.mono _ _
      | exact ashlarlaw02_rows.mono _ _ _
      | exact ashlarlaw02_shown.mono _
      | exact weigh_Rescale.mono _ _
      | exact LeO.none _
      | refine LeO.ite ?_ ?_
      | refine LeO.bind ?_ (fun _ => ?_)
    · intro y0 y1 y2 y3 y4
      unfold ashlarlaw02_WeighFinite.j1
      repeat' first
      | (with_reducible exact ih0 _ _ _ _ _ _ _)
      | (with_reducible exact ih1 _ _ _ _ _)
      | (with_reducible exact ih2 _ _ _ _ _ _)
      | (with_reducible exact ashlarlaw02_floats.mono _ _)
      | (with_reducible exact ashlarlaw02_rows.mono _ _ _)
      | (with_reducible exact ashlarlaw02_shown.mono _)
      | (with_reducible exact weigh_Rescale.mono _ _)
      | (with_reducible exact LeO.refl _)
      | (with_reducible exact LeO.none _)
      | (with_reducible refine LeO.ite ?_ ?_)
      | (with_reducible refine LeO.bind ?_ (fun _ => ?_))
      | exact ih0 _ _ _ _ _ _ _
      | exact ih1 _ _ _ _ _
      | exact ih2 _ _ _ _ _ _
      | exact ashlarlaw02_floats.mono _ _
      | exact ashlarlaw02_rows.mono _ _ _
      | exact ashlarlaw02_shown.mono _
      | exact weigh_Rescale.mono _ _
      | exact LeO.none _
      | refine LeO.ite ?_ ?_
      | refine LeO.bind ?_ (fun _ => ?_)
    · intro y0 y1 y2 y3 y4 y5
      unfold ashlarlaw02_WeighFinite.l0
      repeat' first
      | (with_reducible exact ih0 _ _ _ _ _ _ _)
      | (with_reducible exact ih1 _ _ _ _ _)
      | (with_reducible exact ih2 _ _ _ _ _ _)
      | (with_reducible exact ashlarlaw02_floats.mono _ _)
      | (with_reducible exact ashlarlaw02_rows.mono _ _ _)
      | (with_reducible exact ashlarlaw02_shown.mono _)
      | (with_reducible exact weigh_Rescale.mono _ _)
      | (with_reducible exact LeO.refl _)
      | (with_reducible exact LeO.none _)
      | (with_reducible refine LeO.ite ?_ ?_)
      | (with_reducible refine LeO.bind ?_ (fun _ => ?_))
      | exact ih0 _ _ _ _ _ _ _
      | exact ih1 _ _ _ _ _
      | exact ih2 _ _ _ _ _ _
      | exact ashlarlaw02_floats.mono _ _
      | exact ashlarlaw02_rows.mono _ _ _
      | exact ashlarlaw02_shown.mono _
      | exact weigh_Rescale.mono _ _
      | exact LeO.none _
      | refine LeO.ite ?_ ?_
      | refine LeO.bind ?_ (fun _ => ?_)
theorem ashlarlaw02_WeighFinite.mono : ∀ a0 a1 a2 k, LeO (ashlarlaw02_WeighFinite.f k a0 a1 a2) (ashlarlaw02_WeighFinite.f (k + 1) a0 a1 a2) := by
  intro a0 a1 a2 k
  obtain ⟨ih0, ih1, ih2⟩ := ashlarlaw02_WeighFinite.mono_l k
  unfold ashlarlaw02_WeighFinite.f
  repeat' first
      | (with_reducible exact ih0 _ _ _ _ _ _ _)
      | (with_reducible exact ih1 _ _ _ _ _)
      | (with_reducible exact ih2 _ _ _ _ _ _)
      | (with_reducible exact ashlarlaw02_floats.mono _ _)
      | (with_reducible exact ashlarlaw02_rows.mono _ _ _)
      | (with_reducible exact ashlarlaw02_shown.mono _)
      | (with_reducible exact weigh_Rescale.mono _ _)
      | (with_reducible exact LeO.refl _)
      | (with_reducible exact LeO.none _)
      | (with_reducible refine LeO.ite ?_ ?_)
      | (with_reducible refine LeO.bind ?_ (fun _ => ?_))
      | exact ih0 _ _ _ _ _ _ _
      | exact ih1 _ _ _ _ _
      | exact ih2 _ _ _ _ _ _
      | exact ashlarlaw02_floats.mono _ _
      | exact ashlarlaw02_rows.mono _ _ _
      | exact ashlarlaw02_shown.mono _
      | exact weigh_Rescale.mono _ _
      | exact LeO.none _
      | refine LeO.ite ?_ ?_
      | refine LeO.bind ?_ (fun _ => ?_)
set_option maxHeartbeats 8000000 in
set_option maxRecDepth 100000 in
theorem ashlarlaw02_WeighFinite.calls (k : Nat) (a0 : Int) (a1 : Int) (A2 : Option Addr) (c2 : Nat) (l2 : List Int) (r : Bool) (w : World) (hr2 : Kd.C (Kd.int .u64) w A2 l2.length l2) (hc2 : l2.length ≤ c2) (h : ashlarlaw02_WeighFinite.f k a0 a1 l2 = some r) :
    Calls Try.prog 10 #[.int .u64 a0, .int .u64 a1, .slice A2 l2.length c2] w fun e w' => e = .returned (.bool r) ∧ Below w.heap.size w w' := by
  have HR2 := Aside0.mk hr2
  have HC2 := Aside0.mk hc2
  clear hr2 hc2
  have HB := Aside0.mk (Below.refl w.heap.size w)
  have H : ((ashlarlaw02_shown.f k).bind fun t317 => ((weigh_Bump.f a0.toNat a1.toNat).bind fun t318 => ((weigh_Decay.f a1.toNat).bind fun t319 => ((weigh_Tame.f a0.toNat).bind fun t320 => ((ashlarlaw02_finite.f t318).bind fun t321 => (if t321 = true then ((ashlarlaw02_finite.f t319).bind fun t322 => (if t322 = true then ((ashlarlaw02_finite.f t320).bind fun t323 => (if t323 = true then ((weigh_Tame.f t320).bind fun t324 => ((ashlarlaw02_same.f t324 t320).bind fun t325 => (ashlarlaw02_WeighFinite.j0 k l2 t317 a1.toNat t318 t319 t320 (!t325)))) else (ashlarlaw02_WeighFinite.j0 k l2 t317 a1.toNat t318 t319 t320 true))) else (ashlarlaw02_WeighFinite.j0 k l2 t317 a1.toNat t318 t319 t320 true))) else (ashlarlaw02_WeighFinite.j0 k l2 t317 a1.toNat t318 t319 t320 true))))))) = some r := h
  clear h
  replace H := Option.bind_eq_some_iff.mp H
  obtain ⟨t317, A40, H⟩ := H
  replace H : ((weigh_Bump.f a0.toNat a1.toNat).bind fun t318 => ((weigh_Decay.f a1.toNat).bind fun t319 => ((weigh_Tame.f a0.toNat).bind fun t320 => ((ashlarlaw02_finite.f t318).bind fun t321 => (if t321 = true then ((ashlarlaw02_finite.f t319).bind fun t322 => (if t322 = true then ((ashlarlaw02_finite.f t320).bind fun t323 => (if t323 = true then ((weigh_Tame.f t320).bind fun t324 => ((ashlarlaw02_same.f t324 t320).bind fun t325 => (ashlarlaw02_WeighFinite.j0 k l2 t317 a1.toNat t318 t319 t320 (!t325)))) else (ashlarlaw02_WeighFinite.j0 k l2 t317 a1.toNat t318 t319 t320 true))) else (ashlarlaw02_WeighFinite.j0 k l2 t317 a1.toNat t318 t319 t320 true))) else (ashlarlaw02_WeighFinite.j0 k l2 t317 a1.toNat t318 t319 t320 true)))))) = some r := H
  have A4 := Aside0.mk A40
  clear A40
  replace H := Option.bind_eq_some_iff.mp H
  obtain ⟨t318, A50, H⟩ := H
  replace H : ((weigh_Decay.f a1.toNat).bind fun t319 => ((weigh_Tame.f a0.toNat).bind fun t320 => ((ashlarlaw02_finite.f t318).bind fun t321 => (if t321 = true then ((ashlarlaw02_finite.f t319).bind fun t322 => (if t322 = true then ((ashlarlaw02_finite.f t320).bind fun t323 => (if t323 = true then ((weigh_Tame.f t320).bind fun t324 => ((ashlarlaw02_same.f t324 t320).bind fun t325 => (ashlarlaw02_WeighFinite.j0 k l2 t317 a1.toNat t318 t319 t320 (!t325)))) else (ashlarlaw02_WeighFinite.j0 k l2 t317 a1.toNat t318 t319 t320 true))) else (ashlarlaw02_WeighFinite.j0 k l2 t317 a1.toNat t318 t319 t320 true))) else (ashlarlaw02_WeighFinite.j0 k l2 t317 a1.toNat t318 t319 t320 true))))) = some r := H
  have A5 := Aside0.mk A50
  clear A50
  replace H := Option.bind_eq_some_iff.mp H
  obtain ⟨t319, A60, H⟩ := H
  replace H : ((weigh_Tame.f a0.toNat).bind fun t320 => ((ashlarlaw02_finite.f t318).bind fun t321 => (if t321 = true then ((ashlarlaw02_finite.f t319).bind fun t322 => (if t322 = true then ((ashlarlaw02_finite.f t320).bind fun t323 => (if t323 = true then ((weigh_Tame.f t320).bind fun t324 => ((ashlarlaw02_same.f t324 t320).bind fun t325 => (ashlarlaw02_WeighFinite.j0 k l2 t317 a1.toNat t318 t319 t320 (!t325)))) else (ashlarlaw02_WeighFinite.j0 k l2 t317 a1.toNat t318 t319 t320 true))) else (ashlarlaw02_WeighFinite.j0 k l2 t317 a1.toNat t318 t319 t320 true))) else (ashlarlaw02_WeighFinite.j0 k l2 t317 a1.toNat t318 t319 t320 true)))) = some r := H
  have A6 := Aside0.mk A60
  clear A60
  replace H := Option.bind_eq_some_iff.mp H
  obtain ⟨t320, A70, H⟩ := H
  replace H : ((ashlarlaw02_finite.f t318).bind fun t321 => (if t321 = true then ((ashlarlaw02_finite.f t319).bind fun t322 => (if t322 = true then ((ashlarlaw02_finite.f t320).bind fun t323 => (if t323 = true then ((weigh_Tame.f t320).bind fun t324 => ((ashlarlaw02_same.f t324 t320).bind fun t325 => (ashlarlaw02_WeighFinite.j0 k l2 t317 a1.toNat t318 t319 t320 (!t325)))) else (ashlarlaw02_WeighFinite.j0 k l2 t317 a1.toNat t318 t319 t320 true))) else (ashlarlaw02_WeighFinite.j0 k l2 t317 a1.toNat t318 t319 t320 true))) else (ashlarlaw02_WeighFinite.j0 k l2 t317 a1.toNat t318 t319 t320 true))) = some r := H
  have A7 := Aside0.mk A70
  clear A70
  have HC8 := Aside0.mk H
  clear H
  go_enter Try.func10, Try.ntmps10
  go_upto_region 7 with (first | ((with_reducible refine gate_callee (f := 12) rfl ?_); refine goesL_ (some 18) rfl rfl Try.func12 (by kernel_rfl) rfl #[] rfl (by (try simp only [List.map_toArray, List.map_cons, List.map_nil]); first | done | rfl | (simp only [List.length_drop, List.length_take]; rfl)) ?_; (with_reducible refine (ashlarlaw02_shown.calls k  t317 _ A4.out).mono ?_); rintro e w9 ⟨rfl, hb⟩; refine ⟨_, rfl, ?_⟩; have n0_ := Aside0.mk (below_step (by repeat (first | (with_reducible first | exact HB.out | apply below_alloc | apply pw_below_drewN | apply below_drew1) | exact HB.out)) hb); clear HB; have HB := n0_; clear n0_; (try clear hb); (try clear hb2); (try clear hk); (try clear hi)) | ((with_reducible refine gate_callee (f := 23) rfl ?_); refine goesL_ (some 25) rfl rfl Try.func23 (by kernel_rfl) rfl #[.float .f64 a0.toNat, .float .f64 a1.toNat] rfl (by (try simp only [List.map_toArray, List.map_cons, List.map_nil]); first | done | rfl | (simp only [List.length_drop, List.length_take]; rfl)) ?_; (with_reducible refine (weigh_Bump.calls a0.toNat a1.toNat t318 _ A5.out).mono ?_); rintro e w' ⟨rfl, ⟨nd, rfl⟩⟩; refine ⟨_, rfl, ?_⟩) | ((with_reducible refine gate_callee (f := 29) rfl ?_); refine goesL_ (some 27) rfl rfl Try.func29 (by kernel_rfl) rfl #[.float .f64 a1.toNat] rfl (by (try simp only [List.map_toArray, List.map_cons, List.map_nil]); first | done | rfl | (simp only [List.length_drop, List.length_take]; rfl)) ?_; (with_reducible refine (weigh_Decay.calls a1.toNat t319 _ A6.out).mono ?_); rintro e w' ⟨rfl, ⟨nd, rfl⟩⟩; refine ⟨_, rfl, ?_⟩) | ((with_reducible refine gate_callee (f := 22) rfl ?_); refine goesL_ (some 29) rfl rfl Try.func22 (by kernel_rfl) rfl #[.float .f64 a0.toNat] rfl (by (try simp only [List.map_toArray, List.map_cons, List.map_nil]); first | done | rfl | (simp only [List.length_drop, List.length_take]; rfl)) ?_; (with_reducible refine (weigh_Tame.calls a0.toNat t320 _ A7.out).mono ?_); rintro e w' ⟨rfl, ⟨nd, rfl⟩⟩; refine ⟨_, rfl, ?_⟩))
  (try simp only [Act.put, List.setIfInBounds_toArray, List.set_cons_zero, List.set_cons_succ])
  go_cut [49] (fun v49 wc => ∃ (kq : Nat) (x49_7 : Bool), v49 = .bool x49_7 ∧ Aside0 (ashlarlaw02_WeighFinite.j0 kq l2 t317 a1.toNat t318 t319 t320 x49_7 = some r) ∧ Aside0 (kq ≤ k) ∧ Aside0 (Below w.heap.size w wc))
  case first =>
    have H := HC8.out
    clear HC8
    replace H := Option.bind_eq_some_iff.mp H
    obtain ⟨t321, A100, H⟩ := H
    replace H : (if t321 = true then ((ashlarlaw02_finite.f t319).bind fun t322 => (if t322 = true then ((ashlarlaw02_finite.f t320).bind fun t323 => (if t323 = true then ((weigh_Tame.f t320).bind fun t324 => ((ashlarlaw02_same.f t324 t320).bind fun t325 => (ashlarlaw02_WeighFinite.j0 k l2 t317 a1.toNat t318 t319 t320 (!t325)))) else (ashlarlaw02_WeighFinite.j0 k l2 t317 a1.toNat t318 t319 t320 true))) else (ashlarlaw02_WeighFinite.j0 k l2 t317 a1.toNat t318 t319 t320 true))) else (ashlarlaw02_WeighFinite.j0 k l2 t317 a1.toNat t318 t319 t320 true)) = some r := H
    have A10 := Aside0.mk A100
    clear A100
    by_cases c11 : t321 = true
    · subst c11
      have H1 : ((ashlarlaw02_finite.f t319).bind fun t322 => (if t322 = true then ((ashlarlaw02_finite.f t320).bind fun t323 => (if t323 = true then ((weigh_Tame.f t320).bind fun t324 => ((ashlarlaw02_same.f t324 t320).bind fun t325 => (ashlarlaw02_WeighFinite.j0 k l2 t317 a1.toNat t318 t319 t320 (!t325)))) else (ashlarlaw02_WeighFinite.j0 k l2 t317 a1.toNat t318 t319 t320 true))) else (ashlarlaw02_WeighFinite.j0 k l2 t317 a1.toNat t318 t319 t320 true))) = some r := by rw [if_pos rfl] at H; exact H
      clear H
      have H := H1
      clear H1
      replace H := Option.bind_eq_some_iff.mp H
      obtain ⟨t322, A120, H⟩ := H
      replace H : (if t322 = true then ((ashlarlaw02_finite.f t320).bind fun t323 => (if t323 = true then ((weigh_Tame.f t320).bind fun t324 => ((ashlarlaw02_same.f t324 t320).bind fun t325 => (ashlarlaw02_WeighFinite.j0 k l2 t317 a1.toNat t318 t319 t320 (!t325)))) else (ashlarlaw02_WeighFinite.j0 k l2 t317 a1.toNat t318 t319 t320 true))) else (ashlarlaw02_WeighFinite.j0 k l2 t317 a1.toNat t318 t319 t320 true)) = some r := H
      have A12 := Aside0.mk A120
      clear A120
      by_cases c13 : t322 = true
      · subst c13
        have H1 : ((ashlarlaw02_finite.f t320).bind fun t323 => (if t323 = true then ((weigh_Tame.f t320).bind fun t324 => ((ashlarlaw02_same.f t324 t320).bind fun t325 => (ashlarlaw02_WeighFinite.j0 k l2 t317 a1.toNat t318 t319 t320 (!t325)))) else (ashlarlaw02_WeighFinite.j0 k l2 t317 a1.toNat t318 t319 t320 true))) = some r := by rw [if_pos rfl] at H; exact H
        clear H
        have H := H1
        clear H1
        replace H := Option.bind_eq_some_iff.mp H
        obtain ⟨t323, A140, H⟩ := H
        replace H : (if t323 = true then ((weigh_Tame.f t320).bind fun t324 => ((ashlarlaw02_same.f t324 t320).bind fun t325 => (ashlarlaw02_WeighFinite.j0 k l2 t317 a1.toNat t318 t319 t320 (!t325)))) else (ashlarlaw02_WeighFinite.j0 k l2 t317 a1.toNat t318 t319 t320 true)) = some r := H
        have A14 := Aside0.mk A140
        clear A140
        by_cases c15 : t323 = true
        · subst c15
          have H1 : ((weigh_Tame.f t320).bind fun t324 => ((ashlarlaw02_same.f t324 t320).bind fun t325 => (ashlarlaw02_WeighFinite.j0 k l2 t317 a1.toNat t318 t319 t320 (!t325)))) = some r := by rw [if_pos rfl] at H; exact H
          clear H
          have H := H1
          clear H1
          replace H := Option.bind_eq_some_iff.mp H
          obtain ⟨t324, A160, H⟩ := H
          replace H : ((ashlarlaw02_same.f t324 t320).bind fun t325 => (ashlarlaw02_WeighFinite.j0 k l2 t317 a1.toNat t318 t319 t320 (!t325))) = some r := H
          have A16 := Aside0.mk A160
          clear A160
          replace H := Option.bind_eq_some_iff.mp H
          obtain ⟨t325, A170, H⟩ := H
          replace H : (ashlarlaw02_WeighFinite.j0 k l2 t317 a1.toNat t318 t319 t320 (!t325)) = some r := H
          have A17 := Aside0.mk A170
          clear A170
          have H' := Aside0.mk H
          clear H
          go_wp2_with (first | ((with_reducible refine gate_callee (f := 31) rfl ?_); refine goesL_ (some 31) rfl rfl Try.func31 (by kernel_rfl) rfl #[.float .f64 t318] rfl (by (try simp only [List.map_toArray, List.map_cons, List.map_nil]); first | done | rfl | (simp only [List.length_drop, List.length_take]; rfl)) ?_; (with_reducible refine (ashlarlaw02_finite.calls t318 true _ A10.out).mono ?_); rintro e w' ⟨rfl, ⟨nd, rfl⟩⟩; refine ⟨_, rfl, ?_⟩) | (go_at_call 31; (with_reducible refine (ashlarlaw02_finite.calls t319 true _ A12.out).mono ?_); rintro e w' ⟨rfl, ⟨nd, rfl⟩⟩) | (go_at_call 31; (with_reducible refine (ashlarlaw02_finite.calls t320 true _ A14.out).mono ?_); rintro e w' ⟨rfl, ⟨nd, rfl⟩⟩) | (go_at_call 22; (with_reducible refine (weigh_Tame.calls t320 t324 _ A16.out).mono ?_); rintro e w' ⟨rfl, ⟨nd, rfl⟩⟩) | (go_at_call 18; (with_reducible refine (ashlarlaw02_same.calls t324 t320 t325 _ A17.out).mono ?_); rintro e w' ⟨rfl, ⟨nd, rfl⟩⟩))
          go_meet
          case rel => exact ⟨_, (!t325), (by first | rfl | (simp; done) | (simp [*]; done)), H', ⟨by first | omega | exact Nat.le_refl _⟩, ⟨by repeat (first | (with_reducible first | exact HB.out | apply below_alloc | apply pw_below_drewN | apply below_drew1) | exact HB.out)⟩⟩
        · replace c15 := Bool.eq_false_iff.mpr c15
          subst c15
          have H1 : (ashlarlaw02_WeighFinite.j0 k l2 t317 a1.toNat t318 t319 t320 true) = some r := by rw [if_neg (show ¬ (false = true) by decide)] at H; exact H
          clear H
          have H := H1
          clear H1
          have H' := Aside0.mk H
          clear H
          go_wp2_with (first | ((with_reducible refine gate_callee (f := 31) rfl ?_); refine goesL_ (some 31) rfl rfl Try.func31 (by kernel_rfl) rfl #[.float .f64 t318] rfl (by (try simp only [List.map_toArray, List.map_cons, List.map_nil]); first | done | rfl | (simp only [List.length_drop, List.length_take]; rfl)) ?_; (with_reducible refine (ashlarlaw02_finite.calls t318 true _ A10.out).mono ?_); rintro e w' ⟨rfl, ⟨nd, rfl⟩⟩; refine ⟨_, rfl, ?_⟩) | (go_at_call 31; (with_reducible refine (ashlarlaw02_finite.calls t319 true _ A12.out).mono ?_); rintro e w' ⟨rfl, ⟨nd, rfl⟩⟩) | (go_at_call 31; (with_reducible refine (ashlarlaw02_finite.calls t320 false _ A14.out).mono ?_); rintro e w' ⟨rfl, ⟨nd, rfl⟩⟩))
          go_meet
          case rel => exact ⟨_, (true), (by first | rfl | (simp; done) | (simp [*]; done)), H', ⟨by first | omega | exact Nat.le_refl _⟩, ⟨by repeat (first | (with_reducible first | exact HB.out | apply below_alloc | apply pw_below_drewN | apply below_drew1) | exact HB.out)⟩⟩
      · replace c13 := Bool.eq_false_iff.mpr c13
        subst c13
        have H1 : (ashlarlaw02_WeighFinite.j0 k l2 t317 a1.toNat t318 t319 t320 true) = some r := by rw [if_neg (show ¬ (false = true) by decide)] at H; exact H
        clear H
        have H := H1
        clear H1
        have H' := Aside0.mk H
        clear H
        go_wp2_with (first | ((with_reducible refine gate_callee (f := 31) rfl ?_); refine goesL_ (some 31) rfl rfl Try.func31 (by kernel_rfl) rfl #[.float .f64 t318] rfl (by (try simp only [List.map_toArray, List.map_cons, List.map_nil]); first | done | rfl | (simp only [List.length_drop, List.length_take]; rfl)) ?_; (with_reducible refine (ashlarlaw02_finite.calls t318 true _ A10.out).mono ?_); rintro e w' ⟨rfl, ⟨nd, rfl⟩⟩; refine ⟨_, rfl, ?_⟩) | (go_at_call 31; (with_reducible refine (ashlarlaw02_finite.calls t319 false _ A12.out).mono ?_); rintro e w' ⟨rfl, ⟨nd, rfl⟩⟩))
        go_meet
        case rel => exact ⟨_, (true), (by first | rfl | (simp; done) | (simp [*]; done)), H', ⟨by first | omega | exact Nat.le_refl _⟩, ⟨by repeat (first | (with_reducible first | exact HB.out | apply below_alloc | apply pw_below_drewN | apply below_drew1) | exact HB.out)⟩⟩
    · replace c11 := Bool.eq_false_iff.mpr c11
      subst c11
      have H1 : (ashlarlaw02_WeighFinite.j0 k l2 t317 a1.toNat t318 t319 t320 true) = some r := by rw [if_neg (show ¬ (false = true) by decide)] at H; exact H
      clear H
      have H := H1
      clear H1
      have H' := Aside0.mk H
      clear H
      go_wp2_with (first | ((with_reducible refine gate_callee (f := 31) rfl ?_); refine goesL_ (some 31) rfl rfl Try.func31 (by kernel_rfl) rfl #[.float .f64 t318] rfl (by (try simp only [List.map_toArray, List.map_cons, List.map_nil]); first | done | rfl | (simp only [List.length_drop, List.length_take]; rfl)) ?_; (with_reducible refine (ashlarlaw02_finite.calls t318 false _ A10.out).mono ?_); rintro e w' ⟨rfl, ⟨nd, rfl⟩⟩; refine ⟨_, rfl, ?_⟩))
      go_meet
      case rel => exact ⟨_, (true), (by first | rfl | (simp; done) | (simp [*]; done)), H', ⟨by first | omega | exact Nat.le_refl _⟩, ⟨by repeat (first | (with_reducible first | exact HB.out | apply below_alloc | apply pw_below_drewN | apply below_drew1) | exact HB.out)⟩⟩
  case rest =>
    clear HC8
    try clear c1
    try clear c2
    try clear p2
    try clear c3
    try clear c10
    try clear c11
    try clear c12
    try clear c13
    try clear c15
    obtain ⟨kq, x49_7, rfl, HA, HJ7, HB⟩ := hcut
    cases kq with
    | zero => exact absurd HA.out (by simp [ashlarlaw02_WeighFinite.j0])
    | succ kj7 =>
      have H := HA.out
      clear HA
      simp only [ashlarlaw02_WeighFinite.j0] at H
      by_cases c18 : x49_7 = true
      · subst c18
        have H1 : (some false) = some r := by rw [if_pos rfl] at H; exact H
        clear H
        have H := H1
        clear H1
        obtain rfl := Option.some.inj H
        go_wp2
        go_ret
        exact ⟨by first | rfl | (simp [errW_none, errW_some] <;> rfl) | (simp [*, errW_none, errW_some] <;> rfl), by repeat (first | (with_reducible first | exact HB.out | apply below_alloc | apply pw_below_drewN | apply below_drew1) | exact HB.out)⟩
      · replace c18 := Bool.eq_false_iff.mpr c18
        subst c18
        have H1 : (if fGt a1.toNat 0 = true then (if fLt t318 t320 = true then (ashlarlaw02_WeighFinite.j1 kj7 l2 t317 a1.toNat t319 true) else (if fLt a1.toNat 0 = true then (ashlarlaw02_WeighFinite.j1 kj7 l2 t317 a1.toNat t319 (fGt t318 t320)) else (ashlarlaw02_WeighFinite.j1 kj7 l2 t317 a1.toNat t319 false))) else (if fLt a1.toNat 0 = true then (ashlarlaw02_WeighFinite.j1 kj7 l2 t317 a1.toNat t319 (fGt t318 t320)) else (ashlarlaw02_WeighFinite.j1 kj7 l2 t317 a1.toNat t319 false))) = some r := by rw [if_neg (show ¬ (false = true) by decide)] at H; exact H
        clear H
        have H := H1
        clear H1
        have HC19 := Aside0.mk H
        clear H
        go_upto_region 9 with (fail)
        go_cut [65] (fun v65 wc => ∃ (kq : Nat) (x65_18 : Bool), v65 = .bool x65_18 ∧ Aside0 (ashlarlaw02_WeighFinite.j1 kq l2 t317 a1.toNat t319 x65_18 = some r) ∧ Aside0 (kq ≤ kj7) ∧ Aside0 (Below w.heap.size w wc))
        case first =>
          have H := HC19.out
          clear HC19
          by_cases c20 : fGt a1.toNat 0 = true
          · rw [if_pos c20] at H
            have c20b0 : fGt a1.toNat 0 = true := c20
            clear c20
            (first | rw [c20b0] | (simp only [i64_w, i32_w]; rw [c20b0]) | skip)
            by_cases c21 : fLt t318 t320 = true
            · rw [if_pos c21] at H
              have c21b0 : fLt t318 t320 = true := c21
              clear c21
              have H' := Aside0.mk H
              clear H
              go_wp2
              go_meet
              case rel => exact ⟨_, (true), (by first | rfl | (simp; done) | (simp [*]; done)), H', ⟨by have := HJ7.out; first | omega | exact Nat.le_refl _⟩, ⟨by repeat (first | (with_reducible first | exact HB.out | apply below_alloc | apply pw_below_drewN | apply below_drew1) | exact HB.out)⟩⟩
            · rw [if_neg c21] at H
              have c21b0 : fLt t318 t320 = false := by simpa using c21
              clear c21
              by_cases c22 : fLt a1.toNat 0 = true
              · rw [if_pos c22] at H
                have c22b0 : fLt a1.toNat 0 = true := c22
                clear c22
                have H' := Aside0.mk H
                clear H
                go_wp2
                go_meet
                case rel => exact ⟨_, (fGt t318 t320), (by first | rfl | (simp; done) | (simp [*]; done)), H', ⟨by have := HJ7.out; first | omega | exact Nat.le_refl _⟩, ⟨by repeat (first | (with_reducible first | exact HB.out | apply below_alloc | apply pw_below_drewN | apply below_drew1) | exact HB.out)⟩⟩
              · rw [if_neg c22] at H
                have c22b0 : fLt a1.toNat 0 = false := by simpa using c22
                clear c22
                have H' := Aside0.mk H
                clear H
                go_wp2
                go_meet
                case rel => exact ⟨_, (false), (by first | rfl | (simp; done) | (simp [*]; done)), H', ⟨by have := HJ7.out; first | omega | exact Nat.le_refl _⟩, ⟨by repeat (first | (with_reducible first | exact HB.out | apply below_alloc | apply pw_below_drewN | apply below_drew1) | exact HB.out)⟩⟩
          · rw [if_neg c20] at H
            have c20b0 : fGt a1.toNat 0 = false := by simpa using c20
            clear c20
            (first | rw [c20b0] | (simp only [i64_w, i32_w]; rw [c20b0]) | skip)
            by_cases c23 : fLt a1.toNat 0 = true
            · rw [if_pos c23] at H
              have c23b0 : fLt a1.toNat 0 = true := c23
              clear c23
              have H' := Aside0.mk H
              clear H
              go_wp2
              go_meet
              case rel => exact ⟨_, (fGt t318 t320), (by first | rfl | (simp; done) | (simp [*]; done)), H', ⟨by have := HJ7.out; first | omega | exact Nat.le_refl _⟩, ⟨by repeat (first | (with_reducible first | exact HB.out | apply below_alloc | apply pw_below_drewN | apply below_drew1) | exact HB.out)⟩⟩
            · rw [if_neg c23] at H
              have c23b0 : fLt a1.toNat 0 = false := by simpa using c23
              clear c23
              have H' := Aside0.mk H
              clear H
              go_wp2
              go_meet
              case rel => exact ⟨_, (false), (by first | rfl | (simp; done) | (simp [*]; done)), H', ⟨by have := HJ7.out; first | omega | exact Nat.le_refl _⟩, ⟨by repeat (first | (with_reducible first | exact HB.out | apply below_alloc | apply pw_below_drewN | apply below_drew1) | exact HB.out)⟩⟩
        case rest =>
          clear HC19
          try clear c1
          try clear c2
          try clear p2
          try clear c3
          try clear c10
          try clear c11
          try clear c12
          try clear c13
          try clear c15
          try clear c18
          try clear c20
          try clear c20b0
          try clear c21
          try clear c21b0
          try clear c22
          try clear c22b0
          try clear c23
          try clear c23b0
          try clear p2
          obtain ⟨kq, x65_18, rfl, HA, HJ18, HB⟩ := hcut
          cases kq with
          | zero => exact absurd HA.out (by simp [ashlarlaw02_WeighFinite.j1])
          | succ kj18 =>
            have H := HA.out
            clear HA
            simp only [ashlarlaw02_WeighFinite.j1] at H
            by_cases c24 : x65_18 = true
            · subst c24
              have H1 : (some false) = some r := by rw [if_pos rfl] at H; exact H
              clear H
              have H := H1
              clear H1
              obtain rfl := Option.some.inj H
              go_wp2
              go_ret
              exact ⟨by first | rfl | (simp [errW_none, errW_some] <;> rfl) | (simp [*, errW_none, errW_some] <;> rfl), by repeat (first | (with_reducible first | exact HB.out | apply below_alloc | apply pw_below_drewN | apply below_drew1) | exact HB.out)⟩
            · replace c24 := Bool.eq_false_iff.mpr c24
              subst c24
              have H1 : ((ashlarlaw02_floats.f kj18 l2).bind fun t326 => ((weigh_Rescale.f kj18 t326).bind fun bt329 => (ashlarlaw02_WeighFinite.l0 kj18 t317 a1.toNat t319 bt329.1 bt329.2 0))) = some r := by rw [if_neg (show ¬ (false = true) by decide)] at H; exact H
              clear H
              have H := H1
              clear H1
              replace H := Option.bind_eq_some_iff.mp H
              obtain ⟨t326, A250, H⟩ := H
              replace H : ((weigh_Rescale.f kj18 t326).bind fun bt329 => (ashlarlaw02_WeighFinite.l0 kj18 t317 a1.toNat t319 bt329.1 bt329.2 0)) = some r := H
              have A25 := Aside0.mk A250
              clear A250
              replace H := Option.bind_eq_some_iff.mp H
              obtain ⟨⟨t329, t330⟩, A260, H⟩ := H
              replace H : (ashlarlaw02_WeighFinite.l0 kj18 t317 a1.toNat t319 t329 t330 0) = some r := H
              have A26 := Aside0.mk A260
              clear A260
              have H' := Aside0.mk H
              clear H
              go_wp2_with (first | ((with_reducible refine gate_callee (f := 13) rfl ?_); refine goesL_ (some 68) rfl rfl Try.func13 (by kernel_rfl) rfl #[.slice A2 l2.length c2] rfl (by (try simp only [List.map_toArray, List.map_cons, List.map_nil]); first | done | rfl | (simp only [List.length_drop, List.length_take]; rfl)) ?_; (with_reducible refine (ashlarlaw02_floats.calls kj18 _ _ l2 t326 _ ?side1 ?side2 A25.out).mono ?_); (case side1 => repeat (first | exact (Kd.C_below HR2.out HB.out) | (with_reducible refine Kd.C_alloc ?_ _) | (with_reducible refine Kd.C_drewN ?_ _) | (with_reducible refine Kd.C_drew ?_))); (case side2 => exact HC2.out); rintro e w27 ⟨v327, rfl, ho0, hb⟩; refine ⟨_, rfl, ?_⟩; have n0_ := Aside0.mk (Kd.R_lower ho0 (below_size (by repeat (first | (with_reducible first | exact HB.out | apply below_alloc | apply pw_below_drewN | apply below_drew1) | exact HB.out)))); have n1_ := Aside0.mk (below_step (by repeat (first | (with_reducible first | exact HB.out | apply below_alloc | apply pw_below_drewN | apply below_drew1) | exact HB.out)) hb); clear HB; have HO328 := n0_; have HB := n1_; clear n0_ n1_; (try clear hb); (try clear hb2); (try clear hk); (try clear hi); (try clear ho0); obtain ⟨Ao28, co28, eo28⟩ := Kd.R_slice HO328.out; subst eo28) | ((with_reducible refine gate_callee (f := 14) rfl ?_); refine goesL_ (some 69) rfl rfl Try.func14 (by kernel_rfl) rfl #[.slice Ao28 t326.length co28] rfl (by (try simp only [List.map_toArray, List.map_cons, List.map_nil]); first | done | rfl | (simp only [List.length_drop, List.length_take]; rfl)) ?_; (with_reducible refine (weigh_Rescale.calls kj18 _ _ t326 t329 t330 _ ?side1 ?side2 A26.out).mono ?_); (case side1 => repeat (first | exact (Kd.R_reads' HO328.out).2.2 | (with_reducible refine Kd.C_alloc ?_ _) | (with_reducible refine Kd.C_drewN ?_ _) | (with_reducible refine Kd.C_drew ?_))); (case side2 => exact (Kd.R_reads' HO328.out).2.1); rintro e w29 ⟨v331, rfl, ho0, hb⟩; refine ⟨_, rfl, ?_⟩; have n0_ := Aside0.mk (Kd.R_elder' (by (with_reducible repeat (first | apply Kd.R_alloc | apply Kd.R_drewN | apply Kd.R_drew)); exact HO328.out) (Kd.R_base ho0) hb); have n1_ := Aside0.mk (Kd.R_lower (Kd.R_new' ho0 (Kd.R_lt (by (with_reducible repeat (first | apply Kd.R_alloc | apply Kd.R_drewN | apply Kd.R_drew)); exact HO328.out))) (below_size (by repeat (first | (with_reducible first | exact HB.out | apply below_alloc | apply pw_below_drewN | apply below_drew1) | exact HB.out)))); have n2_ := Aside0.mk (below_step (by repeat (first | (with_reducible first | exact HB.out | apply below_alloc | apply pw_below_drewN | apply below_drew1) | exact HB.out)) hb); clear HO328; clear HB; have HO328 := n0_; have HO332 := n1_; have HB := n2_; clear n0_ n1_ n2_; (try clear hb); (try clear hb2); (try clear hk); (try clear hi); (try clear ho0)))
              go_loopg [15] kj18 (fun kq v15 w' => ∃ (x15_3 : Int), v15 = .int .i64 x15_3 ∧ Aside0 (ashlarlaw02_WeighFinite.l0 kq t317 a1.toNat t319 t329 t330 x15_3 = some r) ∧ Aside0 (kq ≤ kj18) ∧ Aside0 (Kd.R Kd.f64 30 w' w.heap.size (fun _ => True) v331 t329) ∧ Aside0 (Below w.heap.size w w'))
              case atStart => exact ⟨(0), (by first | rfl | (simp; done) | (simp [*]; done)), H', ⟨Nat.le_refl _⟩, ⟨by (with_reducible repeat (first | apply Kd.R_alloc | apply Kd.R_drewN | apply Kd.R_drew)); exact Kd.R_mono HO332.out (fun _ hk => trivial)⟩, ⟨by repeat (first | (with_reducible first | exact HB.out | apply below_alloc | apply pw_below_drewN | apply below_drew1) | exact HB.out)⟩⟩
              case round =>
                clear H'
                try clear c1
                try clear c2
                try clear p2
                try clear c3
                try clear c10
                try clear c11
                try clear c12
                try clear c13
                try clear c14
                try clear c15
                try clear c18
                try clear c20
                try clear c20b0
                try clear c21
                try clear c21b0
                try clear c22
                try clear c22b0
                try clear c23
                try clear c23b0
                try clear c24
                try clear c29
                try clear p2
                obtain ⟨x15_3, rfl, HA, HK3, HO_13, HB⟩ := hrel
                cases gk with
                | zero => exact absurd HA.out (by simp [ashlarlaw02_WeighFinite.l0])
                | succ k3 =>
                  have H := HA.out
                  clear HA
                  simp only [ashlarlaw02_WeighFinite.l0] at H
                  by_cases c30 : x15_3 < (t329.length : Int)
                  · rw [if_pos c30] at H
                    have c30b0 : decide (x15_3 < (t329.length : Int)) = true := decide_eq_true c30
                    clear c30
                    by_cases c31 : 0 ≤ x15_3
                    · rw [if_pos c31] at H
                      have c31b0 : decide (0 ≤ x15_3) = true := decide_eq_true c31
                      clear c31
                      replace H := Option.bind_eq_some_iff.mp H
                      obtain ⟨t341, A320, H⟩ := H
                      replace H : (if t341 = true then (if t330 = true then ((math_Abs.f (rdOf (0 : Nat) t329 x15_3)).bind fun t343 => (if fGt t343 7748537163665533883 = true then (some false) else (ashlarlaw02_WeighFinite.l0 k3 t317 a1.toNat t319 t329 t330 (wrap64 (x15_3 + 1))))) else ((math_Abs.f (rdOf (0 : Nat) t329 x15_3)).bind fun t345 => (if fGt t345 6103021453049119613 = true then (some false) else (ashlarlaw02_WeighFinite.l0 k3 t317 a1.toNat t319 t329 t330 (wrap64 (x15_3 + 1)))))) else (some false)) = some r := H
                      have A32 := Aside0.mk A320
                      clear A320
                      by_cases c33 : t341 = true
                      · subst c33
                        have H1 : (if t330 = true then ((math_Abs.f (rdOf (0 : Nat) t329 x15_3)).bind fun t343 => (if fGt t343 7748537163665533883 = true then (some false) else (ashlarlaw02_WeighFinite.l0 k3 t317 a1.toNat t319 t329 t330 (wrap64 (x15_3 + 1))))) else ((math_Abs.f (rdOf (0 : Nat) t329 x15_3)).bind fun t345 => (if fGt t345 6103021453049119613 = true then (some false) else (ashlarlaw02_WeighFinite.l0 k3 t317 a1.toNat t319 t329 t330 (wrap64 (x15_3 + 1)))))) = some r := by rw [if_pos rfl] at H; exact H
                        clear H
                        have H := H1
                        clear H1
                        by_cases c34 : t330 = true
                        · subst c34
                          have H1 : ((math_Abs.f (rdOf (0 : Nat) t329 x15_3)).bind fun t343 => (if fGt t343 7748537163665533883 = true then (some false) else (ashlarlaw02_WeighFinite.l0 k3 t317 a1.toNat t319 t329 true (wrap64 (x15_3 + 1))))) = some r := by rw [if_pos rfl] at H; exact H
                          clear H
                          have H := H1
                          clear H1
                          replace H := Option.bind_eq_some_iff.mp H
                          obtain ⟨t343, A350, H⟩ := H
                          replace H : (if fGt t343 7748537163665533883 = true then (some false) else (ashlarlaw02_WeighFinite.l0 k3 t317 a1.toNat t319 t329 true (wrap64 (x15_3 + 1)))) = some r := H
                          have A35 := Aside0.mk A350
                          clear A350
                          by_cases c36 : fGt t343 7748537163665533883 = true
                          · rw [if_pos c36] at H
                            have c36b0 : fGt t343 7748537163665533883 = true := c36
                            clear c36
                            obtain rfl := Option.some.inj H
                            obtain ⟨Ao37, co37, eo37⟩ := Kd.R_slice HO_13.out
                            subst eo37
                            have p340 : 0 ≤ (x15_3 : Int) := of_decide_eq_true (by first | (with_reducible assumption) | assumption)
                            have q340 : x15_3 < (t329.length : Int) := of_decide_eq_true (by first | (with_reducible assumption) | assumption)
                            obtain ⟨ad340, e340, hx340_0⟩ := Kd.at_f64 (Kd.R_reads' HO_13.out).2.2 x15_3 p340 q340
                            cases e340
                            replace p340 := eq_true p340
                            replace q340 := eq_true q340
                            go_wp2_with (first | ((with_reducible refine gate_callee (f := 31) rfl ?_); refine goesL_ (some 82) rfl rfl Try.func31 (by kernel_rfl) rfl #[.float .f64 (rdOf (0 : Nat) t329 x15_3)] rfl (by (try simp only [List.map_toArray, List.map_cons, List.map_nil]); first | done | rfl | (simp only [List.length_drop, List.length_take]; rfl)) ?_; (with_reducible refine (ashlarlaw02_finite.calls (rdOf (0 : Nat) t329 x15_3) true _ A32.out).mono ?_); rintro e w' ⟨rfl, ⟨nd, rfl⟩⟩; refine ⟨_, rfl, ?_⟩; have p342 : 0 ≤ (x15_3 : Int) := of_decide_eq_true (by first | (with_reducible assumption) | assumption); have q342 : x15_3 < (t329.length : Int) := of_decide_eq_true (by first | (with_reducible assumption) | assumption); obtain ⟨ad342, e342, hx342_0⟩ := Kd.at_f64 (Kd.R_reads' HO_13.out).2.2 x15_3 p342 q342; obtain rfl : ad340 = ad342 := (by injection e342); replace p342 := eq_true p342; replace q342 := eq_true q342) | (go_at_call 25; (with_reducible refine (math_Abs.calls (rdOf (0 : Nat) t329 x15_3) t343 _ A35.out).mono ?_); rintro e w' ⟨rfl, ⟨nd, rfl⟩⟩))
                            go_ret
                            exact ⟨by first | rfl | (simp [errW_none, errW_some] <;> rfl) | (simp [*, errW_none, errW_some] <;> rfl), by repeat (first | (with_reducible first | exact HB.out | apply below_alloc | apply pw_below_drewN | apply below_drew1) | exact HB.out)⟩
                          · rw [if_neg c36] at H
                            have c36b0 : fGt t343 7748537163665533883 = false := by simpa using c36
                            clear c36
                            have H' := Aside0.mk H
                            clear H
                            obtain ⟨Ao38, co38, eo38⟩ := Kd.R_slice HO_13.out
                            subst eo38
                            have p340 : 0 ≤ (x15_3 : Int) := of_decide_eq_true (by first | (with_reducible assumption) | assumption)
                            have q340 : x15_3 < (t329.length : Int) := of_decide_eq_true (by first | (with_reducible assumption) | assumption)
                            obtain ⟨ad340, e340, hx340_0⟩ := Kd.at_f64 (Kd.R_reads' HO_13.out).2.2 x15_3 p340 q340
                            cases e340
                            replace p340 := eq_true p340
                            replace q340 := eq_true q340
                            go_wp2_with (first | ((with_reducible refine gate_callee (f := 31) rfl ?_); refine goesL_ (some 82) rfl rfl Try.func31 (by kernel_rfl) rfl #[.float .f64 (rdOf (0 : Nat) t329 x15_3)] rfl (by (try simp only [List.map_toArray, List.map_cons, List.map_nil]); first | done | rfl | (simp only [List.length_drop, List.length_take]; rfl)) ?_; (with_reducible refine (ashlarlaw02_finite.calls (rdOf (0 : Nat) t329 x15_3) true _ A32.out).mono ?_); rintro e w' ⟨rfl, ⟨nd, rfl⟩⟩; refine ⟨_, rfl, ?_⟩; have p342 : 0 ≤ (x15_3 : Int) := of_decide_eq_true (by first | (with_reducible assumption) | assumption); have q342 : x15_3 < (t329.length : Int) := of_decide_eq_true (by first | (with_reducible assumption) | assumption); obtain ⟨ad342, e342, hx342_0⟩ := Kd.at_f64 (Kd.R_reads' HO_13.out).2.2 x15_3 p342 q342; obtain rfl : ad340 = ad342 := (by injection e342); replace p342 := eq_true p342; replace q342 := eq_true q342) | (go_at_call 25; (with_reducible refine (math_Abs.calls (rdOf (0 : Nat) t329 x15_3) t343 _ A35.out).mono ?_); rintro e w' ⟨rfl, ⟨nd, rfl⟩⟩))
                            go_roundg k3
                            case measure => have := HJ7.out; have := HJ18.out; have := HK3.out; omega
                            case rel => exact ⟨(wrap64 (x15_3 + 1)), (by first | rfl | (simp; done) | (simp [*]; done)), H', ⟨by have := HJ7.out; have := HJ18.out; have := HK3.out; omega⟩, ⟨by (with_reducible repeat (first | apply Kd.R_alloc | apply Kd.R_drewN | apply Kd.R_drew)); exact HO_13.out⟩, ⟨by repeat (first | (with_reducible first | exact HB.out | apply below_alloc | apply pw_below_drewN | apply below_drew1) | exact HB.out)⟩⟩
                        · replace c34 := Bool.eq_false_iff.mpr c34
                          subst c34
                          have H1 : ((math_Abs.f (rdOf (0 : Nat) t329 x15_3)).bind fun t345 => (if fGt t345 6103021453049119613 = true then (some false) else (ashlarlaw02_WeighFinite.l0 k3 t317 a1.toNat t319 t329 false (wrap64 (x15_3 + 1))))) = some r := by rw [if_neg (show ¬ (false = true) by decide)] at H; exact H
                          clear H
                          have H := H1
                          clear H1
                          replace H := Option.bind_eq_some_iff.mp H
                          obtain ⟨t345, A390, H⟩ := H
                          replace H : (if fGt t345 6103021453049119613 = true then (some false) else (ashlarlaw02_WeighFinite.l0 k3 t317 a1.toNat t319 t329 false (wrap64 (x15_3 + 1)))) = some r := H
                          have A39 := Aside0.mk A390
                          clear A390
                          by_cases c40 : fGt t345 6103021453049119613 = true
                          · rw [if_pos c40] at H
                            have c40b0 : fGt t345 6103021453049119613 = true := c40
                            clear c40
                            obtain rfl := Option.some.inj H
                            obtain ⟨Ao41, co41, eo41⟩ := Kd.R_slice HO_13.out
                            subst eo41
                            have p340 : 0 ≤ (x15_3 : Int) := of_decide_eq_true (by first | (with_reducible assumption) | assumption)
                            have q340 : x15_3 < (t329.length : Int) := of_decide_eq_true (by first | (with_reducible assumption) | assumption)
                            obtain ⟨ad340, e340, hx340_0⟩ := Kd.at_f64 (Kd.R_reads' HO_13.out).2.2 x15_3 p340 q340
                            cases e340
                            replace p340 := eq_true p340
                            replace q340 := eq_true q340
                            go_wp2_with (first | ((with_reducible refine gate_callee (f := 31) rfl ?_); refine goesL_ (some 82) rfl rfl Try.func31 (by kernel_rfl) rfl #[.float .f64 (rdOf (0 : Nat) t329 x15_3)] rfl (by (try simp only [List.map_toArray, List.map_cons, List.map_nil]); first | done | rfl | (simp only [List.length_drop, List.length_take]; rfl)) ?_; (with_reducible refine (ashlarlaw02_finite.calls (rdOf (0 : Nat) t329 x15_3) true _ A32.out).mono ?_); rintro e w' ⟨rfl, ⟨nd, rfl⟩⟩; refine ⟨_, rfl, ?_⟩; have p344 : 0 ≤ (x15_3 : Int) := of_decide_eq_true (by first | (with_reducible assumption) | assumption); have q344 : x15_3 < (t329.length : Int) := of_decide_eq_true (by first | (with_reducible assumption) | assumption); obtain ⟨ad344, e344, hx344_0⟩ := Kd.at_f64 (Kd.R_reads' HO_13.out).2.2 x15_3 p344 q344; obtain rfl : ad340 = ad344 := (by injection e344); replace p344 := eq_true p344; replace q344 := eq_true q344) | (go_at_call 25; (with_reducible refine (math_Abs.calls (rdOf (0 : Nat) t329 x15_3) t345 _ A39.out).mono ?_); rintro e w' ⟨rfl, ⟨nd, rfl⟩⟩))
                            go_ret
                            exact ⟨by first | rfl | (simp [errW_none, errW_some] <;> rfl) | (simp [*, errW_none, errW_some] <;> rfl), by repeat (first | (with_reducible first | exact HB.out | apply below_alloc | apply pw_below_drewN | apply below_drew1) | exact HB.out)⟩
                          · rw [if_neg c40] at H
                            have c40b0 : fGt t345 6103021453049119613 = false := by simpa using c40
                            clear c40
                            have H' := Aside0.mk H
                            clear H
                            obtain ⟨Ao42, co42, eo42⟩ := Kd.R_slice HO_13.out
                            subst eo42
                            have p340 : 0 ≤ (x15_3 : Int) := of_decide_eq_true (by first | (with_reducible assumption) | assumption)
                            have q340 : x15_3 < (t329.length : Int) := of_decide_eq_true (by first | (with_reducible assumption) | assumption)
                            obtain ⟨ad340, e340, hx340_0⟩ := Kd.at_f64 (Kd.R_reads' HO_13.out).2.2 x15_3 p340 q340
                            cases e340
                            replace p340 := eq_true p340
                            replace q340 := eq_true q340
                            go_wp2_with (first | ((with_reducible refine gate_callee (f := 31) rfl ?_); refine goesL_ (some 82) rfl rfl Try.func31 (by kernel_rfl) rfl #[.float .f64 (rdOf (0 : Nat) t329 x15_3)] rfl (by (try simp only [List.map_toArray, List.map_cons, List.map_nil]); first | done | rfl | (simp only [List.length_drop, List.length_take]; rfl)) ?_; (with_reducible refine (ashlarlaw02_finite.calls (rdOf (0 : Nat) t329 x15_3) true _ A32.out).mono ?_); rintro e w' ⟨rfl, ⟨nd, rfl⟩⟩; refine ⟨_, rfl, ?_⟩; have p344 : 0 ≤ (x15_3 : Int) := of_decide_eq_true (by first | (with_reducible assumption) | assumption); have q344 : x15_3 < (t329.length : Int) := of_decide_eq_true (by first | (with_reducible assumption) | assumption); obtain ⟨ad344, e344, hx344_0⟩ := Kd.at_f64 (Kd.R_reads' HO_13.out).2.2 x15_3 p344 q344; obtain rfl : ad340 = ad344 := (by injection e344); replace p344 := eq_true p344; replace q344 := eq_true q344) | (go_at_call 25; (with_reducible refine (math_Abs.calls (rdOf (0 : Nat) t329 x15_3) t345 _ A39.out).mono ?_); rintro e w' ⟨rfl, ⟨nd, rfl⟩⟩))
                            go_roundg k3
                            case measure => have := HJ7.out; have := HJ18.out; have := HK3.out; omega
                            case rel => exact ⟨(wrap64 (x15_3 + 1)), (by first | rfl | (simp; done) | (simp [*]; done)), H', ⟨by have := HJ7.out; have := HJ18.out; have := HK3.out; omega⟩, ⟨by (with_reducible repeat (first | apply Kd.R_alloc | apply Kd.R_drewN | apply Kd.R_drew)); exact HO_13.out⟩, ⟨by repeat (first | (with_reducible first | exact HB.out | apply below_alloc | apply pw_below_drewN | apply below_drew1) | exact HB.out)⟩⟩
                      · replace c33 := Bool.eq_false_iff.mpr c33
                        subst c33
                        have H1 : (some false) = some r := by rw [if_neg (show ¬ (false = true) by decide)] at H; exact H
                        clear H
                        have H := H1
                        clear H1
                        obtain rfl := Option.some.inj H
                        obtain ⟨Ao43, co43, eo43⟩ := Kd.R_slice HO_13.out
                        subst eo43
                        have p340 : 0 ≤ (x15_3 : Int) := of_decide_eq_true (by first | (with_reducible assumption) | assumption)
                        have q340 : x15_3 < (t329.length : Int) := of_decide_eq_true (by first | (with_reducible assumption) | assumption)
                        obtain ⟨ad340, e340, hx340_0⟩ := Kd.at_f64 (Kd.R_reads' HO_13.out).2.2 x15_3 p340 q340
                        cases e340
                        replace p340 := eq_true p340
                        replace q340 := eq_true q340
                        go_wp2_with (first | ((with_reducible refine gate_callee (f := 31) rfl ?_); refine goesL_ (some 82) rfl rfl Try.func31 (by kernel_rfl) rfl #[.float .f64 (rdOf (0 : Nat) t329 x15_3)] rfl (by (try simp only [List.map_toArray, List.map_cons, List.map_nil]); first | done | rfl | (simp only [List.length_drop, List.length_take]; rfl)) ?_; (with_reducible refine (ashlarlaw02_finite.calls (rdOf (0 : Nat) t329 x15_3) false _ A32.out).mono ?_); rintro e w' ⟨rfl, ⟨nd, rfl⟩⟩; refine ⟨_, rfl, ?_⟩))
                        go_ret
                        exact ⟨by first | rfl | (simp [errW_none, errW_some] <;> rfl) | (simp [*, errW_none, errW_some] <;> rfl), by repeat (first | (with_reducible first | exact HB.out | apply below_alloc | apply pw_below_drewN | apply below_drew1) | exact HB.out)⟩
                    · rw [if_neg c31] at H
                      exact absurd H (by simp)
                  · rw [if_neg c30] at H
                    have c30b0 : decide (x15_3 < (t329.length : Int)) = false := decide_eq_false c30
                    clear c30
                    replace H := Option.bind_eq_some_iff.mp H
                    obtain ⟨⟨t333, t334⟩, A440, H⟩ := H
                    replace H : (if t317 = true then (if t330 = true then (if fLe a1.toNat 0 = true then (some true) else ((weigh_Tame.f a1.toNat).bind fun t337 => (some (fGe t319 t337)))) else (if t334 = true then (some false) else ((ashlarlaw02_rows.f k3 t333 t329).bind fun t338 => (if t338 = true then (if fLe a1.toNat 0 = true then (some true) else ((weigh_Tame.f a1.toNat).bind fun t339 => (some (fGe t319 t339)))) else (some false))))) else (some false)) = some r := H
                    have A44 := Aside0.mk A440
                    clear A440
                    by_cases c45 : t317 = true
                    · subst c45
                      have H1 : (if t330 = true then (if fLe a1.toNat 0 = true then (some true) else ((weigh_Tame.f a1.toNat).bind fun t337 => (some (fGe t319 t337)))) else (if t334 = true then (some false) else ((ashlarlaw02_rows.f k3 t333 t329).bind fun t338 => (if t338 = true then (if fLe a1.toNat 0 = true then (some true) else ((weigh_Tame.f a1.toNat).bind fun t339 => (some (fGe t319 t339)))) else (some false))))) = some r := by rw [if_pos rfl] at H; exact H
                      clear H
                      have H := H1
                      clear H1
                      by_cases c46 : t330 = true
                      · subst c46
                        have H1 : (if fLe a1.toNat 0 = true then (some true) else ((weigh_Tame.f a1.toNat).bind fun t337 => (some (fGe t319 t337)))) = some r := by rw [if_pos rfl] at H; exact H
                        clear H
                        have H := H1
                        clear H1
                        by_cases c47 : fLe a1.toNat 0 = true
                        · rw [if_pos c47] at H
                          have c47b0 : fLe a1.toNat 0 = true := c47
                          clear c47
                          obtain rfl := Option.some.inj H
                          obtain ⟨Ao48, co48, eo48⟩ := Kd.R_slice HO_13.out
                          subst eo48
                          go_wp2_with (first | ((with_reducible refine gate_callee (f := 14) rfl ?_); refine goesL_ (some 109) rfl rfl Try.func14 (by kernel_rfl) rfl #[.slice Ao48 t329.length co48] rfl (by (try simp only [List.map_toArray, List.map_cons, List.map_nil]); first | done | rfl | (simp only [List.length_drop, List.length_take]; rfl)) ?_; (with_reducible refine (weigh_Rescale.calls k3 _ _ t329 t333 t334 _ ?side1 ?side2 A44.out).mono ?_); (case side1 => repeat (first | exact (Kd.R_reads' HO_13.out).2.2 | (with_reducible refine Kd.C_alloc ?_ _) | (with_reducible refine Kd.C_drewN ?_ _) | (with_reducible refine Kd.C_drew ?_))); (case side2 => exact (Kd.R_reads' HO_13.out).2.1); rintro e w49 ⟨v335, rfl, ho0, hb⟩; refine ⟨_, rfl, ?_⟩; have n0_ := Aside0.mk (Kd.R_elder' (by (with_reducible repeat (first | apply Kd.R_alloc | apply Kd.R_drewN | apply Kd.R_drew)); exact HO_13.out) (Kd.R_base ho0) hb); have n1_ := Aside0.mk (Kd.R_lower (Kd.R_new' ho0 (Kd.R_lt (by (with_reducible repeat (first | apply Kd.R_alloc | apply Kd.R_drewN | apply Kd.R_drew)); exact HO_13.out))) (below_size (by repeat (first | (with_reducible first | exact HB.out | apply below_alloc | apply pw_below_drewN | apply below_drew1) | exact HB.out)))); have n2_ := Aside0.mk (below_step (by repeat (first | (with_reducible first | exact HB.out | apply below_alloc | apply pw_below_drewN | apply below_drew1) | exact HB.out)) hb); clear HO_13; clear HB; have HO_13 := n0_; have HO336 := n1_; have HB := n2_; clear n0_ n1_ n2_; (try clear hb); (try clear hb2); (try clear hk); (try clear hi); (try clear ho0)))
                          go_ret
                          exact ⟨by first | rfl | (simp [errW_none, errW_some] <;> rfl) | (simp [*, errW_none, errW_some] <;> rfl), by repeat (first | (with_reducible first | exact HB.out | apply below_alloc | apply pw_below_drewN | apply below_drew1) | exact HB.out)⟩
                        · rw [if_neg c47] at H
                          have c47b0 : fLe a1.toNat 0 = false := by simpa using c47
                          clear c47
                          replace H := Option.bind_eq_some_iff.mp H
                          obtain ⟨t337, A500, H⟩ := H
                          replace H : (some (fGe t319 t337)) = some r := H
                          have A50 := Aside0.mk A500
                          clear A500
                          obtain rfl := Option.some.inj H
                          obtain ⟨Ao51, co51, eo51⟩ := Kd.R_slice HO_13.out
                          subst eo51
                          go_wp2_with (first | ((with_reducible refine gate_callee (f := 14) rfl ?_); refine goesL_ (some 109) rfl rfl Try.func14 (by kernel_rfl) rfl #[.slice Ao51 t329.length co51] rfl (by (try simp only [List.map_toArray, List.map_cons, List.map_nil]); first | done | rfl | (simp only [List.length_drop, List.length_take]; rfl)) ?_; (with_reducible refine (weigh_Rescale.calls k3 _ _ t329 t333 t334 _ ?side1 ?side2 A44.out).mono ?_); (case side1 => repeat (first | exact (Kd.R_reads' HO_13.out).2.2 | (with_reducible refine Kd.C_alloc ?_ _) | (with_reducible refine Kd.C_drewN ?_ _) | (with_reducible refine Kd.C_drew ?_))); (case side2 => exact (Kd.R_reads' HO_13.out).2.1); rintro e w52 ⟨v335, rfl, ho0, hb⟩; refine ⟨_, rfl, ?_⟩; have n0_ := Aside0.mk (Kd.R_elder' (by (with_reducible repeat (first | apply Kd.R_alloc | apply Kd.R_drewN | apply Kd.R_drew)); exact HO_13.out) (Kd.R_base ho0) hb); have n1_ := Aside0.mk (Kd.R_lower (Kd.R_new' ho0 (Kd.R_lt (by (with_reducible repeat (first | apply Kd.R_alloc | apply Kd.R_drewN | apply Kd.R_drew)); exact HO_13.out))) (below_size (by repeat (first | (with_reducible first | exact HB.out | apply below_alloc | apply pw_below_drewN | apply below_drew1) | exact HB.out)))); have n2_ := Aside0.mk (below_step (by repeat (first | (with_reducible first | exact HB.out | apply below_alloc | apply pw_below_drewN | apply below_drew1) | exact HB.out)) hb); clear HO_13; clear HB; have HO_13 := n0_; have HO336 := n1_; have HB := n2_; clear n0_ n1_ n2_; (try clear hb); (try clear hb2); (try clear hk); (try clear hi); (try clear ho0)) | (go_at_call 22; (with_reducible refine (weigh_Tame.calls a1.toNat t337 _ A50.out).mono ?_); rintro e w' ⟨rfl, ⟨nd, rfl⟩⟩))
                          go_ret
                          exact ⟨by first | rfl | (simp [errW_none, errW_some] <;> rfl) | (simp [*, errW_none, errW_some] <;> rfl), by repeat (first | (with_reducible first | exact HB.out | apply below_alloc | apply pw_below_drewN | apply below_drew1) | exact HB.out)⟩
                      · replace c46 := Bool.eq_false_iff.mpr c46
                        subst c46
                        have H1 : (if t334 = true then (some false) else ((ashlarlaw02_rows.f k3 t333 t329).bind fun t338 => (if t338 = true then (if fLe a1.toNat 0 = true then (some true) else ((weigh_Tame.f a1.toNat).bind fun t339 => (some (fGe t319 t339)))) else (some false)))) = some r := by rw [if_neg (show ¬ (false = true) by decide)] at H; exact H
                        clear H
                        have H := H1
                        clear H1
                        by_cases c53 : t334 = true
                        · subst c53
                          have H1 : (some false) = some r := by rw [if_pos rfl] at H; exact H
                          clear H
                          have H := H1
                          clear H1
                          obtain rfl := Option.some.inj H
                          obtain ⟨Ao54, co54, eo54⟩ := Kd.R_slice HO_13.out
                          subst eo54
                          go_wp2_with (first | ((with_reducible refine gate_callee (f := 14) rfl ?_); refine goesL_ (some 109) rfl rfl Try.func14 (by kernel_rfl) rfl #[.slice Ao54 t329.length co54] rfl (by (try simp only [List.map_toArray, List.map_cons, List.map_nil]); first | done | rfl | (simp only [List.length_drop, List.length_take]; rfl)) ?_; (with_reducible refine (weigh_Rescale.calls k3 _ _ t329 t333 true _ ?side1 ?side2 A44.out).mono ?_); (case side1 => repeat (first | exact (Kd.R_reads' HO_13.out).2.2 | (with_reducible refine Kd.C_alloc ?_ _) | (with_reducible refine Kd.C_drewN ?_ _) | (with_reducible refine Kd.C_drew ?_))); (case side2 => exact (Kd.R_reads' HO_13.out).2.1); rintro e w55 ⟨v335, rfl, ho0, hb⟩; refine ⟨_, rfl, ?_⟩; have n0_ := Aside0.mk (Kd.R_elder' (by (with_reducible repeat (first | apply Kd.R_alloc | apply Kd.R_drewN | apply Kd.R_drew)); exact HO_13.out) (Kd.R_base ho0) hb); have n1_ := Aside0.mk (Kd.R_lower (Kd.R_new' ho0 (Kd.R_lt (by (with_reducible repeat (first | apply Kd.R_alloc | apply Kd.R_drewN | apply Kd.R_drew)); exact HO_13.out))) (below_size (by repeat (first | (with_reducible first | exact HB.out | apply below_alloc | apply pw_below_drewN | apply below_drew1) | exact HB.out)))); have n2_ := Aside0.mk (below_step (by repeat (first | (with_reducible first | exact HB.out | apply below_alloc | apply pw_below_drewN | apply below_drew1) | exact HB.out)) hb); clear HO_13; clear HB; have HO_13 := n0_; have HO336 := n1_; have HB := n2_; clear n0_ n1_ n2_; (try clear hb); (try clear hb2); (try clear hk); (try clear hi); (try clear ho0)))
                          go_ret
                          exact ⟨by first | rfl | (simp [errW_none, errW_some] <;> rfl) | (simp [*, errW_none, errW_some] <;> rfl), by repeat (first | (with_reducible first | exact HB.out | apply below_alloc | apply pw_below_drewN | apply below_drew1) | exact HB.out)⟩
                        · replace c53 := Bool.eq_false_iff.mpr c53
                          subst c53
                          have H1 : ((ashlarlaw02_rows.f k3 t333 t329).bind fun t338 => (if t338 = true then (if fLe a1.toNat 0 = true then (some true) else ((weigh_Tame.f a1.toNat).bind fun t339 => (some (fGe t319 t339)))) else (some false))) = some r := by rw [if_neg (show ¬ (false = true) by decide)] at H; exact H
                          clear H
                          have H := H1
                          clear H1
                          replace H := Option.bind_eq_some_iff.mp H
                          obtain ⟨t338, A560, H⟩ := H
                          replace H : (if t338 = true then (if fLe a1.toNat 0 = true then (some true) else ((weigh_Tame.f a1.toNat).bind fun t339 => (some (fGe t319 t339)))) else (some false)) = some r := H
                          have A56 := Aside0.mk A560
                          clear A560
                          by_cases c57 : t338 = true
                          · subst c57
                            have H1 : (if fLe a1.toNat 0 = true then (some true) else ((weigh_Tame.f a1.toNat).bind fun t339 => (some (fGe t319 t339)))) = some r := by rw [if_pos rfl] at H; exact H
                            clear H
                            have H := H1
                            clear H1
                            by_cases c58 : fLe a1.toNat 0 = true
                            · rw [if_pos c58] at H
                              have c58b0 : fLe a1.toNat 0 = true := c58
                              clear c58
                              obtain rfl := Option.some.inj H
                              obtain ⟨Ao59, co59, eo59⟩ := Kd.R_slice HO_13.out
                              subst eo59
                              go_wp2_with (first | ((with_reducible refine gate_callee (f := 14) rfl ?_); refine goesL_ (some 109) rfl rfl Try.func14 (by kernel_rfl) rfl #[.slice Ao59 t329.length co59] rfl (by (try simp only [List.map_toArray, List.map_cons, List.map_nil]); first | done | rfl | (simp only [List.length_drop, List.length_take]; rfl)) ?_; (with_reducible refine (weigh_Rescale.calls k3 _ _ t329 t333 false _ ?side1 ?side2 A44.out).mono ?_); (case side1 => repeat (first | exact (Kd.R_reads' HO_13.out).2.2 | (with_reducible refine Kd.C_alloc ?_ _) | (with_reducible refine Kd.C_drewN ?_ _) | (with_reducible refine Kd.C_drew ?_))); (case side2 => exact (Kd.R_reads' HO_13.out).2.1); rintro e w60 ⟨v335, rfl, ho0, hb⟩; refine ⟨_, rfl, ?_⟩; have n0_ := Aside0.mk (Kd.R_elder' (by (with_reducible repeat (first | apply Kd.R_alloc | apply Kd.R_drewN | apply Kd.R_drew)); exact HO_13.out) (Kd.R_base ho0) hb); have n1_ := Aside0.mk (Kd.R_lower (Kd.R_new' ho0 (Kd.R_lt (by (with_reducible repeat (first | apply Kd.R_alloc | apply Kd.R_drewN | apply Kd.R_drew)); exact HO_13.out))) (below_size (by repeat (first | (with_reducible first | exact HB.out | apply below_alloc | apply pw_below_drewN | apply below_drew1) | exact HB.out)))); have n2_ := Aside0.mk (below_step (by repeat (first | (with_reducible first | exact HB.out | apply below_alloc | apply pw_below_drewN | apply below_drew1) | exact HB.out)) hb); clear HO_13; clear HB; have HO_13 := n0_; have HO336 := n1_; have HB := n2_; clear n0_ n1_ n2_; (try clear hb); (try clear hb2); (try clear hk); (try clear hi); (try clear ho0); obtain ⟨Ao61, co61, eo61⟩ := Kd.R_slice HO336.out; subst eo61) | (go_at_call 32; (with_reducible refine (ashlarlaw02_rows.calls k3 _ _ t333 _ _ t329 true _ ?side1 ?side2 ?side3 ?side4 A56.out).mono ?_); (case side1 => repeat (first | exact (Kd.R_reads' HO336.out).2.2 | (with_reducible refine Kd.C_alloc ?_ _) | (with_reducible refine Kd.C_drewN ?_ _) | (with_reducible refine Kd.C_drew ?_))); (case side2 => exact (Kd.R_reads' HO336.out).2.1); (case side3 => repeat (first | exact (Kd.R_reads' HO_13.out).2.2 | (with_reducible refine Kd.C_alloc ?_ _) | (with_reducible refine Kd.C_drewN ?_ _) | (with_reducible refine Kd.C_drew ?_))); (case side4 => exact (Kd.R_reads' HO_13.out).2.1); rintro e w' ⟨rfl, ⟨nd, rfl⟩⟩))
                              go_ret
                              exact ⟨by first | rfl | (simp [errW_none, errW_some] <;> rfl) | (simp [*, errW_none, errW_some] <;> rfl), by repeat (first | (with_reducible first | exact HB.out | apply below_alloc | apply pw_below_drewN | apply below_drew1) | exact HB.out)⟩
                            · rw [if_neg c58] at H
                              have c58b0 : fLe a1.toNat 0 = false := by simpa using c58
                              clear c58
                              replace H := Option.bind_eq_some_iff.mp H
                              obtain ⟨t339, A620, H⟩ := H
                              replace H : (some (fGe t319 t339)) = some r := H
                              have A62 := Aside0.mk A620
                              clear A620
                              obtain rfl := Option.some.inj H
                              obtain ⟨Ao63, co63, eo63⟩ := Kd.R_slice HO_13.out
                              subst eo63
                              go_wp2_with (first | ((with_reducible refine gate_callee (f := 14) rfl ?_); refine goesL_ (some 109) rfl rfl Try.func14 (by kernel_rfl) rfl #[.slice Ao63 t329.length co63] rfl (by (try simp only [List.map_toArray, List.map_cons, List.map_nil]); first | done | rfl | (simp only [List.length_drop, List.length_take]; rfl)) ?_; (with_reducible refine (weigh_Rescale.calls k3 _ _ t329 t333 false _ ?side1 ?side2 A44.out).mono ?_); (case side1 => repeat (first | exact (Kd.R_reads' HO_13.out).2.2 | (with_reducible refine Kd.C_alloc ?_ _) | (with_reducible refine Kd.C_drewN ?_ _) | (with_reducible refine Kd.C_drew ?_))); (case side2 => exact (Kd.R_reads' HO_13.out).2.1); rintro e w64 ⟨v335, rfl, ho0, hb⟩; refine ⟨_, rfl, ?_⟩; have n0_ := Aside0.mk (Kd.R_elder' (by (with_reducible repeat (first | apply Kd.R_alloc | apply Kd.R_drewN | apply Kd.R_drew)); exact HO_13.out) (Kd.R_base ho0) hb); have n1_ := Aside0.mk (Kd.R_lower (Kd.R_new' ho0 (Kd.R_lt (by (with_reducible repeat (first | apply Kd.R_alloc | apply Kd.R_drewN | apply Kd.R_drew)); exact HO_13.out))) (below_size (by repeat (first | (with_reducible first | exact HB.out | apply below_alloc | apply pw_below_drewN | apply below_drew1) | exact HB.out)))); have n2_ := Aside0.mk (below_step (by repeat (first | (with_reducible first | exact HB.out | apply below_alloc | apply pw_below_drewN | apply below_drew1) | exact HB.out)) hb); clear HO_13; clear HB; have HO_13 := n0_; have HO336 := n1_; have HB := n2_; clear n0_ n1_ n2_; (try clear hb); (try clear hb2); (try clear hk); (try clear hi); (try clear ho0); obtain ⟨Ao65, co65, eo65⟩ := Kd.R_slice HO336.out; subst eo65) | (go_at_call 32; (with_reducible refine (ashlarlaw02_rows.calls k3 _ _ t333 _ _ t329 true _ ?side1 ?side2 ?side3 ?side4 A56.out).mono ?_); (case side1 => repeat (first | exact (Kd.R_reads' HO336.out).2.2 | (with_reducible refine Kd.C_alloc ?_ _) | (with_reducible refine Kd.C_drewN ?_ _) | (with_reducible refine Kd.C_drew ?_))); (case side2 => exact (Kd.R_reads' HO336.out).2.1); (case side3 => repeat (first | exact (Kd.R_reads' HO_13.out).2.2 | (with_reducible refine Kd.C_alloc ?_ _) | (with_reducible refine Kd.C_drewN ?_ _) | (with_reducible refine Kd.C_drew ?_))); (case side4 => exact (Kd.R_reads' HO_13.out).2.1); rintro e w' ⟨rfl, ⟨nd, rfl⟩⟩) | (go_at_call 22; (with_reducible refine (weigh_Tame.calls a1.toNat t339 _ A62.out).mono ?_); rintro e w' ⟨rfl, ⟨nd, rfl⟩⟩))
                              go_ret
                              exact ⟨by first | rfl | (simp [errW_none, errW_some] <;> rfl) | (simp [*, errW_none, errW_some] <;> rfl), by repeat (first | (with_reducible first | exact HB.out | apply below_alloc | apply pw_below_drewN | apply below_drew1) | exact HB.out)⟩
                          · replace c57 := Bool.eq_false_iff.mpr c57
                            subst c57
                            have H1 : (some false) = some r := by rw [if_neg (show ¬ (false = true) by decide)] at H; exact H
                            clear H
                            have H := H1
                            clear H1
                            obtain rfl := Option.some.inj H
                            obtain ⟨Ao66, co66, eo66⟩ := Kd.R_slice HO_13.out
                            subst eo66
                            go_wp2_with (first | ((with_reducible refine gate_callee (f := 14) rfl ?_); refine goesL_ (some 109) rfl rfl Try.func14 (by kernel_rfl) rfl #[.slice Ao66 t329.length co66] rfl (by (try simp only [List.map_toArray, List.map_cons, List.map_nil]); first | done | rfl | (simp only [List.length_drop, List.length_take]; rfl)) ?_; (with_reducible refine (weigh_Rescale.calls k3 _ _ t329 t333 false _ ?side1 ?side2 A44.out).mono ?_); (case side1 => repeat (first | exact (Kd.R_reads' HO_13.out).2.2 | (with_reducible refine Kd.C_alloc ?_ _) | (with_reducible refine Kd.C_drewN ?_ _) | (with_reducible refine Kd.C_drew ?_))); (case side2 => exact (Kd.R_reads' HO_13.out).2.1); rintro e w67 ⟨v335, rfl, ho0, hb⟩; refine ⟨_, rfl, ?_⟩; have n0_ := Aside0.mk (Kd.R_elder' (by (with_reducible repeat (first | apply Kd.R_alloc | apply Kd.R_drewN | apply Kd.R_drew)); exact HO_13.out) (Kd.R_base ho0) hb); have n1_ := Aside0.mk (Kd.R_lower (Kd.R_new' ho0 (Kd.R_lt (by (with_reducible repeat (first | apply Kd.R_alloc | apply Kd.R_drewN | apply Kd.R_drew)); exact HO_13.out))) (below_size (by repeat (first | (with_reducible first | exact HB.out | apply below_alloc | apply pw_below_drewN | apply below_drew1) | exact HB.out)))); have n2_ := Aside0.mk (below_step (by repeat (first | (with_reducible first | exact HB.out | apply below_alloc | apply pw_below_drewN | apply below_drew1) | exact HB.out)) hb); clear HO_13; clear HB; have HO_13 := n0_; have HO336 := n1_; have HB := n2_; clear n0_ n1_ n2_; (try clear hb); (try clear hb2); (try clear hk); (try clear hi); (try clear ho0); obtain ⟨Ao68, co68, eo68⟩ := Kd.R_slice HO336.out; subst eo68) | (go_at_call 32; (with_reducible refine (ashlarlaw02_rows.calls k3 _ _ t333 _ _ t329 false _ ?side1 ?side2 ?side3 ?side4 A56.out).mono ?_); (case side1 => repeat (first | exact (Kd.R_reads' HO336.out).2.2 | (with_reducible refine Kd.C_alloc ?_ _) | (with_reducible refine Kd.C_drewN ?_ _) | (with_reducible refine Kd.C_drew ?_))); (case side2 => exact (Kd.R_reads' HO336.out).2.1); (case side3 => repeat (first | exact (Kd.R_reads' HO_13.out).2.2 | (with_reducible refine Kd.C_alloc ?_ _) | (with_reducible refine Kd.C_drewN ?_ _) | (with_reducible refine Kd.C_drew ?_))); (case side4 => exact (Kd.R_reads' HO_13.out).2.1); rintro e w' ⟨rfl, ⟨nd, rfl⟩⟩))
                            go_ret
                            exact ⟨by first | rfl | (simp [errW_none, errW_some] <;> rfl) | (simp [*, errW_none, errW_some] <;> rfl), by repeat (first | (with_reducible first | exact HB.out | apply below_alloc | apply pw_below_drewN | apply below_drew1) | exact HB.out)⟩
                    · replace c45 := Bool.eq_false_iff.mpr c45
                      subst c45
                      have H1 : (some false) = some r := by rw [if_neg (show ¬ (false = true) by decide)] at H; exact H
                      clear H
                      have H := H1
                      clear H1
                      obtain rfl := Option.some.inj H
                      obtain ⟨Ao69, co69, eo69⟩ := Kd.R_slice HO_13.out
                      subst eo69
                      go_wp2_with (first | ((with_reducible refine gate_callee (f := 14) rfl ?_); refine goesL_ (some 109) rfl rfl Try.func14 (by kernel_rfl) rfl #[.slice Ao69 t329.length co69] rfl (by (try simp only [List.map_toArray, List.map_cons, List.map_nil]); first | done | rfl | (simp only [List.length_drop, List.length_take]; rfl)) ?_; (with_reducible refine (weigh_Rescale.calls k3 _ _ t329 t333 t334 _ ?side1 ?side2 A44.out).mono ?_); (case side1 => repeat (first | exact (Kd.R_reads' HO_13.out).2.2 | (with_reducible refine Kd.C_alloc ?_ _) | (with_reducible refine Kd.C_drewN ?_ _) | (with_reducible refine Kd.C_drew ?_))); (case side2 => exact (Kd.R_reads' HO_13.out).2.1); rintro e w70 ⟨v335, rfl, ho0, hb⟩; refine ⟨_, rfl, ?_⟩; have n0_ := Aside0.mk (Kd.R_elder' (by (with_reducible repeat (first | apply Kd.R_alloc | apply Kd.R_drewN | apply Kd.R_drew)); exact HO_13.out) (Kd.R_base ho0) hb); have n1_ := Aside0.mk (Kd.R_lower (Kd.R_new' ho0 (Kd.R_lt (by (with_reducible repeat (first | apply Kd.R_alloc | apply Kd.R_drewN | apply Kd.R_drew)); exact HO_13.out))) (below_size (by repeat (first | (with_reducible first | exact HB.out | apply below_alloc | apply pw_below_drewN | apply below_drew1) | exact HB.out)))); have n2_ := Aside0.mk (below_step (by repeat (first | (with_reducible first | exact HB.out | apply below_alloc | apply pw_below_drewN | apply below_drew1) | exact HB.out)) hb); clear HO_13; clear HB; have HO_13 := n0_; have HO336 := n1_; have HB := n2_; clear n0_ n1_ n2_; (try clear hb); (try clear hb2); (try clear hk); (try clear hi); (try clear ho0)))
                      go_ret
                      exact ⟨by first | rfl | (simp [errW_none, errW_some] <;> rfl) | (simp [*, errW_none, errW_some] <;> rfl), by repeat (first | (with_reducible first | exact HB.out | apply below_alloc | apply pw_below_drewN | apply below_drew1) | exact HB.out)⟩

/-- THE ONE PURE STATEMENT of ashlarlaw02_WeighFinite: yours. -/
def ashlarlaw02_WeighFinite.Pure : Prop := ∀ (a0 : Int) (a1 : Int) (l2 : List Int), (Lit.int .u64 a0).wf = true → (Lit.int .u64 a1).wf = true → l2.length ≤ maxLen → l2.length * 8 ≤ 140737488351232 → (∀ x ∈ l2, (Lit.int .u64 x).wf = true) → ∃ k, ashlarlaw02_WeighFinite.f k a0 a1 l2 = some true
theorem ashlarlaw02_WeighFinite.walk (P : ashlarlaw02_WeighFinite.Pure) (a0 : Int) (a1 : Int) (a2 : Option Addr) (len2 cap2 : Nat) (z2 : List Int) (w : World) (w0 : (Lit.int .u64 a0).wf = true) (w1 : (Lit.int .u64 a1).wf = true) (w2 : (a2 = none ∧ len2 = 0 ∧ cap2 = 0 ∧ z2 = []) ∨ ∃ x, a2 = some x ∧ len2 ≤ cap2 ∧ cap2 ≤ maxLen ∧ z2.length = cap2 ∧ (∀ i, i < z2.length → w.cell? (x.add i) = some (.int .u64 (z2.getD i 0))) ∧ ∀ n ∈ z2, (Lit.int .u64 n).wf = true) (y2 : len2 * 8 ≤ 140737488351232) :
    Calls Try.prog 10 #[.int .u64 a0, .int .u64 a1, .slice a2 len2 cap2] w fun e w' => e = .returned (.bool true) ∧ Below w.heap.size w w' := by
  obtain ⟨l2, rfl, hr2, hm2, hw2, hc2⟩ := ReadsInt.ofRowC w2
  obtain ⟨k, h⟩ := P a0 a1 l2 w0 w1 hm2 y2 hw2
  refine (ashlarlaw02_WeighFinite.calls k a0 a1 _ _ l2 true w (Kd.C_of_reads (d := (0 : Int)) (h1 := fun _ => rfl) hr2) hc2 h).mono ?_
  rintro e w' ⟨rfl, hd⟩
  exact ⟨rfl, hd⟩

end Go.Proofs.Ytglpafflpcgnpaa.Q
