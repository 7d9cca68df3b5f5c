/- written by a program of this session (wip/tools/printx.py, over the kit's printing program) out of the translation -/
import Derived.Test.YtglpafflpcgnpaaQx0
import Derived.Test.YtglpafflpcgnpaaQx1
import Derived.Test.YtglpafflpcgnpaaQx2
import Derived.Test.YtglpafflpcgnpaaQx3
namespace Go.Proofs.Ytglpafflpcgnpaa.Q
open Go.RowKit Go.Proofs.YtglpafflpcgnpaaW.PrintWords Go.Proofs.YtglpafflpcgnpaaW.PrintLast Go.Proofs.YtglpafflpcgnpaaW.PrintMore
attribute [local go_sem] max2_int min2_int max_two min_two max_three min_three max_four min_four   -- for this text's walks alone
set_option linter.unusedVariables false
set_option linter.unusedSimpArgs false

/-! ### ashlarlaw02_WeighRowsTwo: function 8 -/
def ashlarlaw02_WeighRowsTwo.j0 : Nat → Bool → List Nat → List Nat → Int → Int → Int → Bool → Option (Bool)
  | 0, _, _, _, _, _, _, _ => none
  | k + 1, x5, x6, x7, x8, x9, x10, x26 => if x26 = true then (if x5 = true then (some (decide (x10 < 0))) else (some false)) else (if x8 < 0 then (if x5 = true then (some (x10 == x9)) else (some false)) else (if x9 < 0 then (if x5 = true then (some (x10 == x8)) else (some false)) else (if 0 ≤ x8 then (if x8 < (x6.length : Int) then (if 0 ≤ x9 then (if x9 < (x7.length : Int) then ((weigh_Less.f k (rdOf (0 : Nat) x6 x8) (rdOf (0 : Nat) x7 x9)).bind fun t293 => (if t293 = true then (if x5 = true then (some (x10 == (wrap64 ((x6.length : Int) + x9)))) else (some false)) else (if x5 = true then (some (x10 == x8)) else (some false)))) else (none)) else (none)) else (none)) else (none))))
def ashlarlaw02_WeighRowsTwo.f (k : Nat) (l0 : List Int) (l1 : List Int) : Option (Bool) := (ashlarlaw02_shown.f k).bind fun t272 => ((ashlarlaw02_floats.f k l0).bind fun t273 => ((ashlarlaw02_floats.f k l1).bind fun t276 => ((weigh_Heavy.f t273).bind fun t279 => ((weigh_Heavy.f t276).bind fun t280 => ((some (([] : List Nat) : List Nat)).bind fun y281 => (if y281.length + t273.length < 17592186044416 then ((some (y281 ++ t273 : List Nat)).bind fun y284 => (if y284.length + t276.length < 17592186044416 then ((weigh_Heavy.f (y284 ++ t276)).bind fun t290 => (if t279 < 0 then (ashlarlaw02_WeighRowsTwo.j0 k t272 t273 t276 t279 t280 t290 (decide (t280 < 0))) else (ashlarlaw02_WeighRowsTwo.j0 k t272 t273 t276 t279 t280 t290 false))) else (none))) else (none)))))))
theorem ashlarlaw02_WeighRowsTwo.mono_l : ∀ k, (∀ y0 y1 y2 y3 y4 y5 y6, LeO (ashlarlaw02_WeighRowsTwo.j0 k y0 y1 y2 y3 y4 y5 y6) (ashlarlaw02_WeighRowsTwo.j0 (k + 1) y0 y1 y2 y3 y4 y5 y6))
  | 0 => fun _ _ _ _ _ _ _ r h => by simp [ashlarlaw02_WeighRowsTwo.j0] at h
  | k + 1 => by
    have ih0 := ashlarlaw02_WeighRowsTwo.mono_l k
    · intro y0 y1 y2 y3 y4 y5 y6
      unfold ashlarlaw02_WeighRowsTwo.j0
      repeat' first
      | (with_reducible exact ih0 _ _ _ _ _ _ _)
      | (with_reducible exact ashlarlaw02_floats.mono _ _)
      | (with_reducible exact ashlarlaw02_shown.mono _)
      | (with_reducible exact weigh_Less.mono _ _ _)
      | (with_reducible exact LeO.refl _)
      | (with_reducible exact LeO.none _)
      | (with_reducible refine LeO.ite ?_ ?_)
      | (with_reducible refine LeO.bind ?_ (fun _ => ?_))
      | exact ih0 _ _ _ _ _ _ _
      | exact ashlarlaw02_floats.mono _ _
      | exact ashlarlaw02_shown.mono _
      | exact weigh_Less.mono _ _ _
      | exact LeO.none _
      | refine LeO.ite ?_ ?_
      | refine LeO.bind ?_ (fun _ => ?_)
theorem ashlarlaw02_WeighRowsTwo.mono : ∀ a0 a1 k, LeO (ashlarlaw02_WeighRowsTwo.f k a0 a1) (ashlarlaw02_WeighRowsTwo.f (k + 1) a0 a1) := by
  intro a0 a1 k
  have ih0 := ashlarlaw02_WeighRowsTwo.mono_l k
  unfold ashlarlaw02_WeighRowsTwo.f
  repeat' first
      | (with_reducible exact ih0 _ _ _ _ _ _ _)
      | (with_reducible exact ashlarlaw02_floats.mono _ _)
      | (with_reducible exact ashlarlaw02_shown.mono _)
      | (with_reducible exact weigh_Less.mono _ _ _)
      | (with_reducible exact LeO.refl _)
      | (with_reducible exact LeO.none _)
      | (with_reducible refine LeO.ite ?_ ?_)
      | (with_reducible refine LeO.bind ?_ (fun _ => ?_))
      | exact ih0 _ _ _ _ _ _ _
      | exact ashlarlaw02_floats.mono _ _
      | exact ashlarlaw02_shown.mono _
      | exact weigh_Less.mono _ _ _
      | exact LeO.none _
      | refine LeO.ite ?_ ?_
      | refine LeO.bind ?_ (fun _ => ?_)
set_option maxHeartbeats 8000000 in
set_option maxRecDepth 100000 in
theorem ashlarlaw02_WeighRowsTwo.calls (k : Nat) (A0 : Option Addr) (c0 : Nat) (l0 : List Int) (A1 : Option Addr) (c1 : Nat) (l1 : List Int) (r : Bool) (w : World) (hr0 : Kd.C (Kd.int .u64) w A0 l0.length l0) (hc0 : l0.length ≤ c0) (hr1 : Kd.C (Kd.int .u64) w A1 l1.length l1) (hc1 : l1.length ≤ c1) (h : ashlarlaw02_WeighRowsTwo.f k l0 l1 = some r) :
    Calls Try.prog 8 #[.slice A0 l0.length c0, .slice A1 l1.length c1] w fun e w' => e = .returned (.bool r) ∧ Below w.heap.size w w' := by
  have HR0 := Aside0.mk hr0
  have HC0 := Aside0.mk hc0
  clear hr0 hc0
  have HR1 := Aside0.mk hr1
  have HC1 := Aside0.mk hc1
  clear hr1 hc1
  have HB := Aside0.mk (Below.refl w.heap.size w)
  have H : ((ashlarlaw02_shown.f k).bind fun t272 => ((ashlarlaw02_floats.f k l0).bind fun t273 => ((ashlarlaw02_floats.f k l1).bind fun t276 => ((weigh_Heavy.f t273).bind fun t279 => ((weigh_Heavy.f t276).bind fun t280 => ((some (([] : List Nat) : List Nat)).bind fun y281 => (if y281.length + t273.length < 17592186044416 then ((some (y281 ++ t273 : List Nat)).bind fun y284 => (if y284.length + t276.length < 17592186044416 then ((weigh_Heavy.f (y284 ++ t276)).bind fun t290 => (if t279 < 0 then (ashlarlaw02_WeighRowsTwo.j0 k t272 t273 t276 t279 t280 t290 (decide (t280 < 0))) else (ashlarlaw02_WeighRowsTwo.j0 k t272 t273 t276 t279 t280 t290 false))) else (none))) else (none)))))))) = some r := h
  clear h
  replace H := Option.bind_eq_some_iff.mp H
  obtain ⟨t272, A30, H⟩ := H
  replace H : ((ashlarlaw02_floats.f k l0).bind fun t273 => ((ashlarlaw02_floats.f k l1).bind fun t276 => ((weigh_Heavy.f t273).bind fun t279 => ((weigh_Heavy.f t276).bind fun t280 => ((some (([] : List Nat) : List Nat)).bind fun y281 => (if y281.length + t273.length < 17592186044416 then ((some (y281 ++ t273 : List Nat)).bind fun y284 => (if y284.length + t276.length < 17592186044416 then ((weigh_Heavy.f (y284 ++ t276)).bind fun t290 => (if t279 < 0 then (ashlarlaw02_WeighRowsTwo.j0 k t272 t273 t276 t279 t280 t290 (decide (t280 < 0))) else (ashlarlaw02_WeighRowsTwo.j0 k t272 t273 t276 t279 t280 t290 false))) else (none))) else (none))))))) = some r := H
  have A3 := Aside0.mk A30
  clear A30
  replace H := Option.bind_eq_some_iff.mp H
  obtain ⟨t273, A40, H⟩ := H
  replace H : ((ashlarlaw02_floats.f k l1).bind fun t276 => ((weigh_Heavy.f t273).bind fun t279 => ((weigh_Heavy.f t276).bind fun t280 => ((some (([] : List Nat) : List Nat)).bind fun y281 => (if y281.length + t273.length < 17592186044416 then ((some (y281 ++ t273 : List Nat)).bind fun y284 => (if y284.length + t276.length < 17592186044416 then ((weigh_Heavy.f (y284 ++ t276)).bind fun t290 => (if t279 < 0 then (ashlarlaw02_WeighRowsTwo.j0 k t272 t273 t276 t279 t280 t290 (decide (t280 < 0))) else (ashlarlaw02_WeighRowsTwo.j0 k t272 t273 t276 t279 t280 t290 false))) else (none))) else (none)))))) = some r := H
  have A4 := Aside0.mk A40
  clear A40
  replace H := Option.bind_eq_some_iff.mp H
  obtain ⟨t276, A50, H⟩ := H
  replace H : ((weigh_Heavy.f t273).bind fun t279 => ((weigh_Heavy.f t276).bind fun t280 => ((some (([] : List Nat) : List Nat)).bind fun y281 => (if y281.length + t273.length < 17592186044416 then ((some (y281 ++ t273 : List Nat)).bind fun y284 => (if y284.length + t276.length < 17592186044416 then ((weigh_Heavy.f (y284 ++ t276)).bind fun t290 => (if t279 < 0 then (ashlarlaw02_WeighRowsTwo.j0 k t272 t273 t276 t279 t280 t290 (decide (t280 < 0))) else (ashlarlaw02_WeighRowsTwo.j0 k t272 t273 t276 t279 t280 t290 false))) else (none))) else (none))))) = some r := H
  have A5 := Aside0.mk A50
  clear A50
  replace H := Option.bind_eq_some_iff.mp H
  obtain ⟨t279, A60, H⟩ := H
  replace H : ((weigh_Heavy.f t276).bind fun t280 => ((some (([] : List Nat) : List Nat)).bind fun y281 => (if y281.length + t273.length < 17592186044416 then ((some (y281 ++ t273 : List Nat)).bind fun y284 => (if y284.length + t276.length < 17592186044416 then ((weigh_Heavy.f (y284 ++ t276)).bind fun t290 => (if t279 < 0 then (ashlarlaw02_WeighRowsTwo.j0 k t272 t273 t276 t279 t280 t290 (decide (t280 < 0))) else (ashlarlaw02_WeighRowsTwo.j0 k t272 t273 t276 t279 t280 t290 false))) else (none))) else (none)))) = some r := H
  have A6 := Aside0.mk A60
  clear A60
  replace H := Option.bind_eq_some_iff.mp H
  obtain ⟨t280, A70, H⟩ := H
  replace H : ((some (([] : List Nat) : List Nat)).bind fun y281 => (if y281.length + t273.length < 17592186044416 then ((some (y281 ++ t273 : List Nat)).bind fun y284 => (if y284.length + t276.length < 17592186044416 then ((weigh_Heavy.f (y284 ++ t276)).bind fun t290 => (if t279 < 0 then (ashlarlaw02_WeighRowsTwo.j0 k t272 t273 t276 t279 t280 t290 (decide (t280 < 0))) else (ashlarlaw02_WeighRowsTwo.j0 k t272 t273 t276 t279 t280 t290 false))) else (none))) else (none))) = some r := H
  have A7 := Aside0.mk A70
  clear A70
  obtain ⟨y281, hy281⟩ : ∃ y_ : List Nat, y_ = (([] : List Nat)) := ⟨_, rfl⟩
  replace H : (if y281.length + t273.length < 17592186044416 then ((some (y281 ++ t273 : List Nat)).bind fun y284 => (if y284.length + t276.length < 17592186044416 then ((weigh_Heavy.f (y284 ++ t276)).bind fun t290 => (if t279 < 0 then (ashlarlaw02_WeighRowsTwo.j0 k t272 t273 t276 t279 t280 t290 (decide (t280 < 0))) else (ashlarlaw02_WeighRowsTwo.j0 k t272 t273 t276 t279 t280 t290 false))) else (none))) else (none)) = some r := by first | (rw [hy281]; with_reducible exact H) | (have H2_ := (Option.bind_some _ _).symm.trans H; rw [hy281]; with_reducible exact H2_) | (have H2_ := (Option.bind_some _ _).symm.trans H; with_reducible exact H2_) | with_reducible exact H | (rw [hy281]; exact H) | exact H
  have Ny281 := Aside0.mk hy281
  clear hy281
  by_cases c8 : y281.length + t273.length < 17592186044416
  · rw [if_pos c8] at H
    have LMc8 := Aside0.mk c8
    clear c8
    obtain ⟨y284, hy284⟩ : ∃ y_ : List Nat, y_ = (y281 ++ t273) := ⟨_, rfl⟩
    replace H : (if y284.length + t276.length < 17592186044416 then ((weigh_Heavy.f (y284 ++ t276)).bind fun t290 => (if t279 < 0 then (ashlarlaw02_WeighRowsTwo.j0 k t272 t273 t276 t279 t280 t290 (decide (t280 < 0))) else (ashlarlaw02_WeighRowsTwo.j0 k t272 t273 t276 t279 t280 t290 false))) else (none)) = some r := by first | (rw [hy284]; with_reducible exact H) | (have H2_ := (Option.bind_some _ _).symm.trans H; rw [hy284]; with_reducible exact H2_) | (have H2_ := (Option.bind_some _ _).symm.trans H; with_reducible exact H2_) | with_reducible exact H | (rw [hy284]; exact H) | exact H
    have Ny284 := Aside0.mk hy284
    clear hy284
    by_cases c9 : y284.length + t276.length < 17592186044416
    · rw [if_pos c9] at H
      have LMc9 := Aside0.mk c9
      clear c9
      obtain ⟨y287, hy287⟩ : ∃ y_ : List Nat, y_ = (y284 ++ t276) := ⟨_, rfl⟩
      replace H : ((weigh_Heavy.f y287).bind fun t290 => (if t279 < 0 then (ashlarlaw02_WeighRowsTwo.j0 k t272 t273 t276 t279 t280 t290 (decide (t280 < 0))) else (ashlarlaw02_WeighRowsTwo.j0 k t272 t273 t276 t279 t280 t290 false))) = some r := by first | (rw [hy287]; with_reducible exact H) | (have H2_ := (Option.bind_some _ _).symm.trans H; rw [hy287]; with_reducible exact H2_) | (have H2_ := (Option.bind_some _ _).symm.trans H; with_reducible exact H2_) | with_reducible exact H | (rw [hy287]; exact H) | exact H
      have Ny287 := Aside0.mk hy287
      clear hy287
      replace H := Option.bind_eq_some_iff.mp H
      obtain ⟨t290, A100, H⟩ := H
      replace H : (if t279 < 0 then (ashlarlaw02_WeighRowsTwo.j0 k t272 t273 t276 t279 t280 t290 (decide (t280 < 0))) else (ashlarlaw02_WeighRowsTwo.j0 k t272 t273 t276 t279 t280 t290 false)) = some r := H
      have A10 := Aside0.mk A100
      clear A100
      have HC11 := Aside0.mk H
      clear H
      go_enter Try.func8, Try.ntmps8
      go_upto_region 7 with (first | (go_at_call 12; (with_reducible refine (ashlarlaw02_shown.calls k  t272 _ A3.out).mono ?_); rintro e w12 ⟨rfl, hb⟩; have n0_ := Aside0.mk (below_step (by repeat (first | (with_reducible first | exact HB.out | apply below_alloc | apply pw_below_drewN | apply below_drew1) | exact HB.out)) hb); clear HB; have HB := n0_; clear n0_; (try clear hb); (try clear hb2); (try clear hk); (try clear hi)) | (go_at_call 13; (with_reducible refine (ashlarlaw02_floats.calls k _ _ l0 t273 _ ?side1 ?side2 A4.out).mono ?_); (case side1 => repeat (first | exact (Kd.C_below HR0.out HB.out) | (with_reducible refine Kd.C_alloc ?_ _) | (with_reducible refine Kd.C_drewN ?_ _) | (with_reducible refine Kd.C_drew ?_))); (case side2 => exact HC0.out); rintro e w13 ⟨v274, rfl, ho0, hb⟩; have n0_ := Aside0.mk (Kd.R_lower ho0 (below_size (by repeat (first | (with_reducible first | exact HB.out | apply below_alloc | apply pw_below_drewN | apply below_drew1) | exact HB.out)))); have n1_ := Aside0.mk (below_step (by repeat (first | (with_reducible first | exact HB.out | apply below_alloc | apply pw_below_drewN | apply below_drew1) | exact HB.out)) hb); clear HB; have HO275 := n0_; have HB := n1_; clear n0_ n1_; (try clear hb); (try clear hb2); (try clear hk); (try clear hi); (try clear ho0)) | (go_at_call 13; (with_reducible refine (ashlarlaw02_floats.calls k _ _ l1 t276 _ ?side1 ?side2 A5.out).mono ?_); (case side1 => repeat (first | exact (Kd.C_below HR1.out HB.out) | (with_reducible refine Kd.C_alloc ?_ _) | (with_reducible refine Kd.C_drewN ?_ _) | (with_reducible refine Kd.C_drew ?_))); (case side2 => exact HC1.out); rintro e w14 ⟨v277, rfl, ho0, hb⟩; have n0_ := Aside0.mk (Kd.R_elder' (by (with_reducible repeat (first | apply Kd.R_alloc | apply Kd.R_drewN | apply Kd.R_drew)); exact HO275.out) (Kd.R_base ho0) hb); have n1_ := Aside0.mk (Kd.R_lower (Kd.R_new' ho0 (Kd.R_lt (by (with_reducible repeat (first | apply Kd.R_alloc | apply Kd.R_drewN | apply Kd.R_drew)); exact HO275.out))) (below_size (by repeat (first | (with_reducible first | exact HB.out | apply below_alloc | apply pw_below_drewN | apply below_drew1) | exact HB.out)))); have n2_ := Aside0.mk (below_step (by repeat (first | (with_reducible first | exact HB.out | apply below_alloc | apply pw_below_drewN | apply below_drew1) | exact HB.out)) hb); clear HO275; clear HB; have HO275 := n0_; have HO278 := n1_; have HB := n2_; clear n0_ n1_ n2_; (try clear hb); (try clear hb2); (try clear hk); (try clear hi); (try clear ho0); obtain ⟨Ao15, co15, eo15⟩ := Kd.R_slice HO275.out; subst eo15) | (go_at_call 16; (with_reducible refine (weigh_Heavy.calls _ _ t273 t279 _ ?side1 ?side2 A6.out).mono ?_); (case side1 => repeat (first | exact (Kd.R_reads' HO275.out).2.2 | (with_reducible refine Kd.C_alloc ?_ _) | (with_reducible refine Kd.C_drewN ?_ _) | (with_reducible refine Kd.C_drew ?_))); (case side2 => exact (Kd.R_reads' HO275.out).2.1); rintro e w16 ⟨rfl, hb⟩; have n0_ := Aside0.mk (Kd.R_below (by (with_reducible repeat (first | apply Kd.R_alloc | apply Kd.R_drewN | apply Kd.R_drew)); exact HO275.out) hb); have n1_ := Aside0.mk (Kd.R_below (by (with_reducible repeat (first | apply Kd.R_alloc | apply Kd.R_drewN | apply Kd.R_drew)); exact HO278.out) hb); have n2_ := Aside0.mk (below_step (by repeat (first | (with_reducible first | exact HB.out | apply below_alloc | apply pw_below_drewN | apply below_drew1) | exact HB.out)) hb); clear HO275; clear HO278; clear HB; have HO275 := n0_; have HO278 := n1_; have HB := n2_; clear n0_ n1_ n2_; (try clear hb); (try clear hb2); (try clear hk); (try clear hi); obtain ⟨Ao17, co17, eo17⟩ := Kd.R_slice HO278.out; subst eo17) | (go_at_call 16; (with_reducible refine (weigh_Heavy.calls _ _ t276 t280 _ ?side1 ?side2 A7.out).mono ?_); (case side1 => repeat (first | exact (Kd.R_reads' HO278.out).2.2 | (with_reducible refine Kd.C_alloc ?_ _) | (with_reducible refine Kd.C_drewN ?_ _) | (with_reducible refine Kd.C_drew ?_))); (case side2 => exact (Kd.R_reads' HO278.out).2.1); rintro e w18 ⟨rfl, hb⟩; have n0_ := Aside0.mk (Kd.R_below (by (with_reducible repeat (first | apply Kd.R_alloc | apply Kd.R_drewN | apply Kd.R_drew)); exact HO275.out) hb); have n1_ := Aside0.mk (Kd.R_below (by (with_reducible repeat (first | apply Kd.R_alloc | apply Kd.R_drewN | apply Kd.R_drew)); exact HO278.out) hb); have n2_ := Aside0.mk (below_step (by repeat (first | (with_reducible first | exact HB.out | apply below_alloc | apply pw_below_drewN | apply below_drew1) | exact HB.out)) hb); clear HO275; clear HO278; clear HB; have HO275 := n0_; have HO278 := n1_; have HB := n2_; clear n0_ n1_ n2_; (try clear hb); (try clear hb2); (try clear hk); (try clear hi)) | ((with_reducible refine gate_dst (N := 20) rfl ?_); (try (refine gate_guard (by rfl) ?_; dsimp only)); refine Kd.R_lit Kd.f64 _ 30 ?hg (N := 20) ?hd (xs := ([] : List Nat)) (inner := []) (ok := fun _ => True) (okp := fun _ => True) ?hr ?hp (fun _ hk => hk) trivial (Below.refl _ _) (Nat.le_refl _) (by simp) ?_; (case hd => rfl); (case hg => rfl); (case hr => first | (go_simp; done) | (go_simp; rfl)); (case hp => exact (Reps.none _ _)); intro v282 w19 ho20 hb hg_ hnew_; clear hg_ hnew_; (first | rw [← Ny281.out] at ho20 | (simp only [Int.reduceToNat] at ho20; rw [← Ny281.out] at ho20)); have n0_ := Aside0.mk (Kd.R_elder' (by (with_reducible repeat (first | apply Kd.R_alloc | apply Kd.R_drewN | apply Kd.R_drew)); exact HO275.out) (Kd.R_base ho20) hb); have n1_ := Aside0.mk (Kd.R_elder' (by (with_reducible repeat (first | apply Kd.R_alloc | apply Kd.R_drewN | apply Kd.R_drew)); exact HO278.out) (Kd.R_base ho20) hb); have n2_ := Aside0.mk (Kd.R_lower (Kd.R_new' (Kd.R_new' ho20 (Kd.R_lt (by (with_reducible repeat (first | apply Kd.R_alloc | apply Kd.R_drewN | apply Kd.R_drew)); exact HO275.out))) (Kd.R_lt (by (with_reducible repeat (first | apply Kd.R_alloc | apply Kd.R_drewN | apply Kd.R_drew)); exact HO278.out))) (below_size (by repeat (first | (with_reducible first | exact HB.out | apply below_alloc | apply pw_below_drewN | apply below_drew1) | exact HB.out)))); have n3_ := Aside0.mk (below_step (by repeat (first | (with_reducible first | exact HB.out | apply below_alloc | apply pw_below_drewN | apply below_drew1) | exact HB.out)) hb); clear HO275; clear HO278; clear HB; have HO275 := n0_; have HO278 := n1_; have HO283 := n2_; have HB := n3_; clear n0_ n1_ n2_ n3_; clear hb ho20) | ((with_reducible refine gate_builtin (b := .append) (xs := #[.tmp 20, .tmp 21]) rfl ?_); (try (refine gate_guard (by rfl) ?_; dsimp only)); at_builtin; refine Kd.R_append_rows Kd.f64 (w0 := w) w.heap.size rfl (.tmp 20) (.tmp 21) 24 30 (.float .f64 0) 8 rfl Try.underlying24 info30 rfl (by decide) (by omega) v282 y281 t273 _ _ _ (fun k_ => some k_ ≠ (.slice Ao15 t273.length co15 : Value).ownBlock ∧ some k_ ≠ (.slice Ao17 t276.length co17 : Value).ownBlock) (fun _ => False) rfl rfl ?aO ?aR (fun _ _ h => h) (fun _ h => h.elim) ?aF ?aB ?aS ?aL ?_; (case aR => repeat (first | exact (Kd.R_reads' HO275.out).2.2 | (with_reducible refine Kd.C_alloc ?_ _) | (with_reducible refine Kd.C_drewN ?_ _) | (with_reducible refine Kd.C_drew ?_))); (case aB => exact (by repeat (first | (with_reducible first | exact HB.out | apply below_alloc | apply pw_below_drewN | apply below_drew1) | exact HB.out))); (case aF => exact (fun k_ hk => ⟨Kd.fresh' (Kd.R_lt (by (with_reducible repeat (first | apply Kd.R_alloc | apply Kd.R_drewN | apply Kd.R_drew)); exact HO275.out)) k_ hk, Kd.fresh' (Kd.R_lt (by (with_reducible repeat (first | apply Kd.R_alloc | apply Kd.R_drewN | apply Kd.R_drew)); exact HO278.out)) k_ hk⟩)); (case aO => exact (by (with_reducible repeat (first | apply Kd.R_alloc | apply Kd.R_drewN | apply Kd.R_drew)); exact Kd.R_mono HO283.out (fun _ hk => ⟨hk.1.2, hk.2⟩))); (case aS => exact (below_size (by repeat (first | (with_reducible first | exact HB.out | apply below_alloc | apply pw_below_drewN | apply below_drew1) | exact HB.out)))); (case aL => have := LMc8.out; omega); intro v285 w21 ho hb hg hat; rw [← Ny284.out] at ho; have n0_ := Aside0.mk (Kd.R_after (ok := (fun k_ => some k_ ≠ (.slice Ao17 t276.length co17 : Value).ownBlock)) (by (with_reducible repeat (first | apply Kd.R_alloc | apply Kd.R_drewN | apply Kd.R_drew)); exact Kd.R_mono HO275.out (fun _ hk => ⟨hk.1.2, hk.2⟩)) hg hat); have n1_ := Aside0.mk (Kd.R_after (ok := (fun k_ => some k_ ≠ (.slice Ao15 t273.length co15 : Value).ownBlock)) (by (with_reducible repeat (first | apply Kd.R_alloc | apply Kd.R_drewN | apply Kd.R_drew)); exact Kd.R_mono HO278.out (fun _ hk => ⟨hk.1.2, hk.2⟩)) hg hat); have n2_ := Aside0.mk (hb); have n3_ := Aside0.mk (ho); clear HO275; clear HO278; clear HB; clear HO283; have HO275 := n0_; have HO278 := n1_; have HB := n2_; have HO286 := n3_; clear n0_ n1_ n2_ n3_; clear ho hb hg hat) | ((with_reducible refine gate_builtin (b := .append) (xs := #[.tmp 22, .tmp 23]) rfl ?_); (try (refine gate_guard (by rfl) ?_; dsimp only)); at_builtin; refine Kd.R_append_rows Kd.f64 (w0 := w) w.heap.size rfl (.tmp 22) (.tmp 23) 24 30 (.float .f64 0) 8 rfl Try.underlying24 info30 rfl (by decide) (by omega) v285 y284 t276 _ _ _ (fun k_ => some k_ ≠ (.slice Ao15 t273.length co15 : Value).ownBlock ∧ some k_ ≠ (.slice Ao17 t276.length co17 : Value).ownBlock) (fun _ => False) rfl rfl ?aO ?aR (fun _ _ h => h) (fun _ h => h.elim) ?aF ?aB ?aS ?aL ?_; (case aR => repeat (first | exact (Kd.R_reads' HO278.out).2.2 | (with_reducible refine Kd.C_alloc ?_ _) | (with_reducible refine Kd.C_drewN ?_ _) | (with_reducible refine Kd.C_drew ?_))); (case aB => exact (by repeat (first | (with_reducible first | exact HB.out | apply below_alloc | apply pw_below_drewN | apply below_drew1) | exact HB.out))); (case aF => exact (fun k_ hk => ⟨Kd.fresh' (Kd.R_lt (by (with_reducible repeat (first | apply Kd.R_alloc | apply Kd.R_drewN | apply Kd.R_drew)); exact HO275.out)) k_ hk, Kd.fresh' (Kd.R_lt (by (with_reducible repeat (first | apply Kd.R_alloc | apply Kd.R_drewN | apply Kd.R_drew)); exact HO278.out)) k_ hk⟩)); (case aO => exact (by (with_reducible repeat (first | apply Kd.R_alloc | apply Kd.R_drewN | apply Kd.R_drew)); exact HO286.out)); (case aS => exact (below_size (by repeat (first | (with_reducible first | exact HB.out | apply below_alloc | apply pw_below_drewN | apply below_drew1) | exact HB.out)))); (case aL => have := LMc9.out; omega); intro v288 w22 ho hb hg hat; rw [← Ny287.out] at ho; have n0_ := Aside0.mk (Kd.R_after (ok := (fun k_ => some k_ ≠ (.slice Ao17 t276.length co17 : Value).ownBlock)) (by (with_reducible repeat (first | apply Kd.R_alloc | apply Kd.R_drewN | apply Kd.R_drew)); exact HO275.out) hg hat); have n1_ := Aside0.mk (Kd.R_after (ok := (fun k_ => some k_ ≠ (.slice Ao15 t273.length co15 : Value).ownBlock)) (by (with_reducible repeat (first | apply Kd.R_alloc | apply Kd.R_drewN | apply Kd.R_drew)); exact HO278.out) hg hat); have n2_ := Aside0.mk (hb); have n3_ := Aside0.mk (ho); clear HO275; clear HO278; clear HB; clear HO286; have HO275 := n0_; have HO278 := n1_; have HB := n2_; have HO289 := n3_; clear n0_ n1_ n2_ n3_; clear ho hb hg hat; obtain ⟨Ao23, co23, eo23⟩ := Kd.R_slice HO289.out; subst eo23) | (go_at_call 16; (with_reducible refine (weigh_Heavy.calls _ _ y287 t290 _ ?side1 ?side2 A10.out).mono ?_); (case side1 => repeat (first | exact (Kd.R_reads' HO289.out).2.2 | (with_reducible refine Kd.C_alloc ?_ _) | (with_reducible refine Kd.C_drewN ?_ _) | (with_reducible refine Kd.C_drew ?_))); (case side2 => exact (Kd.R_reads' HO289.out).2.1); rintro e w24 ⟨rfl, hb⟩; have n0_ := Aside0.mk (Kd.R_below (by (with_reducible repeat (first | apply Kd.R_alloc | apply Kd.R_drewN | apply Kd.R_drew)); exact HO275.out) hb); have n1_ := Aside0.mk (Kd.R_below (by (with_reducible repeat (first | apply Kd.R_alloc | apply Kd.R_drewN | apply Kd.R_drew)); exact HO278.out) hb); have n2_ := Aside0.mk (Kd.R_below (by (with_reducible repeat (first | apply Kd.R_alloc | apply Kd.R_drewN | apply Kd.R_drew)); exact HO289.out) hb); have n3_ := Aside0.mk (below_step (by repeat (first | (with_reducible first | exact HB.out | apply below_alloc | apply pw_below_drewN | apply below_drew1) | exact HB.out)) hb); clear HO275; clear HO278; clear HO289; clear HB; have HO275 := n0_; have HO278 := n1_; have HO289 := n2_; have HB := n3_; clear n0_ n1_ n2_ n3_; (try clear hb); (try clear hb2); (try clear hk); (try clear hi)))
      repeat (go_quiet (first | (go_at_call 12; (with_reducible refine (ashlarlaw02_shown.calls k  t272 _ A3.out).mono ?_); rintro e w12 ⟨rfl, hb⟩; have n0_ := Aside0.mk (below_step (by repeat (first | (with_reducible first | exact HB.out | apply below_alloc | apply pw_below_drewN | apply below_drew1) | exact HB.out)) hb); clear HB; have HB := n0_; clear n0_; (try clear hb); (try clear hb2); (try clear hk); (try clear hi)) | (go_at_call 13; (with_reducible refine (ashlarlaw02_floats.calls k _ _ l0 t273 _ ?side1 ?side2 A4.out).mono ?_); (case side1 => repeat (first | exact (Kd.C_below HR0.out HB.out) | (with_reducible refine Kd.C_alloc ?_ _) | (with_reducible refine Kd.C_drewN ?_ _) | (with_reducible refine Kd.C_drew ?_))); (case side2 => exact HC0.out); rintro e w13 ⟨v274, rfl, ho0, hb⟩; have n0_ := Aside0.mk (Kd.R_lower ho0 (below_size (by repeat (first | (with_reducible first | exact HB.out | apply below_alloc | apply pw_below_drewN | apply below_drew1) | exact HB.out)))); have n1_ := Aside0.mk (below_step (by repeat (first | (with_reducible first | exact HB.out | apply below_alloc | apply pw_below_drewN | apply below_drew1) | exact HB.out)) hb); clear HB; have HO275 := n0_; have HB := n1_; clear n0_ n1_; (try clear hb); (try clear hb2); (try clear hk); (try clear hi); (try clear ho0)) | (go_at_call 13; (with_reducible refine (ashlarlaw02_floats.calls k _ _ l1 t276 _ ?side1 ?side2 A5.out).mono ?_); (case side1 => repeat (first | exact (Kd.C_below HR1.out HB.out) | (with_reducible refine Kd.C_alloc ?_ _) | (with_reducible refine Kd.C_drewN ?_ _) | (with_reducible refine Kd.C_drew ?_))); (case side2 => exact HC1.out); rintro e w14 ⟨v277, rfl, ho0, hb⟩; have n0_ := Aside0.mk (Kd.R_elder' (by (with_reducible repeat (first | apply Kd.R_alloc | apply Kd.R_drewN | apply Kd.R_drew)); exact HO275.out) (Kd.R_base ho0) hb); have n1_ := Aside0.mk (Kd.R_lower (Kd.R_new' ho0 (Kd.R_lt (by (with_reducible repeat (first | apply Kd.R_alloc | apply Kd.R_drewN | apply Kd.R_drew)); exact HO275.out))) (below_size (by repeat (first | (with_reducible first | exact HB.out | apply below_alloc | apply pw_below_drewN | apply below_drew1) | exact HB.out)))); have n2_ := Aside0.mk (below_step (by repeat (first | (with_reducible first | exact HB.out | apply below_alloc | apply pw_below_drewN | apply below_drew1) | exact HB.out)) hb); clear HO275; clear HB; have HO275 := n0_; have HO278 := n1_; have HB := n2_; clear n0_ n1_ n2_; (try clear hb); (try clear hb2); (try clear hk); (try clear hi); (try clear ho0); obtain ⟨Ao15, co15, eo15⟩ := Kd.R_slice HO275.out; subst eo15) | (go_at_call 16; (with_reducible refine (weigh_Heavy.calls _ _ t273 t279 _ ?side1 ?side2 A6.out).mono ?_); (case side1 => repeat (first | exact (Kd.R_reads' HO275.out).2.2 | (with_reducible refine Kd.C_alloc ?_ _) | (with_reducible refine Kd.C_drewN ?_ _) | (with_reducible refine Kd.C_drew ?_))); (case side2 => exact (Kd.R_reads' HO275.out).2.1); rintro e w16 ⟨rfl, hb⟩; have n0_ := Aside0.mk (Kd.R_below (by (with_reducible repeat (first | apply Kd.R_alloc | apply Kd.R_drewN | apply Kd.R_drew)); exact HO275.out) hb); have n1_ := Aside0.mk (Kd.R_below (by (with_reducible repeat (first | apply Kd.R_alloc | apply Kd.R_drewN | apply Kd.R_drew)); exact HO278.out) hb); have n2_ := Aside0.mk (below_step (by repeat (first | (with_reducible first | exact HB.out | apply below_alloc | apply pw_below_drewN | apply below_drew1) | exact HB.out)) hb); clear HO275; clear HO278; clear HB; have HO275 := n0_; have HO278 := n1_; have HB := n2_; clear n0_ n1_ n2_; (try clear hb); (try clear hb2); (try clear hk); (try clear hi); obtain ⟨Ao17, co17, eo17⟩ := Kd.R_slice HO278.out; subst eo17) | (go_at_call 16; (with_reducible refine (weigh_Heavy.calls _ _ t276 t280 _ ?side1 ?side2 A7.out).mono ?_); (case side1 => repeat (first | exact (Kd.R_reads' HO278.out).2.2 | (with_reducible refine Kd.C_alloc ?_ _) | (with_reducible refine Kd.C_drewN ?_ _) | (with_reducible refine Kd.C_drew ?_))); (case side2 => exact (Kd.R_reads' HO278.out).2.1); rintro e w18 ⟨rfl, hb⟩; have n0_ := Aside0.mk (Kd.R_below (by (with_reducible repeat (first | apply Kd.R_alloc | apply Kd.R_drewN | apply Kd.R_drew)); exact HO275.out) hb); have n1_ := Aside0.mk (Kd.R_below (by (with_reducible repeat (first | apply Kd.R_alloc | apply Kd.R_drewN | apply Kd.R_drew)); exact HO278.out) hb); have n2_ := Aside0.mk (below_step (by repeat (first | (with_reducible first | exact HB.out | apply below_alloc | apply pw_below_drewN | apply below_drew1) | exact HB.out)) hb); clear HO275; clear HO278; clear HB; have HO275 := n0_; have HO278 := n1_; have HB := n2_; clear n0_ n1_ n2_; (try clear hb); (try clear hb2); (try clear hk); (try clear hi)) | ((with_reducible refine gate_dst (N := 20) rfl ?_); (try (refine gate_guard (by rfl) ?_; dsimp only)); refine Kd.R_lit Kd.f64 _ 30 ?hg (N := 20) ?hd (xs := ([] : List Nat)) (inner := []) (ok := fun _ => True) (okp := fun _ => True) ?hr ?hp (fun _ hk => hk) trivial (Below.refl _ _) (Nat.le_refl _) (by simp) ?_; (case hd => rfl); (case hg => rfl); (case hr => first | (go_simp; done) | (go_simp; rfl)); (case hp => exact (Reps.none _ _)); intro v282 w19 ho20 hb hg_ hnew_; clear hg_ hnew_; (first | rw [← Ny281.out] at ho20 | (simp only [Int.reduceToNat] at ho20; rw [← Ny281.out] at ho20)); have n0_ := Aside0.mk (Kd.R_elder' (by (with_reducible repeat (first | apply Kd.R_alloc | apply Kd.R_drewN | apply Kd.R_drew)); exact HO275.out) (Kd.R_base ho20) hb); have n1_ := Aside0.mk (Kd.R_elder' (by (with_reducible repeat (first | apply Kd.R_alloc | apply Kd.R_drewN | apply Kd.R_drew)); exact HO278.out) (Kd.R_base ho20) hb); have n2_ := Aside0.mk (Kd.R_lower (Kd.R_new' (Kd.R_new' ho20 (Kd.R_lt (by (with_reducible repeat (first | apply Kd.R_alloc | apply Kd.R_drewN | apply Kd.R_drew)); exact HO275.out))) (Kd.R_lt (by (with_reducible repeat (first | apply Kd.R_alloc | apply Kd.R_drewN | apply Kd.R_drew)); exact HO278.out))) (below_size (by repeat (first | (with_reducible first | exact HB.out | apply below_alloc | apply pw_below_drewN | apply below_drew1) | exact HB.out)))); have n3_ := Aside0.mk (below_step (by repeat (first | (with_reducible first | exact HB.out | apply below_alloc | apply pw_below_drewN | apply below_drew1) | exact HB.out)) hb); clear HO275; clear HO278; clear HB; have HO275 := n0_; have HO278 := n1_; have HO283 := n2_; have HB := n3_; clear n0_ n1_ n2_ n3_; clear hb ho20) | ((with_reducible refine gate_builtin (b := .append) (xs := #[.tmp 20, .tmp 21]) rfl ?_); (try (refine gate_guard (by rfl) ?_; dsimp only)); at_builtin; refine Kd.R_append_rows Kd.f64 (w0 := w) w.heap.size rfl (.tmp 20) (.tmp 21) 24 30 (.float .f64 0) 8 rfl Try.underlying24 info30 rfl (by decide) (by omega) v282 y281 t273 _ _ _ (fun k_ => some k_ ≠ (.slice Ao15 t273.length co15 : Value).ownBlock ∧ some k_ ≠ (.slice Ao17 t276.length co17 : Value).ownBlock) (fun _ => False) rfl rfl ?aO ?aR (fun _ _ h => h) (fun _ h => h.elim) ?aF ?aB ?aS ?aL ?_; (case aR => repeat (first | exact (Kd.R_reads' HO275.out).2.2 | (with_reducible refine Kd.C_alloc ?_ _) | (with_reducible refine Kd.C_drewN ?_ _) | (with_reducible refine Kd.C_drew ?_))); (case aB => exact (by repeat (first | (with_reducible first | exact HB.out | apply below_alloc | apply pw_below_drewN | apply below_drew1) | exact HB.out))); (case aF => exact (fun k_ hk => ⟨Kd.fresh' (Kd.R_lt (by (with_reducible repeat (first | apply Kd.R_alloc | apply Kd.R_drewN | apply Kd.R_drew)); exact HO275.out)) k_ hk, Kd.fresh' (Kd.R_lt (by (with_reducible repeat (first | apply Kd.R_alloc | apply Kd.R_drewN | apply Kd.R_drew)); exact HO278.out)) k_ hk⟩)); (case aO => exact (by (with_reducible repeat (first | apply Kd.R_alloc | apply Kd.R_drewN | apply Kd.R_drew)); exact Kd.R_mono HO283.out (fun _ hk => ⟨hk.1.2, hk.2⟩))); (case aS => exact (below_size (by repeat (first | (with_reducible first | exact HB.out | apply below_alloc | apply pw_below_drewN | apply below_drew1) | exact HB.out)))); (case aL => have := LMc8.out; omega); intro v285 w21 ho hb hg hat; rw [← Ny284.out] at ho; have n0_ := Aside0.mk (Kd.R_after (ok := (fun k_ => some k_ ≠ (.slice Ao17 t276.length co17 : Value).ownBlock)) (by (with_reducible repeat (first | apply Kd.R_alloc | apply Kd.R_drewN | apply Kd.R_drew)); exact Kd.R_mono HO275.out (fun _ hk => ⟨hk.1.2, hk.2⟩)) hg hat); have n1_ := Aside0.mk (Kd.R_after (ok := (fun k_ => some k_ ≠ (.slice Ao15 t273.length co15 : Value).ownBlock)) (by (with_reducible repeat (first | apply Kd.R_alloc | apply Kd.R_drewN | apply Kd.R_drew)); exact Kd.R_mono HO278.out (fun _ hk => ⟨hk.1.2, hk.2⟩)) hg hat); have n2_ := Aside0.mk (hb); have n3_ := Aside0.mk (ho); clear HO275; clear HO278; clear HB; clear HO283; have HO275 := n0_; have HO278 := n1_; have HB := n2_; have HO286 := n3_; clear n0_ n1_ n2_ n3_; clear ho hb hg hat) | ((with_reducible refine gate_builtin (b := .append) (xs := #[.tmp 22, .tmp 23]) rfl ?_); (try (refine gate_guard (by rfl) ?_; dsimp only)); at_builtin; refine Kd.R_append_rows Kd.f64 (w0 := w) w.heap.size rfl (.tmp 22) (.tmp 23) 24 30 (.float .f64 0) 8 rfl Try.underlying24 info30 rfl (by decide) (by omega) v285 y284 t276 _ _ _ (fun k_ => some k_ ≠ (.slice Ao15 t273.length co15 : Value).ownBlock ∧ some k_ ≠ (.slice Ao17 t276.length co17 : Value).ownBlock) (fun _ => False) rfl rfl ?aO ?aR (fun _ _ h => h) (fun _ h => h.elim) ?aF ?aB ?aS ?aL ?_; (case aR => repeat (first | exact (Kd.R_reads' HO278.out).2.2 | (with_reducible refine Kd.C_alloc ?_ _) | (with_reducible refine Kd.C_drewN ?_ _) | (with_reducible refine Kd.C_drew ?_))); (case aB => exact (by repeat (first | (with_reducible first | exact HB.out | apply below_alloc | apply pw_below_drewN | apply below_drew1) | exact HB.out))); (case aF => exact (fun k_ hk => ⟨Kd.fresh' (Kd.R_lt (by (with_reducible repeat (first | apply Kd.R_alloc | apply Kd.R_drewN | apply Kd.R_drew)); exact HO275.out)) k_ hk, Kd.fresh' (Kd.R_lt (by (with_reducible repeat (first | apply Kd.R_alloc | apply Kd.R_drewN | apply Kd.R_drew)); exact HO278.out)) k_ hk⟩)); (case aO => exact (by (with_reducible repeat (first | apply Kd.R_alloc | apply Kd.R_drewN | apply Kd.R_drew)); exact HO286.out)); (case aS => exact (below_size (by repeat (first | (with_reducible first | exact HB.out | apply below_alloc | apply pw_below_drewN | apply below_drew1) | exact HB.out)))); (case aL => have := LMc9.out; omega); intro v288 w22 ho hb hg hat; rw [← Ny287.out] at ho; have n0_ := Aside0.mk (Kd.R_after (ok := (fun k_ => some k_ ≠ (.slice Ao17 t276.length co17 : Value).ownBlock)) (by (with_reducible repeat (first | apply Kd.R_alloc | apply Kd.R_drewN | apply Kd.R_drew)); exact HO275.out) hg hat); have n1_ := Aside0.mk (Kd.R_after (ok := (fun k_ => some k_ ≠ (.slice Ao15 t273.length co15 : Value).ownBlock)) (by (with_reducible repeat (first | apply Kd.R_alloc | apply Kd.R_drewN | apply Kd.R_drew)); exact HO278.out) hg hat); have n2_ := Aside0.mk (hb); have n3_ := Aside0.mk (ho); clear HO275; clear HO278; clear HB; clear HO286; have HO275 := n0_; have HO278 := n1_; have HB := n2_; have HO289 := n3_; clear n0_ n1_ n2_ n3_; clear ho hb hg hat; obtain ⟨Ao23, co23, eo23⟩ := Kd.R_slice HO289.out; subst eo23) | (go_at_call 16; (with_reducible refine (weigh_Heavy.calls _ _ y287 t290 _ ?side1 ?side2 A10.out).mono ?_); (case side1 => repeat (first | exact (Kd.R_reads' HO289.out).2.2 | (with_reducible refine Kd.C_alloc ?_ _) | (with_reducible refine Kd.C_drewN ?_ _) | (with_reducible refine Kd.C_drew ?_))); (case side2 => exact (Kd.R_reads' HO289.out).2.1); rintro e w24 ⟨rfl, hb⟩; have n0_ := Aside0.mk (Kd.R_below (by (with_reducible repeat (first | apply Kd.R_alloc | apply Kd.R_drewN | apply Kd.R_drew)); exact HO275.out) hb); have n1_ := Aside0.mk (Kd.R_below (by (with_reducible repeat (first | apply Kd.R_alloc | apply Kd.R_drewN | apply Kd.R_drew)); exact HO278.out) hb); have n2_ := Aside0.mk (Kd.R_below (by (with_reducible repeat (first | apply Kd.R_alloc | apply Kd.R_drewN | apply Kd.R_drew)); exact HO289.out) hb); have n3_ := Aside0.mk (below_step (by repeat (first | (with_reducible first | exact HB.out | apply below_alloc | apply pw_below_drewN | apply below_drew1) | exact HB.out)) hb); clear HO275; clear HO278; clear HO289; clear HB; have HO275 := n0_; have HO278 := n1_; have HO289 := n2_; have HB := n3_; clear n0_ n1_ n2_ n3_; (try clear hb); (try clear hb2); (try clear hk); (try clear hi))); go_upto_region 7 with (first | (go_at_call 12; (with_reducible refine (ashlarlaw02_shown.calls k  t272 _ A3.out).mono ?_); rintro e w12 ⟨rfl, hb⟩; have n0_ := Aside0.mk (below_step (by repeat (first | (with_reducible first | exact HB.out | apply below_alloc | apply pw_below_drewN | apply below_drew1) | exact HB.out)) hb); clear HB; have HB := n0_; clear n0_; (try clear hb); (try clear hb2); (try clear hk); (try clear hi)) | (go_at_call 13; (with_reducible refine (ashlarlaw02_floats.calls k _ _ l0 t273 _ ?side1 ?side2 A4.out).mono ?_); (case side1 => repeat (first | exact (Kd.C_below HR0.out HB.out) | (with_reducible refine Kd.C_alloc ?_ _) | (with_reducible refine Kd.C_drewN ?_ _) | (with_reducible refine Kd.C_drew ?_))); (case side2 => exact HC0.out); rintro e w13 ⟨v274, rfl, ho0, hb⟩; have n0_ := Aside0.mk (Kd.R_lower ho0 (below_size (by repeat (first | (with_reducible first | exact HB.out | apply below_alloc | apply pw_below_drewN | apply below_drew1) | exact HB.out)))); have n1_ := Aside0.mk (below_step (by repeat (first | (with_reducible first | exact HB.out | apply below_alloc | apply pw_below_drewN | apply below_drew1) | exact HB.out)) hb); clear HB; have HO275 := n0_; have HB := n1_; clear n0_ n1_; (try clear hb); (try clear hb2); (try clear hk); (try clear hi); (try clear ho0)) | (go_at_call 13; (with_reducible refine (ashlarlaw02_floats.calls k _ _ l1 t276 _ ?side1 ?side2 A5.out).mono ?_); (case side1 => repeat (first | exact (Kd.C_below HR1.out HB.out) | (with_reducible refine Kd.C_alloc ?_ _) | (with_reducible refine Kd.C_drewN ?_ _) | (with_reducible refine Kd.C_drew ?_))); (case side2 => exact HC1.out); rintro e w14 ⟨v277, rfl, ho0, hb⟩; have n0_ := Aside0.mk (Kd.R_elder' (by (with_reducible repeat (first | apply Kd.R_alloc | apply Kd.R_drewN | apply Kd.R_drew)); exact HO275.out) (Kd.R_base ho0) hb); have n1_ := Aside0.mk (Kd.R_lower (Kd.R_new' ho0 (Kd.R_lt (by (with_reducible repeat (first | apply Kd.R_alloc | apply Kd.R_drewN | apply Kd.R_drew)); exact HO275.out))) (below_size (by repeat (first | (with_reducible first | exact HB.out | apply below_alloc | apply pw_below_drewN | apply below_drew1) | exact HB.out)))); have n2_ := Aside0.mk (below_step (by repeat (first | (with_reducible first | exact HB.out | apply below_alloc | apply pw_below_drewN | apply below_drew1) | exact HB.out)) hb); clear HO275; clear HB; have HO275 := n0_; have HO278 := n1_; have HB := n2_; clear n0_ n1_ n2_; (try clear hb); (try clear hb2); (try clear hk); (try clear hi); (try clear ho0); obtain ⟨Ao15, co15, eo15⟩ := Kd.R_slice HO275.out; subst eo15) | (go_at_call 16; (with_reducible refine (weigh_Heavy.calls _ _ t273 t279 _ ?side1 ?side2 A6.out).mono ?_); (case side1 => repeat (first | exact (Kd.R_reads' HO275.out).2.2 | (with_reducible refine Kd.C_alloc ?_ _) | (with_reducible refine Kd.C_drewN ?_ _) | (with_reducible refine Kd.C_drew ?_))); (case side2 => exact (Kd.R_reads' HO275.out).2.1); rintro e w16 ⟨rfl, hb⟩; have n0_ := Aside0.mk (Kd.R_below (by (with_reducible repeat (first | apply Kd.R_alloc | apply Kd.R_drewN | apply Kd.R_drew)); exact HO275.out) hb); have n1_ := Aside0.mk (Kd.R_below (by (with_reducible repeat (first | apply Kd.R_alloc | apply Kd.R_drewN | apply Kd.R_drew)); exact HO278.out) hb); have n2_ := Aside0.mk (below_step (by repeat (first | (with_reducible first | exact HB.out | apply below_alloc | apply pw_below_drewN | apply below_drew1) | exact HB.out)) hb); clear HO275; clear HO278; clear HB; have HO275 := n0_; have HO278 := n1_; have HB := n2_; clear n0_ n1_ n2_; (try clear hb); (try clear hb2); (try clear hk); (try clear hi); obtain ⟨Ao17, co17, eo17⟩ := Kd.R_slice HO278.out; subst eo17) | (go_at_call 16; (with_reducible refine (weigh_Heavy.calls _ _ t276 t280 _ ?side1 ?side2 A7.out).mono ?_); (case side1 => repeat (first | exact (Kd.R_reads' HO278.out).2.2 | (with_reducible refine Kd.C_alloc ?_ _) | (with_reducible refine Kd.C_drewN ?_ _) | (with_reducible refine Kd.C_drew ?_))); (case side2 => exact (Kd.R_reads' HO278.out).2.1); rintro e w18 ⟨rfl, hb⟩; have n0_ := Aside0.mk (Kd.R_below (by (with_reducible repeat (first | apply Kd.R_alloc | apply Kd.R_drewN | apply Kd.R_drew)); exact HO275.out) hb); have n1_ := Aside0.mk (Kd.R_below (by (with_reducible repeat (first | apply Kd.R_alloc | apply Kd.R_drewN | apply Kd.R_drew)); exact HO278.out) hb); have n2_ := Aside0.mk (below_step (by repeat (first | (with_reducible first | exact HB.out | apply below_alloc | apply pw_below_drewN | apply below_drew1) | exact HB.out)) hb); clear HO275; clear HO278; clear HB; have HO275 := n0_; have HO278 := n1_; have HB := n2_; clear n0_ n1_ n2_; (try clear hb); (try clear hb2); (try clear hk); (try clear hi)) | ((with_reducible refine gate_dst (N := 20) rfl ?_); (try (refine gate_guard (by rfl) ?_; dsimp only)); refine Kd.R_lit Kd.f64 _ 30 ?hg (N := 20) ?hd (xs := ([] : List Nat)) (inner := []) (ok := fun _ => True) (okp := fun _ => True) ?hr ?hp (fun _ hk => hk) trivial (Below.refl _ _) (Nat.le_refl _) (by simp) ?_; (case hd => rfl); (case hg => rfl); (case hr => first | (go_simp; done) | (go_simp; rfl)); (case hp => exact (Reps.none _ _)); intro v282 w19 ho20 hb hg_ hnew_; clear hg_ hnew_; (first | rw [← Ny281.out] at ho20 | (simp only [Int.reduceToNat] at ho20; rw [← Ny281.out] at ho20)); have n0_ := Aside0.mk (Kd.R_elder' (by (with_reducible repeat (first | apply Kd.R_alloc | apply Kd.R_drewN | apply Kd.R_drew)); exact HO275.out) (Kd.R_base ho20) hb); have n1_ := Aside0.mk (Kd.R_elder' (by (with_reducible repeat (first | apply Kd.R_alloc | apply Kd.R_drewN | apply Kd.R_drew)); exact HO278.out) (Kd.R_base ho20) hb); have n2_ := Aside0.mk (Kd.R_lower (Kd.R_new' (Kd.R_new' ho20 (Kd.R_lt (by (with_reducible repeat (first | apply Kd.R_alloc | apply Kd.R_drewN | apply Kd.R_drew)); exact HO275.out))) (Kd.R_lt (by (with_reducible repeat (first | apply Kd.R_alloc | apply Kd.R_drewN | apply Kd.R_drew)); exact HO278.out))) (below_size (by repeat (first | (with_reducible first | exact HB.out | apply below_alloc | apply pw_below_drewN | apply below_drew1) | exact HB.out)))); have n3_ := Aside0.mk (below_step (by repeat (first | (with_reducible first | exact HB.out | apply below_alloc | apply pw_below_drewN | apply below_drew1) | exact HB.out)) hb); clear HO275; clear HO278; clear HB; have HO275 := n0_; have HO278 := n1_; have HO283 := n2_; have HB := n3_; clear n0_ n1_ n2_ n3_; clear hb ho20) | ((with_reducible refine gate_builtin (b := .append) (xs := #[.tmp 20, .tmp 21]) rfl ?_); (try (refine gate_guard (by rfl) ?_; dsimp only)); at_builtin; refine Kd.R_append_rows Kd.f64 (w0 := w) w.heap.size rfl (.tmp 20) (.tmp 21) 24 30 (.float .f64 0) 8 rfl Try.underlying24 info30 rfl (by decide) (by omega) v282 y281 t273 _ _ _ (fun k_ => some k_ ≠ (.slice Ao15 t273.length co15 : Value).ownBlock ∧ some k_ ≠ (.slice Ao17 t276.length co17 : Value).ownBlock) (fun _ => False) rfl rfl ?aO ?aR (fun _ _ h => h) (fun _ h => h.elim) ?aF ?aB ?aS ?aL ?_; (case aR => repeat (first | exact (Kd.R_reads' HO275.out).2.2 | (with_reducible refine Kd.C_alloc ?_ _) | (with_reducible refine Kd.C_drewN ?_ _) | (with_reducible refine Kd.C_drew ?_))); (case aB => exact (by repeat (first | (with_reducible first | exact HB.out | apply below_alloc | apply pw_below_drewN | apply below_drew1) | exact HB.out))); (case aF => exact (fun k_ hk => ⟨Kd.fresh' (Kd.R_lt (by (with_reducible repeat (first | apply Kd.R_alloc | apply Kd.R_drewN | apply Kd.R_drew)); exact HO275.out)) k_ hk, Kd.fresh' (Kd.R_lt (by (with_reducible repeat (first | apply Kd.R_alloc | apply Kd.R_drewN | apply Kd.R_drew)); exact HO278.out)) k_ hk⟩)); (case aO => exact (by (with_reducible repeat (first | apply Kd.R_alloc | apply Kd.R_drewN | apply Kd.R_drew)); exact Kd.R_mono HO283.out (fun _ hk => ⟨hk.1.2, hk.2⟩))); (case aS => exact (below_size (by repeat (first | (with_reducible first | exact HB.out | apply below_alloc | apply pw_below_drewN | apply below_drew1) | exact HB.out)))); (case aL => have := LMc8.out; omega); intro v285 w21 ho hb hg hat; rw [← Ny284.out] at ho; have n0_ := Aside0.mk (Kd.R_after (ok := (fun k_ => some k_ ≠ (.slice Ao17 t276.length co17 : Value).ownBlock)) (by (with_reducible repeat (first | apply Kd.R_alloc | apply Kd.R_drewN | apply Kd.R_drew)); exact Kd.R_mono HO275.out (fun _ hk => ⟨hk.1.2, hk.2⟩)) hg hat); have n1_ := Aside0.mk (Kd.R_after (ok := (fun k_ => some k_ ≠ (.slice Ao15 t273.length co15 : Value).ownBlock)) (by (with_reducible repeat (first | apply Kd.R_alloc | apply Kd.R_drewN | apply Kd.R_drew)); exact Kd.R_mono HO278.out (fun _ hk => ⟨hk.1.2, hk.2⟩)) hg hat); have n2_ := Aside0.mk (hb); have n3_ := Aside0.mk (ho); clear HO275; clear HO278; clear HB; clear HO283; have HO275 := n0_; have HO278 := n1_; have HB := n2_; have HO286 := n3_; clear n0_ n1_ n2_ n3_; clear ho hb hg hat) | ((with_reducible refine gate_builtin (b := .append) (xs := #[.tmp 22, .tmp 23]) rfl ?_); (try (refine gate_guard (by rfl) ?_; dsimp only)); at_builtin; refine Kd.R_append_rows Kd.f64 (w0 := w) w.heap.size rfl (.tmp 22) (.tmp 23) 24 30 (.float .f64 0) 8 rfl Try.underlying24 info30 rfl (by decide) (by omega) v285 y284 t276 _ _ _ (fun k_ => some k_ ≠ (.slice Ao15 t273.length co15 : Value).ownBlock ∧ some k_ ≠ (.slice Ao17 t276.length co17 : Value).ownBlock) (fun _ => False) rfl rfl ?aO ?aR (fun _ _ h => h) (fun _ h => h.elim) ?aF ?aB ?aS ?aL ?_; (case aR => repeat (first | exact (Kd.R_reads' HO278.out).2.2 | (with_reducible refine Kd.C_alloc ?_ _) | (with_reducible refine Kd.C_drewN ?_ _) | (with_reducible refine Kd.C_drew ?_))); (case aB => exact (by repeat (first | (with_reducible first | exact HB.out | apply below_alloc | apply pw_below_drewN | apply below_drew1) | exact HB.out))); (case aF => exact (fun k_ hk => ⟨Kd.fresh' (Kd.R_lt (by (with_reducible repeat (first | apply Kd.R_alloc | apply Kd.R_drewN | apply Kd.R_drew)); exact HO275.out)) k_ hk, Kd.fresh' (Kd.R_lt (by (with_reducible repeat (first | apply Kd.R_alloc | apply Kd.R_drewN | apply Kd.R_drew)); exact HO278.out)) k_ hk⟩)); (case aO => exact (by (with_reducible repeat (first | apply Kd.R_alloc | apply Kd.R_drewN | apply Kd.R_drew)); exact HO286.out)); (case aS => exact (below_size (by repeat (first | (with_reducible first | exact HB.out | apply below_alloc | apply pw_below_drewN | apply below_drew1) | exact HB.out)))); (case aL => have := LMc9.out; omega); intro v288 w22 ho hb hg hat; rw [← Ny287.out] at ho; have n0_ := Aside0.mk (Kd.R_after (ok := (fun k_ => some k_ ≠ (.slice Ao17 t276.length co17 : Value).ownBlock)) (by (with_reducible repeat (first | apply Kd.R_alloc | apply Kd.R_drewN | apply Kd.R_drew)); exact HO275.out) hg hat); have n1_ := Aside0.mk (Kd.R_after (ok := (fun k_ => some k_ ≠ (.slice Ao15 t273.length co15 : Value).ownBlock)) (by (with_reducible repeat (first | apply Kd.R_alloc | apply Kd.R_drewN | apply Kd.R_drew)); exact HO278.out) hg hat); have n2_ := Aside0.mk (hb); have n3_ := Aside0.mk (ho); clear HO275; clear HO278; clear HB; clear HO286; have HO275 := n0_; have HO278 := n1_; have HB := n2_; have HO289 := n3_; clear n0_ n1_ n2_ n3_; clear ho hb hg hat; obtain ⟨Ao23, co23, eo23⟩ := Kd.R_slice HO289.out; subst eo23) | (go_at_call 16; (with_reducible refine (weigh_Heavy.calls _ _ y287 t290 _ ?side1 ?side2 A10.out).mono ?_); (case side1 => repeat (first | exact (Kd.R_reads' HO289.out).2.2 | (with_reducible refine Kd.C_alloc ?_ _) | (with_reducible refine Kd.C_drewN ?_ _) | (with_reducible refine Kd.C_drew ?_))); (case side2 => exact (Kd.R_reads' HO289.out).2.1); rintro e w24 ⟨rfl, hb⟩; have n0_ := Aside0.mk (Kd.R_below (by (with_reducible repeat (first | apply Kd.R_alloc | apply Kd.R_drewN | apply Kd.R_drew)); exact HO275.out) hb); have n1_ := Aside0.mk (Kd.R_below (by (with_reducible repeat (first | apply Kd.R_alloc | apply Kd.R_drewN | apply Kd.R_drew)); exact HO278.out) hb); have n2_ := Aside0.mk (Kd.R_below (by (with_reducible repeat (first | apply Kd.R_alloc | apply Kd.R_drewN | apply Kd.R_drew)); exact HO289.out) hb); have n3_ := Aside0.mk (below_step (by repeat (first | (with_reducible first | exact HB.out | apply below_alloc | apply pw_below_drewN | apply below_drew1) | exact HB.out)) hb); clear HO275; clear HO278; clear HO289; clear HB; have HO275 := n0_; have HO278 := n1_; have HO289 := n2_; have HB := n3_; clear n0_ n1_ n2_ n3_; (try clear hb); (try clear hb2); (try clear hk); (try clear hi))))
      (try simp only [Act.put, List.setIfInBounds_toArray, List.set_cons_zero, List.set_cons_succ])
      go_cut [26] (fun v26 wc => ∃ (kq : Nat) (x26_10 : Bool), v26 = .bool x26_10 ∧ Aside0 (ashlarlaw02_WeighRowsTwo.j0 kq t272 t273 t276 t279 t280 t290 x26_10 = some r) ∧ Aside0 (kq ≤ k) ∧ Aside0 (Kd.R Kd.f64 30 wc w.heap.size (fun k_ => some k_ ≠ ((.slice Ao17 t276.length co17) : Value).ownBlock) (.slice Ao15 t273.length co15) t273) ∧ Aside0 (Kd.R Kd.f64 30 wc w.heap.size (fun k_ => some k_ ≠ ((.slice Ao15 t273.length co15) : Value).ownBlock) (.slice Ao17 t276.length co17) t276) ∧ Aside0 (Below w.heap.size w wc))
      case first =>
        have H := HC11.out
        clear HC11
        by_cases c25 : t279 < 0
        · rw [if_pos c25] at H
          have c25b0 : decide (t279 < 0) = true := decide_eq_true c25
          clear c25
          (first | rw [c25b0] | (simp only [i64_w, i32_w]; rw [c25b0]) | skip)
          have H' := Aside0.mk H
          clear H
          go_wp2
          repeat (go_quiet (fail); try go_wp2)
          go_meet
          case rel => exact ⟨_, (decide (t280 < 0)), (by first | rfl | (simp; done) | (simp [*]; done)), H', ⟨by first | omega | exact Nat.le_refl _⟩, ⟨by (with_reducible repeat (first | apply Kd.R_alloc | apply Kd.R_drewN | apply Kd.R_drew)); exact Kd.R_mono HO275.out (fun _ hk => hk.1)⟩, ⟨by (with_reducible repeat (first | apply Kd.R_alloc | apply Kd.R_drewN | apply Kd.R_drew)); exact Kd.R_mono HO278.out (fun _ hk => hk.1)⟩, ⟨by repeat (first | (with_reducible first | exact HB.out | apply below_alloc | apply pw_below_drewN | apply below_drew1) | exact HB.out)⟩⟩
        · rw [if_neg c25] at H
          have c25b0 : decide (t279 < 0) = false := decide_eq_false c25
          clear c25
          (first | rw [c25b0] | (simp only [i64_w, i32_w]; rw [c25b0]) | skip)
          have H' := Aside0.mk H
          clear H
          go_wp2
          repeat (go_quiet (fail); try go_wp2)
          go_meet
          case rel => exact ⟨_, (false), (by first | rfl | (simp; done) | (simp [*]; done)), H', ⟨by first | omega | exact Nat.le_refl _⟩, ⟨by (with_reducible repeat (first | apply Kd.R_alloc | apply Kd.R_drewN | apply Kd.R_drew)); exact Kd.R_mono HO275.out (fun _ hk => hk.1)⟩, ⟨by (with_reducible repeat (first | apply Kd.R_alloc | apply Kd.R_drewN | apply Kd.R_drew)); exact Kd.R_mono HO278.out (fun _ hk => hk.1)⟩, ⟨by repeat (first | (with_reducible first | exact HB.out | apply below_alloc | apply pw_below_drewN | apply below_drew1) | exact HB.out)⟩⟩
      case rest =>
        clear HC11
        try clear c1
        try clear c2
        try clear p2
        try clear c8
        try clear c9
        try clear c25
        try clear c25b0
        obtain ⟨kq, x26_10, rfl, HA, HJ10, HO_6, HO_7, HB⟩ := hcut
        cases kq with
        | zero => exact absurd HA.out (by simp [ashlarlaw02_WeighRowsTwo.j0])
        | succ kj10 =>
          have H := HA.out
          clear HA
          simp only [ashlarlaw02_WeighRowsTwo.j0] at H
          by_cases c26 : x26_10 = true
          · subst c26
            have H1 : (if t272 = true then (some (decide (t290 < 0))) else (some false)) = some r := by rw [if_pos rfl] at H; exact H
            clear H
            have H := H1
            clear H1
            by_cases c27 : t272 = true
            · subst c27
              have H1 : (some (decide (t290 < 0))) = some r := by rw [if_pos rfl] at H; exact H
              clear H
              have H := H1
              clear H1
              obtain rfl := Option.some.inj H
              go_wp2
              repeat (go_quiet (fail); try go_wp2)
              go_ret
              exact ⟨by first | rfl | (simp [errW_none, errW_some] <;> rfl) | (simp [*, errW_none, errW_some] <;> rfl), by repeat (first | (with_reducible first | exact HB.out | apply below_alloc | apply pw_below_drewN | apply below_drew1) | exact HB.out)⟩
            · replace c27 := Bool.eq_false_iff.mpr c27
              subst c27
              have H1 : (some false) = some r := by rw [if_neg (show ¬ (false = true) by decide)] at H; exact H
              clear H
              have H := H1
              clear H1
              obtain rfl := Option.some.inj H
              go_wp2
              repeat (go_quiet (fail); try go_wp2)
              go_ret
              exact ⟨by first | rfl | (simp [errW_none, errW_some] <;> rfl) | (simp [*, errW_none, errW_some] <;> rfl), by repeat (first | (with_reducible first | exact HB.out | apply below_alloc | apply pw_below_drewN | apply below_drew1) | exact HB.out)⟩
          · replace c26 := Bool.eq_false_iff.mpr c26
            subst c26
            have H1 : (if t279 < 0 then (if t272 = true then (some (t290 == t280)) else (some false)) else (if t280 < 0 then (if t272 = true then (some (t290 == t279)) else (some false)) else (if 0 ≤ t279 then (if t279 < (t273.length : Int) then (if 0 ≤ t280 then (if t280 < (t276.length : Int) then ((weigh_Less.f kj10 (rdOf (0 : Nat) t273 t279) (rdOf (0 : Nat) t276 t280)).bind fun t293 => (if t293 = true then (if t272 = true then (some (t290 == (wrap64 ((t273.length : Int) + t280)))) else (some false)) else (if t272 = true then (some (t290 == t279)) else (some false)))) else (none)) else (none)) else (none)) else (none)))) = some r := by rw [if_neg (show ¬ (false = true) by decide)] at H; exact H
            clear H
            have H := H1
            clear H1
            by_cases c28 : t279 < 0
            · rw [if_pos c28] at H
              have c28b0 : decide (t279 < 0) = true := decide_eq_true c28
              clear c28
              by_cases c29 : t272 = true
              · subst c29
                have H1 : (some (t290 == t280)) = some r := by rw [if_pos rfl] at H; exact H
                clear H
                have H := H1
                clear H1
                obtain rfl := Option.some.inj H
                go_wp2
                repeat (go_quiet (fail); try go_wp2)
                go_ret
                exact ⟨by first | rfl | (simp [errW_none, errW_some] <;> rfl) | (simp [*, errW_none, errW_some] <;> rfl), by repeat (first | (with_reducible first | exact HB.out | apply below_alloc | apply pw_below_drewN | apply below_drew1) | exact HB.out)⟩
              · replace c29 := Bool.eq_false_iff.mpr c29
                subst c29
                have H1 : (some false) = some r := by rw [if_neg (show ¬ (false = true) by decide)] at H; exact H
                clear H
                have H := H1
                clear H1
                obtain rfl := Option.some.inj H
                go_wp2
                repeat (go_quiet (fail); try go_wp2)
                go_ret
                exact ⟨by first | rfl | (simp [errW_none, errW_some] <;> rfl) | (simp [*, errW_none, errW_some] <;> rfl), by repeat (first | (with_reducible first | exact HB.out | apply below_alloc | apply pw_below_drewN | apply below_drew1) | exact HB.out)⟩
            · rw [if_neg c28] at H
              have c28b0 : decide (t279 < 0) = false := decide_eq_false c28
              clear c28
              by_cases c30 : t280 < 0
              · rw [if_pos c30] at H
                have c30b0 : decide (t280 < 0) = true := decide_eq_true c30
                clear c30
                by_cases c31 : t272 = true
                · subst c31
                  have H1 : (some (t290 == t279)) = some r := by rw [if_pos rfl] at H; exact H
                  clear H
                  have H := H1
                  clear H1
                  obtain rfl := Option.some.inj H
                  go_wp2
                  repeat (go_quiet (fail); try go_wp2)
                  go_ret
                  exact ⟨by first | rfl | (simp [errW_none, errW_some] <;> rfl) | (simp [*, errW_none, errW_some] <;> rfl), by repeat (first | (with_reducible first | exact HB.out | apply below_alloc | apply pw_below_drewN | apply below_drew1) | exact HB.out)⟩
                · replace c31 := Bool.eq_false_iff.mpr c31
                  subst c31
                  have H1 : (some false) = some r := by rw [if_neg (show ¬ (false = true) by decide)] at H; exact H
                  clear H
                  have H := H1
                  clear H1
                  obtain rfl := Option.some.inj H
                  go_wp2
                  repeat (go_quiet (fail); try go_wp2)
                  go_ret
                  exact ⟨by first | rfl | (simp [errW_none, errW_some] <;> rfl) | (simp [*, errW_none, errW_some] <;> rfl), by repeat (first | (with_reducible first | exact HB.out | apply below_alloc | apply pw_below_drewN | apply below_drew1) | exact HB.out)⟩
              · rw [if_neg c30] at H
                have c30b0 : decide (t280 < 0) = false := decide_eq_false c30
                clear c30
                by_cases c32 : 0 ≤ t279
                · rw [if_pos c32] at H
                  have c32b0 : decide (0 ≤ t279) = true := decide_eq_true c32
                  clear c32
                  by_cases c33 : t279 < (t273.length : Int)
                  · rw [if_pos c33] at H
                    have c33b0 : decide (t279 < (t273.length : Int)) = true := decide_eq_true c33
                    clear c33
                    by_cases c34 : 0 ≤ t280
                    · rw [if_pos c34] at H
                      have c34b0 : decide (0 ≤ t280) = true := decide_eq_true c34
                      clear c34
                      by_cases c35 : t280 < (t276.length : Int)
                      · rw [if_pos c35] at H
                        have c35b0 : decide (t280 < (t276.length : Int)) = true := decide_eq_true c35
                        clear c35
                        replace H := Option.bind_eq_some_iff.mp H
                        obtain ⟨t293, A360, H⟩ := H
                        replace H : (if t293 = true then (if t272 = true then (some (t290 == (wrap64 ((t273.length : Int) + t280)))) else (some false)) else (if t272 = true then (some (t290 == t279)) else (some false))) = some r := H
                        have A36 := Aside0.mk A360
                        clear A360
                        by_cases c37 : t293 = true
                        · subst c37
                          have H1 : (if t272 = true then (some (t290 == (wrap64 ((t273.length : Int) + t280)))) else (some false)) = some r := by rw [if_pos rfl] at H; exact H
                          clear H
                          have H := H1
                          clear H1
                          by_cases c38 : t272 = true
                          · subst c38
                            have H1 : (some (t290 == (wrap64 ((t273.length : Int) + t280)))) = some r := by rw [if_pos rfl] at H; exact H
                            clear H
                            have H := H1
                            clear H1
                            obtain rfl := Option.some.inj H
                            have p291 : 0 ≤ (t279 : Int) := of_decide_eq_true (by first | (with_reducible assumption) | assumption)
                            have q291 : t279 < (t273.length : Int) := of_decide_eq_true (by first | (with_reducible assumption) | assumption)
                            obtain ⟨ad291, e291, hx291_0⟩ := Kd.at_f64 (Kd.R_reads' HO_6.out).2.2 t279 p291 q291
                            cases e291
                            replace p291 := eq_true p291
                            replace q291 := eq_true q291
                            have p292 : 0 ≤ (t280 : Int) := of_decide_eq_true (by first | (with_reducible assumption) | assumption)
                            have q292 : t280 < (t276.length : Int) := of_decide_eq_true (by first | (with_reducible assumption) | assumption)
                            obtain ⟨ad292, e292, hx292_0⟩ := Kd.at_f64 (Kd.R_reads' HO_7.out).2.2 t280 p292 q292
                            cases e292
                            replace p292 := eq_true p292
                            replace q292 := eq_true q292
                            go_wp2_with (first | (go_at_call 21; (with_reducible refine (weigh_Less.calls kj10 (rdOf (0 : Nat) t273 t279) (rdOf (0 : Nat) t276 t280) true _ A36.out).mono ?_); rintro e w' ⟨rfl, ⟨nd, rfl⟩⟩; (try first | exact ⟨rfl, _, World.drewN_drewN _ _ _⟩ | exact ⟨rfl, _, Eq.trans (World.drewN_drewN _ _ _) (congrArg (World.drewN _) (Nat.add_assoc _ _ _))⟩)))
                            repeat (go_quiet (first | (go_at_call 21; (with_reducible refine (weigh_Less.calls kj10 (rdOf (0 : Nat) t273 t279) (rdOf (0 : Nat) t276 t280) true _ A36.out).mono ?_); rintro e w' ⟨rfl, ⟨nd, rfl⟩⟩; (try first | exact ⟨rfl, _, World.drewN_drewN _ _ _⟩ | exact ⟨rfl, _, Eq.trans (World.drewN_drewN _ _ _) (congrArg (World.drewN _) (Nat.add_assoc _ _ _))⟩))); try go_wp2_with (first | (go_at_call 21; (with_reducible refine (weigh_Less.calls kj10 (rdOf (0 : Nat) t273 t279) (rdOf (0 : Nat) t276 t280) true _ A36.out).mono ?_); rintro e w' ⟨rfl, ⟨nd, rfl⟩⟩; (try first | exact ⟨rfl, _, World.drewN_drewN _ _ _⟩ | exact ⟨rfl, _, Eq.trans (World.drewN_drewN _ _ _) (congrArg (World.drewN _) (Nat.add_assoc _ _ _))⟩))))
                            go_ret
                            exact ⟨by first | rfl | (simp [errW_none, errW_some] <;> rfl) | (simp [*, errW_none, errW_some] <;> rfl), by repeat (first | (with_reducible first | exact HB.out | apply below_alloc | apply pw_below_drewN | apply below_drew1) | exact HB.out)⟩
                          · replace c38 := Bool.eq_false_iff.mpr c38
                            subst c38
                            have H1 : (some false) = some r := by rw [if_neg (show ¬ (false = true) by decide)] at H; exact H
                            clear H
                            have H := H1
                            clear H1
                            obtain rfl := Option.some.inj H
                            have p291 : 0 ≤ (t279 : Int) := of_decide_eq_true (by first | (with_reducible assumption) | assumption)
                            have q291 : t279 < (t273.length : Int) := of_decide_eq_true (by first | (with_reducible assumption) | assumption)
                            obtain ⟨ad291, e291, hx291_0⟩ := Kd.at_f64 (Kd.R_reads' HO_6.out).2.2 t279 p291 q291
                            cases e291
                            replace p291 := eq_true p291
                            replace q291 := eq_true q291
                            have p292 : 0 ≤ (t280 : Int) := of_decide_eq_true (by first | (with_reducible assumption) | assumption)
                            have q292 : t280 < (t276.length : Int) := of_decide_eq_true (by first | (with_reducible assumption) | assumption)
                            obtain ⟨ad292, e292, hx292_0⟩ := Kd.at_f64 (Kd.R_reads' HO_7.out).2.2 t280 p292 q292
                            cases e292
                            replace p292 := eq_true p292
                            replace q292 := eq_true q292
                            go_wp2_with (first | (go_at_call 21; (with_reducible refine (weigh_Less.calls kj10 (rdOf (0 : Nat) t273 t279) (rdOf (0 : Nat) t276 t280) true _ A36.out).mono ?_); rintro e w' ⟨rfl, ⟨nd, rfl⟩⟩; (try first | exact ⟨rfl, _, World.drewN_drewN _ _ _⟩ | exact ⟨rfl, _, Eq.trans (World.drewN_drewN _ _ _) (congrArg (World.drewN _) (Nat.add_assoc _ _ _))⟩)))
                            repeat (go_quiet (first | (go_at_call 21; (with_reducible refine (weigh_Less.calls kj10 (rdOf (0 : Nat) t273 t279) (rdOf (0 : Nat) t276 t280) true _ A36.out).mono ?_); rintro e w' ⟨rfl, ⟨nd, rfl⟩⟩; (try first | exact ⟨rfl, _, World.drewN_drewN _ _ _⟩ | exact ⟨rfl, _, Eq.trans (World.drewN_drewN _ _ _) (congrArg (World.drewN _) (Nat.add_assoc _ _ _))⟩))); try go_wp2_with (first | (go_at_call 21; (with_reducible refine (weigh_Less.calls kj10 (rdOf (0 : Nat) t273 t279) (rdOf (0 : Nat) t276 t280) true _ A36.out).mono ?_); rintro e w' ⟨rfl, ⟨nd, rfl⟩⟩; (try first | exact ⟨rfl, _, World.drewN_drewN _ _ _⟩ | exact ⟨rfl, _, Eq.trans (World.drewN_drewN _ _ _) (congrArg (World.drewN _) (Nat.add_assoc _ _ _))⟩))))
                            go_ret
                            exact ⟨by first | rfl | (simp [errW_none, errW_some] <;> rfl) | (simp [*, errW_none, errW_some] <;> rfl), by repeat (first | (with_reducible first | exact HB.out | apply below_alloc | apply pw_below_drewN | apply below_drew1) | exact HB.out)⟩
                        · replace c37 := Bool.eq_false_iff.mpr c37
                          subst c37
                          have H1 : (if t272 = true then (some (t290 == t279)) else (some false)) = some r := by rw [if_neg (show ¬ (false = true) by decide)] at H; exact H
                          clear H
                          have H := H1
                          clear H1
                          by_cases c39 : t272 = true
                          · subst c39
                            have H1 : (some (t290 == t279)) = some r := by rw [if_pos rfl] at H; exact H
                            clear H
                            have H := H1
                            clear H1
                            obtain rfl := Option.some.inj H
                            have p291 : 0 ≤ (t279 : Int) := of_decide_eq_true (by first | (with_reducible assumption) | assumption)
                            have q291 : t279 < (t273.length : Int) := of_decide_eq_true (by first | (with_reducible assumption) | assumption)
                            obtain ⟨ad291, e291, hx291_0⟩ := Kd.at_f64 (Kd.R_reads' HO_6.out).2.2 t279 p291 q291
                            cases e291
                            replace p291 := eq_true p291
                            replace q291 := eq_true q291
                            have p292 : 0 ≤ (t280 : Int) := of_decide_eq_true (by first | (with_reducible assumption) | assumption)
                            have q292 : t280 < (t276.length : Int) := of_decide_eq_true (by first | (with_reducible assumption) | assumption)
                            obtain ⟨ad292, e292, hx292_0⟩ := Kd.at_f64 (Kd.R_reads' HO_7.out).2.2 t280 p292 q292
                            cases e292
                            replace p292 := eq_true p292
                            replace q292 := eq_true q292
                            go_wp2_with (first | (go_at_call 21; (with_reducible refine (weigh_Less.calls kj10 (rdOf (0 : Nat) t273 t279) (rdOf (0 : Nat) t276 t280) false _ A36.out).mono ?_); rintro e w' ⟨rfl, ⟨nd, rfl⟩⟩; (try first | exact ⟨rfl, _, World.drewN_drewN _ _ _⟩ | exact ⟨rfl, _, Eq.trans (World.drewN_drewN _ _ _) (congrArg (World.drewN _) (Nat.add_assoc _ _ _))⟩)))
                            repeat (go_quiet (first | (go_at_call 21; (with_reducible refine (weigh_Less.calls kj10 (rdOf (0 : Nat) t273 t279) (rdOf (0 : Nat) t276 t280) false _ A36.out).mono ?_); rintro e w' ⟨rfl, ⟨nd, rfl⟩⟩; (try first | exact ⟨rfl, _, World.drewN_drewN _ _ _⟩ | exact ⟨rfl, _, Eq.trans (World.drewN_drewN _ _ _) (congrArg (World.drewN _) (Nat.add_assoc _ _ _))⟩))); try go_wp2_with (first | (go_at_call 21; (with_reducible refine (weigh_Less.calls kj10 (rdOf (0 : Nat) t273 t279) (rdOf (0 : Nat) t276 t280) false _ A36.out).mono ?_); rintro e w' ⟨rfl, ⟨nd, rfl⟩⟩; (try first | exact ⟨rfl, _, World.drewN_drewN _ _ _⟩ | exact ⟨rfl, _, Eq.trans (World.drewN_drewN _ _ _) (congrArg (World.drewN _) (Nat.add_assoc _ _ _))⟩))))
                            go_ret
                            exact ⟨by first | rfl | (simp [errW_none, errW_some] <;> rfl) | (simp [*, errW_none, errW_some] <;> rfl), by repeat (first | (with_reducible first | exact HB.out | apply below_alloc | apply pw_below_drewN | apply below_drew1) | exact HB.out)⟩
                          · replace c39 := Bool.eq_false_iff.mpr c39
                            subst c39
                            have H1 : (some false) = some r := by rw [if_neg (show ¬ (false = true) by decide)] at H; exact H
                            clear H
                            have H := H1
                            clear H1
                            obtain rfl := Option.some.inj H
                            have p291 : 0 ≤ (t279 : Int) := of_decide_eq_true (by first | (with_reducible assumption) | assumption)
                            have q291 : t279 < (t273.length : Int) := of_decide_eq_true (by first | (with_reducible assumption) | assumption)
                            obtain ⟨ad291, e291, hx291_0⟩ := Kd.at_f64 (Kd.R_reads' HO_6.out).2.2 t279 p291 q291
                            cases e291
                            replace p291 := eq_true p291
                            replace q291 := eq_true q291
                            have p292 : 0 ≤ (t280 : Int) := of_decide_eq_true (by first | (with_reducible assumption) | assumption)
                            have q292 : t280 < (t276.length : Int) := of_decide_eq_true (by first | (with_reducible assumption) | assumption)
                            obtain ⟨ad292, e292, hx292_0⟩ := Kd.at_f64 (Kd.R_reads' HO_7.out).2.2 t280 p292 q292
                            cases e292
                            replace p292 := eq_true p292
                            replace q292 := eq_true q292
                            go_wp2_with (first | (go_at_call 21; (with_reducible refine (weigh_Less.calls kj10 (rdOf (0 : Nat) t273 t279) (rdOf (0 : Nat) t276 t280) false _ A36.out).mono ?_); rintro e w' ⟨rfl, ⟨nd, rfl⟩⟩; (try first | exact ⟨rfl, _, World.drewN_drewN _ _ _⟩ | exact ⟨rfl, _, Eq.trans (World.drewN_drewN _ _ _) (congrArg (World.drewN _) (Nat.add_assoc _ _ _))⟩)))
                            repeat (go_quiet (first | (go_at_call 21; (with_reducible refine (weigh_Less.calls kj10 (rdOf (0 : Nat) t273 t279) (rdOf (0 : Nat) t276 t280) false _ A36.out).mono ?_); rintro e w' ⟨rfl, ⟨nd, rfl⟩⟩; (try first | exact ⟨rfl, _, World.drewN_drewN _ _ _⟩ | exact ⟨rfl, _, Eq.trans (World.drewN_drewN _ _ _) (congrArg (World.drewN _) (Nat.add_assoc _ _ _))⟩))); try go_wp2_with (first | (go_at_call 21; (with_reducible refine (weigh_Less.calls kj10 (rdOf (0 : Nat) t273 t279) (rdOf (0 : Nat) t276 t280) false _ A36.out).mono ?_); rintro e w' ⟨rfl, ⟨nd, rfl⟩⟩; (try first | exact ⟨rfl, _, World.drewN_drewN _ _ _⟩ | exact ⟨rfl, _, Eq.trans (World.drewN_drewN _ _ _) (congrArg (World.drewN _) (Nat.add_assoc _ _ _))⟩))))
                            go_ret
                            exact ⟨by first | rfl | (simp [errW_none, errW_some] <;> rfl) | (simp [*, errW_none, errW_some] <;> rfl), by repeat (first | (with_reducible first | exact HB.out | apply below_alloc | apply pw_below_drewN | apply below_drew1) | exact HB.out)⟩
                      · rw [if_neg c35] at H
                        exact absurd H (by simp)
                    · rw [if_neg c34] at H
                      exact absurd H (by simp)
                  · rw [if_neg c33] at H
                    exact absurd H (by simp)
                · rw [if_neg c32] at H
                  exact absurd H (by simp)
    · rw [if_neg c9] at H
      exact absurd H (by simp)
  · rw [if_neg c8] at H
    exact absurd H (by simp)

/-- THE ONE PURE STATEMENT of ashlarlaw02_WeighRowsTwo: yours. -/
def ashlarlaw02_WeighRowsTwo.Pure : Prop := ∀ (l0 : List Int) (l1 : List Int), l0.length ≤ maxLen → l0.length * 8 ≤ 140737488351232 → (∀ x ∈ l0, (Lit.int .u64 x).wf = true) → l1.length ≤ maxLen → l1.length * 8 ≤ 140737488351232 → (∀ x ∈ l1, (Lit.int .u64 x).wf = true) → ∃ k, ashlarlaw02_WeighRowsTwo.f k l0 l1 = some true
theorem ashlarlaw02_WeighRowsTwo.walk (P : ashlarlaw02_WeighRowsTwo.Pure) (a0 : Option Addr) (len0 cap0 : Nat) (z0 : List Int) (a1 : Option Addr) (len1 cap1 : Nat) (z1 : List Int) (w : World) (w0 : (a0 = none ∧ len0 = 0 ∧ cap0 = 0 ∧ z0 = []) ∨ ∃ x, a0 = some x ∧ len0 ≤ cap0 ∧ cap0 ≤ maxLen ∧ z0.length = cap0 ∧ (∀ i, i < z0.length → w.cell? (x.add i) = some (.int .u64 (z0.getD i 0))) ∧ ∀ n ∈ z0, (Lit.int .u64 n).wf = true) (y0 : len0 * 8 ≤ 140737488351232) (w1 : (a1 = none ∧ len1 = 0 ∧ cap1 = 0 ∧ z1 = []) ∨ ∃ x, a1 = some x ∧ len1 ≤ cap1 ∧ cap1 ≤ maxLen ∧ z1.length = cap1 ∧ (∀ i, i < z1.length → w.cell? (x.add i) = some (.int .u64 (z1.getD i 0))) ∧ ∀ n ∈ z1, (Lit.int .u64 n).wf = true) (y1 : len1 * 8 ≤ 140737488351232) :
    Calls Try.prog 8 #[.slice a0 len0 cap0, .slice a1 len1 cap1] w fun e w' => e = .returned (.bool true) ∧ Below w.heap.size w w' := by
  obtain ⟨l0, rfl, hr0, hm0, hw0, hc0⟩ := ReadsInt.ofRowC w0
  obtain ⟨l1, rfl, hr1, hm1, hw1, hc1⟩ := ReadsInt.ofRowC w1
  obtain ⟨k, h⟩ := P l0 l1 hm0 y0 hw0 hm1 y1 hw1
  refine (ashlarlaw02_WeighRowsTwo.calls k _ _ l0 _ _ l1 true w (Kd.C_of_reads (d := (0 : Int)) (h1 := fun _ => rfl) hr0) hc0 (Kd.C_of_reads (d := (0 : Int)) (h1 := fun _ => rfl) hr1) hc1 h).mono ?_
  rintro e w' ⟨rfl, hd⟩
  exact ⟨rfl, hd⟩

/-! ### ashlarref02_Bump: function 28 -/
def ashlarref02_Bump.f (a0 : Nat) (a1 : Nat) : Option (Nat) := (ashlarref02_Tame.f a0).bind fun t294 => ((ashlarref02_Tame.f a1).bind fun t295 => (if fAddOk t294 t295 = true then ((ashlarref02_Tame.f (fAdd t294 t295)).bind fun t296 => (some t296)) else (none)))
set_option maxHeartbeats 8000000 in
set_option maxRecDepth 100000 in
theorem ashlarref02_Bump.calls (a0 : Nat) (a1 : Nat) (r : Nat) (w : World) (h : ashlarref02_Bump.f a0 a1 = some r) :
    Calls Try.prog 28 #[.float .f64 a0, .float .f64 a1] w fun e w' => e = .returned (.float .f64 r) ∧ Drawn0 w w' := by
  have H : ((ashlarref02_Tame.f a0).bind fun t294 => ((ashlarref02_Tame.f a1).bind fun t295 => (if fAddOk t294 t295 = true then ((ashlarref02_Tame.f (fAdd t294 t295)).bind fun t296 => (some t296)) else (none)))) = some r := h
  clear h
  replace H := Option.bind_eq_some_iff.mp H
  obtain ⟨t294, A30, H⟩ := H
  replace H : ((ashlarref02_Tame.f a1).bind fun t295 => (if fAddOk t294 t295 = true then ((ashlarref02_Tame.f (fAdd t294 t295)).bind fun t296 => (some t296)) else (none))) = some r := H
  have A3 := Aside0.mk A30
  clear A30
  replace H := Option.bind_eq_some_iff.mp H
  obtain ⟨t295, A40, H⟩ := H
  replace H : (if fAddOk t294 t295 = true then ((ashlarref02_Tame.f (fAdd t294 t295)).bind fun t296 => (some t296)) else (none)) = some r := H
  have A4 := Aside0.mk A40
  clear A40
  by_cases c5 : fAddOk t294 t295 = true
  · rw [if_pos c5] at H
    have c5b0 := eq_true c5
    have c5b1 : decide (fAddOk t294 t295 = true) = true := decide_eq_true c5
    clear c5
    replace H := Option.bind_eq_some_iff.mp H
    obtain ⟨t296, A60, H⟩ := H
    replace H : (some t296) = some r := H
    have A6 := Aside0.mk A60
    clear A60
    obtain rfl := Option.some.inj H
    go_enter Try.func28, Try.ntmps28
    go_wp2_with (first | ((with_reducible refine gate_callee (f := 26) rfl ?_); refine goesL_ (some 8) rfl rfl Try.func26 (by kernel_rfl) rfl #[.float .f64 a0] rfl (by (try simp only [List.map_toArray, List.map_cons, List.map_nil]); first | done | rfl | (simp only [List.length_drop, List.length_take]; rfl)) ?_; (with_reducible refine (ashlarref02_Tame.calls a0 t294 _ A3.out).mono ?_); rintro e w' ⟨rfl, ⟨nd, rfl⟩⟩; refine ⟨_, rfl, ?_⟩) | ((with_reducible refine gate_callee (f := 26) rfl ?_); refine goesL_ (some 10) rfl rfl Try.func26 (by kernel_rfl) rfl #[.float .f64 a1] rfl (by (try simp only [List.map_toArray, List.map_cons, List.map_nil]); first | done | rfl | (simp only [List.length_drop, List.length_take]; rfl)) ?_; (with_reducible refine (ashlarref02_Tame.calls a1 t295 _ A4.out).mono ?_); rintro e w' ⟨rfl, ⟨nd, rfl⟩⟩; refine ⟨_, rfl, ?_⟩) | ((with_reducible refine gate_callee (f := 26) rfl ?_); refine goesL_ (some 14) rfl rfl Try.func26 (by kernel_rfl) rfl #[.float .f64 (fAdd t294 t295)] rfl (by (try simp only [List.map_toArray, List.map_cons, List.map_nil]); first | done | rfl | (simp only [List.length_drop, List.length_take]; rfl)) ?_; (with_reducible refine (ashlarref02_Tame.calls (fAdd t294 t295) t296 _ A6.out).mono ?_); rintro e w' ⟨rfl, ⟨nd, rfl⟩⟩; refine ⟨_, rfl, ?_⟩))
    go_ret
    exact ⟨by first | rfl | (simp; done) | (simp [*]; done), by repeat (first | exact Drawn0.refl _ | apply Drawn0.step)⟩
  · rw [if_neg c5] at H
    exact absurd H (by simp)

/-! ### weigh_Decay: function 29 -/
def weigh_Decay.f (a0 : Nat) : Option (Nat) := (weigh_Tame.f a0).bind fun t297 => (if fDivOk t297 4606732058837280358 = true then ((weigh_Tame.f (fDiv t297 4606732058837280358)).bind fun t298 => (some t298)) else (none))
set_option maxHeartbeats 8000000 in
set_option maxRecDepth 100000 in
theorem weigh_Decay.calls (a0 : Nat) (r : Nat) (w : World) (h : weigh_Decay.f a0 = some r) :
    Calls Try.prog 29 #[.float .f64 a0] w fun e w' => e = .returned (.float .f64 r) ∧ Drawn0 w w' := by
  have H : ((weigh_Tame.f a0).bind fun t297 => (if fDivOk t297 4606732058837280358 = true then ((weigh_Tame.f (fDiv t297 4606732058837280358)).bind fun t298 => (some t298)) else (none))) = some r := h
  clear h
  replace H := Option.bind_eq_some_iff.mp H
  obtain ⟨t297, A20, H⟩ := H
  replace H : (if fDivOk t297 4606732058837280358 = true then ((weigh_Tame.f (fDiv t297 4606732058837280358)).bind fun t298 => (some t298)) else (none)) = some r := H
  have A2 := Aside0.mk A20
  clear A20
  by_cases c3 : fDivOk t297 4606732058837280358 = true
  · rw [if_pos c3] at H
    have c3b0 := eq_true c3
    have c3b1 : decide (fDivOk t297 4606732058837280358 = true) = true := decide_eq_true c3
    clear c3
    replace H := Option.bind_eq_some_iff.mp H
    obtain ⟨t298, A40, H⟩ := H
    replace H : (some t298) = some r := H
    have A4 := Aside0.mk A40
    clear A40
    obtain rfl := Option.some.inj H
    go_enter Try.func29, Try.ntmps29
    go_wp2_with (first | ((with_reducible refine gate_callee (f := 22) rfl ?_); refine goesL_ (some 4) rfl rfl Try.func22 (by kernel_rfl) rfl #[.float .f64 a0] rfl (by (try simp only [List.map_toArray, List.map_cons, List.map_nil]); first | done | rfl | (simp only [List.length_drop, List.length_take]; rfl)) ?_; (with_reducible refine (weigh_Tame.calls a0 t297 _ A2.out).mono ?_); rintro e w' ⟨rfl, ⟨nd, rfl⟩⟩; refine ⟨_, rfl, ?_⟩) | ((with_reducible refine gate_callee (f := 22) rfl ?_); refine goesL_ (some 6) rfl rfl Try.func22 (by kernel_rfl) rfl #[.float .f64 (fDiv t297 4606732058837280358)] rfl (by (try simp only [List.map_toArray, List.map_cons, List.map_nil]); first | done | rfl | (simp only [List.length_drop, List.length_take]; rfl)) ?_; (with_reducible refine (weigh_Tame.calls (fDiv t297 4606732058837280358) t298 _ A4.out).mono ?_); rintro e w' ⟨rfl, ⟨nd, rfl⟩⟩; refine ⟨_, rfl, ?_⟩))
    go_ret
    exact ⟨by first | rfl | (simp; done) | (simp [*]; done), by repeat (first | exact Drawn0.refl _ | apply Drawn0.step)⟩
  · rw [if_neg c3] at H
    exact absurd H (by simp)

/-! ### ashlarref02_Decay: function 30 -/
def ashlarref02_Decay.f (a0 : Nat) : Option (Nat) := (ashlarref02_Tame.f a0).bind fun t299 => (if fDivOk t299 4606732058837280358 = true then ((ashlarref02_Tame.f (fDiv t299 4606732058837280358)).bind fun t300 => (some t300)) else (none))
set_option maxHeartbeats 8000000 in
set_option maxRecDepth 100000 in
theorem ashlarref02_Decay.calls (a0 : Nat) (r : Nat) (w : World) (h : ashlarref02_Decay.f a0 = some r) :
    Calls Try.prog 30 #[.float .f64 a0] w fun e w' => e = .returned (.float .f64 r) ∧ Drawn0 w w' := by
  have H : ((ashlarref02_Tame.f a0).bind fun t299 => (if fDivOk t299 4606732058837280358 = true then ((ashlarref02_Tame.f (fDiv t299 4606732058837280358)).bind fun t300 => (some t300)) else (none))) = some r := h
  clear h
  replace H := Option.bind_eq_some_iff.mp H
  obtain ⟨t299, A20, H⟩ := H
  replace H : (if fDivOk t299 4606732058837280358 = true then ((ashlarref02_Tame.f (fDiv t299 4606732058837280358)).bind fun t300 => (some t300)) else (none)) = some r := H
  have A2 := Aside0.mk A20
  clear A20
  by_cases c3 : fDivOk t299 4606732058837280358 = true
  · rw [if_pos c3] at H
    have c3b0 := eq_true c3
    have c3b1 : decide (fDivOk t299 4606732058837280358 = true) = true := decide_eq_true c3
    clear c3
    replace H := Option.bind_eq_some_iff.mp H
    obtain ⟨t300, A40, H⟩ := H
    replace H : (some t300) = some r := H
    have A4 := Aside0.mk A40
    clear A40
    obtain rfl := Option.some.inj H
    go_enter Try.func30, Try.ntmps30
    go_wp2_with (first | ((with_reducible refine gate_callee (f := 26) rfl ?_); refine goesL_ (some 5) rfl rfl Try.func26 (by kernel_rfl) rfl #[.float .f64 a0] rfl (by (try simp only [List.map_toArray, List.map_cons, List.map_nil]); first | done | rfl | (simp only [List.length_drop, List.length_take]; rfl)) ?_; (with_reducible refine (ashlarref02_Tame.calls a0 t299 _ A2.out).mono ?_); rintro e w' ⟨rfl, ⟨nd, rfl⟩⟩; refine ⟨_, rfl, ?_⟩) | ((with_reducible refine gate_callee (f := 26) rfl ?_); refine goesL_ (some 8) rfl rfl Try.func26 (by kernel_rfl) rfl #[.float .f64 (fDiv t299 4606732058837280358)] rfl (by (try simp only [List.map_toArray, List.map_cons, List.map_nil]); first | done | rfl | (simp only [List.length_drop, List.length_take]; rfl)) ?_; (with_reducible refine (ashlarref02_Tame.calls (fDiv t299 4606732058837280358) t300 _ A4.out).mono ?_); rintro e w' ⟨rfl, ⟨nd, rfl⟩⟩; refine ⟨_, rfl, ?_⟩))
    go_ret
    exact ⟨by first | rfl | (simp; done) | (simp [*]; done), by repeat (first | exact Drawn0.refl _ | apply Drawn0.step)⟩
  · rw [if_neg c3] at H
    exact absurd H (by simp)

/-! ### ashlarlaw02_WeighTells: function 9 -/
def ashlarlaw02_WeighTells.f (k : Nat) (a0 : Int) (a1 : Int) : Option (Bool) := (ashlarlaw02_shown.f k).bind fun t301 => (if t301 = true then ((weigh_Tame.f a0.toNat).bind fun t302 => ((ashlarref02_Tame.f a0.toNat).bind fun t303 => ((ashlarlaw02_same.f t302 t303).bind fun t304 => (if t304 = true then ((weigh_Less.f k a0.toNat a1.toNat).bind fun t305 => ((ashlarref02_Place.f a0.toNat).bind fun t306 => ((ashlarref02_Place.f a1.toNat).bind fun t307 => (if (t305 == (decide (t306 < t307))) = true then ((weigh_Bump.f a0.toNat a1.toNat).bind fun t308 => ((ashlarref02_Bump.f a0.toNat a1.toNat).bind fun t309 => ((ashlarlaw02_same.f t308 t309).bind fun t310 => (if t310 = true then ((weigh_Decay.f a0.toNat).bind fun t311 => ((ashlarref02_Decay.f a0.toNat).bind fun t312 => ((ashlarlaw02_same.f t311 t312).bind fun t313 => (some t313)))) else (some false))))) else (some false))))) else (some false))))) else (some false))
theorem ashlarlaw02_WeighTells.mono : ∀ a0 a1 k, LeO (ashlarlaw02_WeighTells.f k a0 a1) (ashlarlaw02_WeighTells.f (k + 1) a0 a1) := by
  intro a0 a1 k
  unfold ashlarlaw02_WeighTells.f
  repeat' first
      | (with_reducible exact ashlarlaw02_shown.mono _)
      | (with_reducible exact weigh_Less.mono _ _ _)
      | (with_reducible exact LeO.refl _)
      | (with_reducible exact LeO.none _)
      | (with_reducible refine LeO.ite ?_ ?_)
      | (with_reducible refine LeO.bind ?_ (fun _ => ?_))
      | exact ashlarlaw02_shown.mono _
      | exact weigh_Less.mono _ _ _
      | exact LeO.none _
      | refine LeO.ite ?_ ?_
      | refine LeO.bind ?_ (fun _ => ?_)
set_option maxHeartbeats 8000000 in
set_option maxRecDepth 100000 in
theorem ashlarlaw02_WeighTells.calls (k : Nat) (a0 : Int) (a1 : Int) (r : Bool) (w : World) (h : ashlarlaw02_WeighTells.f k a0 a1 = some r) :
    Calls Try.prog 9 #[.int .u64 a0, .int .u64 a1] w fun e w' => e = .returned (.bool r) ∧ Below w.heap.size w w' := by
  have HB := Aside0.mk (Below.refl w.heap.size w)
  have H : ((ashlarlaw02_shown.f k).bind fun t301 => (if t301 = true then ((weigh_Tame.f a0.toNat).bind fun t302 => ((ashlarref02_Tame.f a0.toNat).bind fun t303 => ((ashlarlaw02_same.f t302 t303).bind fun t304 => (if t304 = true then ((weigh_Less.f k a0.toNat a1.toNat).bind fun t305 => ((ashlarref02_Place.f a0.toNat).bind fun t306 => ((ashlarref02_Place.f a1.toNat).bind fun t307 => (if (t305 == (decide (t306 < t307))) = true then ((weigh_Bump.f a0.toNat a1.toNat).bind fun t308 => ((ashlarref02_Bump.f a0.toNat a1.toNat).bind fun t309 => ((ashlarlaw02_same.f t308 t309).bind fun t310 => (if t310 = true then ((weigh_Decay.f a0.toNat).bind fun t311 => ((ashlarref02_Decay.f a0.toNat).bind fun t312 => ((ashlarlaw02_same.f t311 t312).bind fun t313 => (some t313)))) else (some false))))) else (some false))))) else (some false))))) else (some false))) = some r := h
  clear h
  replace H := Option.bind_eq_some_iff.mp H
  obtain ⟨t301, A30, H⟩ := H
  replace H : (if t301 = true then ((weigh_Tame.f a0.toNat).bind fun t302 => ((ashlarref02_Tame.f a0.toNat).bind fun t303 => ((ashlarlaw02_same.f t302 t303).bind fun t304 => (if t304 = true then ((weigh_Less.f k a0.toNat a1.toNat).bind fun t305 => ((ashlarref02_Place.f a0.toNat).bind fun t306 => ((ashlarref02_Place.f a1.toNat).bind fun t307 => (if (t305 == (decide (t306 < t307))) = true then ((weigh_Bump.f a0.toNat a1.toNat).bind fun t308 => ((ashlarref02_Bump.f a0.toNat a1.toNat).bind fun t309 => ((ashlarlaw02_same.f t308 t309).bind fun t310 => (if t310 = true then ((weigh_Decay.f a0.toNat).bind fun t311 => ((ashlarref02_Decay.f a0.toNat).bind fun t312 => ((ashlarlaw02_same.f t311 t312).bind fun t313 => (some t313)))) else (some false))))) else (some false))))) else (some false))))) else (some false)) = some r := H
  have A3 := Aside0.mk A30
  clear A30
  by_cases c4 : t301 = true
  · subst c4
    have H1 : ((weigh_Tame.f a0.toNat).bind fun t302 => ((ashlarref02_Tame.f a0.toNat).bind fun t303 => ((ashlarlaw02_same.f t302 t303).bind fun t304 => (if t304 = true then ((weigh_Less.f k a0.toNat a1.toNat).bind fun t305 => ((ashlarref02_Place.f a0.toNat).bind fun t306 => ((ashlarref02_Place.f a1.toNat).bind fun t307 => (if (t305 == (decide (t306 < t307))) = true then ((weigh_Bump.f a0.toNat a1.toNat).bind fun t308 => ((ashlarref02_Bump.f a0.toNat a1.toNat).bind fun t309 => ((ashlarlaw02_same.f t308 t309).bind fun t310 => (if t310 = true then ((weigh_Decay.f a0.toNat).bind fun t311 => ((ashlarref02_Decay.f a0.toNat).bind fun t312 => ((ashlarlaw02_same.f t311 t312).bind fun t313 => (some t313)))) else (some false))))) else (some false))))) else (some false))))) = some r := by rw [if_pos rfl] at H; exact H
    clear H
    have H := H1
    clear H1
    replace H := Option.bind_eq_some_iff.mp H
    obtain ⟨t302, A50, H⟩ := H
    replace H : ((ashlarref02_Tame.f a0.toNat).bind fun t303 => ((ashlarlaw02_same.f t302 t303).bind fun t304 => (if t304 = true then ((weigh_Less.f k a0.toNat a1.toNat).bind fun t305 => ((ashlarref02_Place.f a0.toNat).bind fun t306 => ((ashlarref02_Place.f a1.toNat).bind fun t307 => (if (t305 == (decide (t306 < t307))) = true then ((weigh_Bump.f a0.toNat a1.toNat).bind fun t308 => ((ashlarref02_Bump.f a0.toNat a1.toNat).bind fun t309 => ((ashlarlaw02_same.f t308 t309).bind fun t310 => (if t310 = true then ((weigh_Decay.f a0.toNat).bind fun t311 => ((ashlarref02_Decay.f a0.toNat).bind fun t312 => ((ashlarlaw02_same.f t311 t312).bind fun t313 => (some t313)))) else (some false))))) else (some false))))) else (some false)))) = some r := H
    have A5 := Aside0.mk A50
    clear A50
    replace H := Option.bind_eq_some_iff.mp H
    obtain ⟨t303, A60, H⟩ := H
    replace H : ((ashlarlaw02_same.f t302 t303).bind fun t304 => (if t304 = true then ((weigh_Less.f k a0.toNat a1.toNat).bind fun t305 => ((ashlarref02_Place.f a0.toNat).bind fun t306 => ((ashlarref02_Place.f a1.toNat).bind fun t307 => (if (t305 == (decide (t306 < t307))) = true then ((weigh_Bump.f a0.toNat a1.toNat).bind fun t308 => ((ashlarref02_Bump.f a0.toNat a1.toNat).bind fun t309 => ((ashlarlaw02_same.f t308 t309).bind fun t310 => (if t310 = true then ((weigh_Decay.f a0.toNat).bind fun t311 => ((ashlarref02_Decay.f a0.toNat).bind fun t312 => ((ashlarlaw02_same.f t311 t312).bind fun t313 => (some t313)))) else (some false))))) else (some false))))) else (some false))) = some r := H
    have A6 := Aside0.mk A60
    clear A60
    replace H := Option.bind_eq_some_iff.mp H
    obtain ⟨t304, A70, H⟩ := H
    replace H : (if t304 = true then ((weigh_Less.f k a0.toNat a1.toNat).bind fun t305 => ((ashlarref02_Place.f a0.toNat).bind fun t306 => ((ashlarref02_Place.f a1.toNat).bind fun t307 => (if (t305 == (decide (t306 < t307))) = true then ((weigh_Bump.f a0.toNat a1.toNat).bind fun t308 => ((ashlarref02_Bump.f a0.toNat a1.toNat).bind fun t309 => ((ashlarlaw02_same.f t308 t309).bind fun t310 => (if t310 = true then ((weigh_Decay.f a0.toNat).bind fun t311 => ((ashlarref02_Decay.f a0.toNat).bind fun t312 => ((ashlarlaw02_same.f t311 t312).bind fun t313 => (some t313)))) else (some false))))) else (some false))))) else (some false)) = some r := H
    have A7 := Aside0.mk A70
    clear A70
    by_cases c8 : t304 = true
    · subst c8
      have H1 : ((weigh_Less.f k a0.toNat a1.toNat).bind fun t305 => ((ashlarref02_Place.f a0.toNat).bind fun t306 => ((ashlarref02_Place.f a1.toNat).bind fun t307 => (if (t305 == (decide (t306 < t307))) = true then ((weigh_Bump.f a0.toNat a1.toNat).bind fun t308 => ((ashlarref02_Bump.f a0.toNat a1.toNat).bind fun t309 => ((ashlarlaw02_same.f t308 t309).bind fun t310 => (if t310 = true then ((weigh_Decay.f a0.toNat).bind fun t311 => ((ashlarref02_Decay.f a0.toNat).bind fun t312 => ((ashlarlaw02_same.f t311 t312).bind fun t313 => (some t313)))) else (some false))))) else (some false))))) = some r := by rw [if_pos rfl] at H; exact H
      clear H
      have H := H1
      clear H1
      replace H := Option.bind_eq_some_iff.mp H
      obtain ⟨t305, A90, H⟩ := H
      replace H : ((ashlarref02_Place.f a0.toNat).bind fun t306 => ((ashlarref02_Place.f a1.toNat).bind fun t307 => (if (t305 == (decide (t306 < t307))) = true then ((weigh_Bump.f a0.toNat a1.toNat).bind fun t308 => ((ashlarref02_Bump.f a0.toNat a1.toNat).bind fun t309 => ((ashlarlaw02_same.f t308 t309).bind fun t310 => (if t310 = true then ((weigh_Decay.f a0.toNat).bind fun t311 => ((ashlarref02_Decay.f a0.toNat).bind fun t312 => ((ashlarlaw02_same.f t311 t312).bind fun t313 => (some t313)))) else (some false))))) else (some false)))) = some r := H
      have A9 := Aside0.mk A90
      clear A90
      replace H := Option.bind_eq_some_iff.mp H
      obtain ⟨t306, A100, H⟩ := H
      replace H : ((ashlarref02_Place.f a1.toNat).bind fun t307 => (if (t305 == (decide (t306 < t307))) = true then ((weigh_Bump.f a0.toNat a1.toNat).bind fun t308 => ((ashlarref02_Bump.f a0.toNat a1.toNat).bind fun t309 => ((ashlarlaw02_same.f t308 t309).bind fun t310 => (if t310 = true then ((weigh_Decay.f a0.toNat).bind fun t311 => ((ashlarref02_Decay.f a0.toNat).bind fun t312 => ((ashlarlaw02_same.f t311 t312).bind fun t313 => (some t313)))) else (some false))))) else (some false))) = some r := H
      have A10 := Aside0.mk A100
      clear A100
      replace H := Option.bind_eq_some_iff.mp H
      obtain ⟨t307, A110, H⟩ := H
      replace H : (if (t305 == (decide (t306 < t307))) = true then ((weigh_Bump.f a0.toNat a1.toNat).bind fun t308 => ((ashlarref02_Bump.f a0.toNat a1.toNat).bind fun t309 => ((ashlarlaw02_same.f t308 t309).bind fun t310 => (if t310 = true then ((weigh_Decay.f a0.toNat).bind fun t311 => ((ashlarref02_Decay.f a0.toNat).bind fun t312 => ((ashlarlaw02_same.f t311 t312).bind fun t313 => (some t313)))) else (some false))))) else (some false)) = some r := H
      have A11 := Aside0.mk A110
      clear A110
      by_cases c12 : (t305 == (decide (t306 < t307))) = true
      · rw [if_pos c12] at H
        have c12b0 : (t305 == (decide (t306 < t307))) = true := c12
        (try (have c12b1 : decide (t305 = (decide (t306 < t307))) = true := by simpa using c12))
        (try (have c12b2 : (t305 == (decide (t306 < t307))) = true := by simpa using c12))
        clear c12
        replace H := Option.bind_eq_some_iff.mp H
        obtain ⟨t308, A130, H⟩ := H
        replace H : ((ashlarref02_Bump.f a0.toNat a1.toNat).bind fun t309 => ((ashlarlaw02_same.f t308 t309).bind fun t310 => (if t310 = true then ((weigh_Decay.f a0.toNat).bind fun t311 => ((ashlarref02_Decay.f a0.toNat).bind fun t312 => ((ashlarlaw02_same.f t311 t312).bind fun t313 => (some t313)))) else (some false)))) = some r := H
        have A13 := Aside0.mk A130
        clear A130
        replace H := Option.bind_eq_some_iff.mp H
        obtain ⟨t309, A140, H⟩ := H
        replace H : ((ashlarlaw02_same.f t308 t309).bind fun t310 => (if t310 = true then ((weigh_Decay.f a0.toNat).bind fun t311 => ((ashlarref02_Decay.f a0.toNat).bind fun t312 => ((ashlarlaw02_same.f t311 t312).bind fun t313 => (some t313)))) else (some false))) = some r := H
        have A14 := Aside0.mk A140
        clear A140
        replace H := Option.bind_eq_some_iff.mp H
        obtain ⟨t310, A150, H⟩ := H
        replace H : (if t310 = true then ((weigh_Decay.f a0.toNat).bind fun t311 => ((ashlarref02_Decay.f a0.toNat).bind fun t312 => ((ashlarlaw02_same.f t311 t312).bind fun t313 => (some t313)))) else (some false)) = some r := H
        have A15 := Aside0.mk A150
        clear A150
        by_cases c16 : t310 = true
        · subst c16
          have H1 : ((weigh_Decay.f a0.toNat).bind fun t311 => ((ashlarref02_Decay.f a0.toNat).bind fun t312 => ((ashlarlaw02_same.f t311 t312).bind fun t313 => (some t313)))) = some r := by rw [if_pos rfl] at H; exact H
          clear H
          have H := H1
          clear H1
          replace H := Option.bind_eq_some_iff.mp H
          obtain ⟨t311, A170, H⟩ := H
          replace H : ((ashlarref02_Decay.f a0.toNat).bind fun t312 => ((ashlarlaw02_same.f t311 t312).bind fun t313 => (some t313))) = some r := H
          have A17 := Aside0.mk A170
          clear A170
          replace H := Option.bind_eq_some_iff.mp H
          obtain ⟨t312, A180, H⟩ := H
          replace H : ((ashlarlaw02_same.f t311 t312).bind fun t313 => (some t313)) = some r := H
          have A18 := Aside0.mk A180
          clear A180
          replace H := Option.bind_eq_some_iff.mp H
          obtain ⟨t313, A190, H⟩ := H
          replace H : (some t313) = some r := H
          have A19 := Aside0.mk A190
          clear A190
          obtain rfl := Option.some.inj H
          go_enter Try.func9, Try.ntmps9
          go_wp2_with (first | ((with_reducible refine gate_callee (f := 12) rfl ?_); refine goesL_ (some 8) rfl rfl Try.func12 (by kernel_rfl) rfl #[] rfl (by (try simp only [List.map_toArray, List.map_cons, List.map_nil]); first | done | rfl | (simp only [List.length_drop, List.length_take]; rfl)) ?_; (with_reducible refine (ashlarlaw02_shown.calls k  true _ A3.out).mono ?_); rintro e w20 ⟨rfl, hb⟩; refine ⟨_, rfl, ?_⟩; have n0_ := Aside0.mk (below_step (by repeat (first | (with_reducible first | exact HB.out | apply below_alloc | apply pw_below_drewN | apply below_drew1) | exact HB.out)) hb); clear HB; have HB := n0_; clear n0_; (try clear hb); (try clear hb2); (try clear hk); (try clear hi)) | (go_at_call 22; (with_reducible refine (weigh_Tame.calls a0.toNat t302 _ A5.out).mono ?_); rintro e w' ⟨rfl, ⟨nd, rfl⟩⟩) | (go_at_call 26; (with_reducible refine (ashlarref02_Tame.calls a0.toNat t303 _ A6.out).mono ?_); rintro e w' ⟨rfl, ⟨nd, rfl⟩⟩) | (go_at_call 18; (with_reducible refine (ashlarlaw02_same.calls t302 t303 true _ A7.out).mono ?_); rintro e w' ⟨rfl, ⟨nd, rfl⟩⟩) | (go_at_call 21; (with_reducible refine (weigh_Less.calls k a0.toNat a1.toNat t305 _ A9.out).mono ?_); rintro e w' ⟨rfl, ⟨nd, rfl⟩⟩) | (go_at_call 27; (with_reducible refine (ashlarref02_Place.calls a0.toNat t306 _ A10.out).mono ?_); rintro e w' ⟨rfl, ⟨nd, rfl⟩⟩) | (go_at_call 27; (with_reducible refine (ashlarref02_Place.calls a1.toNat t307 _ A11.out).mono ?_); rintro e w' ⟨rfl, ⟨nd, rfl⟩⟩) | (go_at_call 23; (with_reducible refine (weigh_Bump.calls a0.toNat a1.toNat t308 _ A13.out).mono ?_); rintro e w' ⟨rfl, ⟨nd, rfl⟩⟩) | (go_at_call 28; (with_reducible refine (ashlarref02_Bump.calls a0.toNat a1.toNat t309 _ A14.out).mono ?_); rintro e w' ⟨rfl, ⟨nd, rfl⟩⟩) | (go_at_call 18; (with_reducible refine (ashlarlaw02_same.calls t308 t309 true _ A15.out).mono ?_); rintro e w' ⟨rfl, ⟨nd, rfl⟩⟩) | (go_at_call 29; (with_reducible refine (weigh_Decay.calls a0.toNat t311 _ A17.out).mono ?_); rintro e w' ⟨rfl, ⟨nd, rfl⟩⟩) | (go_at_call 30; (with_reducible refine (ashlarref02_Decay.calls a0.toNat t312 _ A18.out).mono ?_); rintro e w' ⟨rfl, ⟨nd, rfl⟩⟩) | (go_at_call 18; (with_reducible refine (ashlarlaw02_same.calls t311 t312 t313 _ A19.out).mono ?_); rintro e w' ⟨rfl, ⟨nd, rfl⟩⟩))
          go_ret
          exact ⟨by first | rfl | (simp [errW_none, errW_some] <;> rfl) | (simp [*, errW_none, errW_some] <;> rfl), by repeat (first | (with_reducible first | exact HB.out | apply below_alloc | apply pw_below_drewN | apply below_drew1) | exact HB.out)⟩
        · replace c16 := Bool.eq_false_iff.mpr c16
          subst c16
          have H1 : (some false) = some r := by rw [if_neg (show ¬ (false = true) by decide)] at H; exact H
          clear H
          have H := H1
          clear H1
          obtain rfl := Option.some.inj H
          go_enter Try.func9, Try.ntmps9
          go_wp2_with (first | ((with_reducible refine gate_callee (f := 12) rfl ?_); refine goesL_ (some 8) rfl rfl Try.func12 (by kernel_rfl) rfl #[] rfl (by (try simp only [List.map_toArray, List.map_cons, List.map_nil]); first | done | rfl | (simp only [List.length_drop, List.length_take]; rfl)) ?_; (with_reducible refine (ashlarlaw02_shown.calls k  true _ A3.out).mono ?_); rintro e w21 ⟨rfl, hb⟩; refine ⟨_, rfl, ?_⟩; have n0_ := Aside0.mk (below_step (by repeat (first | (with_reducible first | exact HB.out | apply below_alloc | apply pw_below_drewN | apply below_drew1) | exact HB.out)) hb); clear HB; have HB := n0_; clear n0_; (try clear hb); (try clear hb2); (try clear hk); (try clear hi)) | (go_at_call 22; (with_reducible refine (weigh_Tame.calls a0.toNat t302 _ A5.out).mono ?_); rintro e w' ⟨rfl, ⟨nd, rfl⟩⟩) | (go_at_call 26; (with_reducible refine (ashlarref02_Tame.calls a0.toNat t303 _ A6.out).mono ?_); rintro e w' ⟨rfl, ⟨nd, rfl⟩⟩) | (go_at_call 18; (with_reducible refine (ashlarlaw02_same.calls t302 t303 true _ A7.out).mono ?_); rintro e w' ⟨rfl, ⟨nd, rfl⟩⟩) | (go_at_call 21; (with_reducible refine (weigh_Less.calls k a0.toNat a1.toNat t305 _ A9.out).mono ?_); rintro e w' ⟨rfl, ⟨nd, rfl⟩⟩) | (go_at_call 27; (with_reducible refine (ashlarref02_Place.calls a0.toNat t306 _ A10.out).mono ?_); rintro e w' ⟨rfl, ⟨nd, rfl⟩⟩) | (go_at_call 27; (with_reducible refine (ashlarref02_Place.calls a1.toNat t307 _ A11.out).mono ?_); rintro e w' ⟨rfl, ⟨nd, rfl⟩⟩) | (go_at_call 23; (with_reducible refine (weigh_Bump.calls a0.toNat a1.toNat t308 _ A13.out).mono ?_); rintro e w' ⟨rfl, ⟨nd, rfl⟩⟩) | (go_at_call 28; (with_reducible refine (ashlarref02_Bump.calls a0.toNat a1.toNat t309 _ A14.out).mono ?_); rintro e w' ⟨rfl, ⟨nd, rfl⟩⟩) | (go_at_call 18; (with_reducible refine (ashlarlaw02_same.calls t308 t309 false _ A15.out).mono ?_); rintro e w' ⟨rfl, ⟨nd, rfl⟩⟩))
          go_ret
          exact ⟨by first | rfl | (simp [errW_none, errW_some] <;> rfl) | (simp [*, errW_none, errW_some] <;> rfl), by repeat (first | (with_reducible first | exact HB.out | apply below_alloc | apply pw_below_drewN | apply below_drew1) | exact HB.out)⟩
      · rw [if_neg c12] at H
        have c12b0 : (t305 == (decide (t306 < t307))) = false := by simpa using c12
        (try (have c12b1 : decide (t305 = (decide (t306 < t307))) = false := by simpa using c12))
        (try (have c12b2 : (t305 == (decide (t306 < t307))) = false := by simpa using c12))
        (try (have c12b3 : ¬ (t305 = (decide (t306 < t307))) := by simpa using c12))
        clear c12
        obtain rfl := Option.some.inj H
        go_enter Try.func9, Try.ntmps9
        go_wp2_with (first | ((with_reducible refine gate_callee (f := 12) rfl ?_); refine goesL_ (some 8) rfl rfl Try.func12 (by kernel_rfl) rfl #[] rfl (by (try simp only [List.map_toArray, List.map_cons, List.map_nil]); first | done | rfl | (simp only [List.length_drop, List.length_take]; rfl)) ?_; (with_reducible refine (ashlarlaw02_shown.calls k  true _ A3.out).mono ?_); rintro e w22 ⟨rfl, hb⟩; refine ⟨_, rfl, ?_⟩; have n0_ := Aside0.mk (below_step (by repeat (first | (with_reducible first | exact HB.out | apply below_alloc | apply pw_below_drewN | apply below_drew1) | exact HB.out)) hb); clear HB; have HB := n0_; clear n0_; (try clear hb); (try clear hb2); (try clear hk); (try clear hi)) | (go_at_call 22; (with_reducible refine (weigh_Tame.calls a0.toNat t302 _ A5.out).mono ?_); rintro e w' ⟨rfl, ⟨nd, rfl⟩⟩) | (go_at_call 26; (with_reducible refine (ashlarref02_Tame.calls a0.toNat t303 _ A6.out).mono ?_); rintro e w' ⟨rfl, ⟨nd, rfl⟩⟩) | (go_at_call 18; (with_reducible refine (ashlarlaw02_same.calls t302 t303 true _ A7.out).mono ?_); rintro e w' ⟨rfl, ⟨nd, rfl⟩⟩) | (go_at_call 21; (with_reducible refine (weigh_Less.calls k a0.toNat a1.toNat t305 _ A9.out).mono ?_); rintro e w' ⟨rfl, ⟨nd, rfl⟩⟩) | (go_at_call 27; (with_reducible refine (ashlarref02_Place.calls a0.toNat t306 _ A10.out).mono ?_); rintro e w' ⟨rfl, ⟨nd, rfl⟩⟩) | (go_at_call 27; (with_reducible refine (ashlarref02_Place.calls a1.toNat t307 _ A11.out).mono ?_); rintro e w' ⟨rfl, ⟨nd, rfl⟩⟩))
        go_ret
        exact ⟨by first | rfl | (simp [errW_none, errW_some] <;> rfl) | (simp [*, errW_none, errW_some] <;> rfl), by repeat (first | (with_reducible first | exact HB.out | apply below_alloc | apply pw_below_drewN | apply below_drew1) | exact HB.out)⟩
    · replace c8 := Bool.eq_false_iff.mpr c8
      subst c8
      have H1 : (some false) = some r := by rw [if_neg (show ¬ (false = true) by decide)] at H; exact H
      clear H
      have H := H1
      clear H1
      obtain rfl := Option.some.inj H
      go_enter Try.func9, Try.ntmps9
      go_wp2_with (first | ((with_reducible refine gate_callee (f := 12) rfl ?_); refine goesL_ (some 8) rfl rfl Try.func12 (by kernel_rfl) rfl #[] rfl (by (try simp only [List.map_toArray, List.map_cons, List.map_nil]); first | done | rfl | (simp only [List.length_drop, List.length_take]; rfl)) ?_; (with_reducible refine (ashlarlaw02_shown.calls k  true _ A3.out).mono ?_); rintro e w23 ⟨rfl, hb⟩; refine ⟨_, rfl, ?_⟩; have n0_ := Aside0.mk (below_step (by repeat (first | (with_reducible first | exact HB.out | apply below_alloc | apply pw_below_drewN | apply below_drew1) | exact HB.out)) hb); clear HB; have HB := n0_; clear n0_; (try clear hb); (try clear hb2); (try clear hk); (try clear hi)) | (go_at_call 22; (with_reducible refine (weigh_Tame.calls a0.toNat t302 _ A5.out).mono ?_); rintro e w' ⟨rfl, ⟨nd, rfl⟩⟩) | (go_at_call 26; (with_reducible refine (ashlarref02_Tame.calls a0.toNat t303 _ A6.out).mono ?_); rintro e w' ⟨rfl, ⟨nd, rfl⟩⟩) | (go_at_call 18; (with_reducible refine (ashlarlaw02_same.calls t302 t303 false _ A7.out).mono ?_); rintro e w' ⟨rfl, ⟨nd, rfl⟩⟩))
      go_ret
      exact ⟨by first | rfl | (simp [errW_none, errW_some] <;> rfl) | (simp [*, errW_none, errW_some] <;> rfl), by repeat (first | (with_reducible first | exact HB.out | apply below_alloc | apply pw_below_drewN | apply below_drew1) | exact HB.out)⟩
  · replace c4 := Bool.eq_false_iff.mpr c4
    subst c4
    have H1 : (some false) = some r := by rw [if_neg (show ¬ (false = true) by decide)] at H; exact H
    clear H
    have H := H1
    clear H1
    obtain rfl := Option.some.inj H
    go_enter Try.func9, Try.ntmps9
    go_wp2_with (first | ((with_reducible refine gate_callee (f := 12) rfl ?_); refine goesL_ (some 8) rfl rfl Try.func12 (by kernel_rfl) rfl #[] rfl (by (try simp only [List.map_toArray, List.map_cons, List.map_nil]); first | done | rfl | (simp only [List.length_drop, List.length_take]; rfl)) ?_; (with_reducible refine (ashlarlaw02_shown.calls k  false _ A3.out).mono ?_); rintro e w24 ⟨rfl, hb⟩; refine ⟨_, rfl, ?_⟩; have n0_ := Aside0.mk (below_step (by repeat (first | (with_reducible first | exact HB.out | apply below_alloc | apply pw_below_drewN | apply below_drew1) | exact HB.out)) hb); clear HB; have HB := n0_; clear n0_; (try clear hb); (try clear hb2); (try clear hk); (try clear hi)))
    go_ret
    exact ⟨by first | rfl | (simp [errW_none, errW_some] <;> rfl) | (simp [*, errW_none, errW_some] <;> rfl), by repeat (first | (with_reducible first | exact HB.out | apply below_alloc | apply pw_below_drewN | apply below_drew1) | exact HB.out)⟩

/-- THE ONE PURE STATEMENT of ashlarlaw02_WeighTells: yours. -/
def ashlarlaw02_WeighTells.Pure : Prop := ∀ (a0 : Int) (a1 : Int), (Lit.int .u64 a0).wf = true → (Lit.int .u64 a1).wf = true → ∃ k, ashlarlaw02_WeighTells.f k a0 a1 = some true
theorem ashlarlaw02_WeighTells.walk (P : ashlarlaw02_WeighTells.Pure) (a0 : Int) (a1 : Int) (w : World) (w0 : (Lit.int .u64 a0).wf = true) (w1 : (Lit.int .u64 a1).wf = true) :
    Calls Try.prog 9 #[.int .u64 a0, .int .u64 a1] w fun e w' => e = .returned (.bool true) ∧ Below w.heap.size w w' := by
  obtain ⟨k, h⟩ := P a0 a1 w0 w1
  refine (ashlarlaw02_WeighTells.calls k a0 a1 true w h).mono ?_
  rintro e w' ⟨rfl, hd⟩
  exact ⟨rfl, hd⟩

/-! ### ashlarlaw02_finite: function 31 -/
def ashlarlaw02_finite.f (a0 : Nat) : Option (Bool) := if fEq a0 a0 = true then (if fLe a0 9218868437227405311 = true then (some (fGe a0 18442240474082181119)) else (some false)) else (some false)
set_option maxHeartbeats 8000000 in
set_option maxRecDepth 100000 in
theorem ashlarlaw02_finite.calls (a0 : Nat) (r : Bool) (w : World) (h : ashlarlaw02_finite.f a0 = some r) :
    Calls Try.prog 31 #[.float .f64 a0] w fun e w' => e = .returned (.bool r) ∧ Drawn0 w w' := by
  have H : (if fEq a0 a0 = true then (if fLe a0 9218868437227405311 = true then (some (fGe a0 18442240474082181119)) else (some false)) else (some false)) = some r := h
  clear h
  by_cases c2 : fEq a0 a0 = true
  · rw [if_pos c2] at H
    have c2b0 : fEq a0 a0 = true := c2
    clear c2
    by_cases c3 : fLe a0 9218868437227405311 = true
    · rw [if_pos c3] at H
      have c3b0 : fLe a0 9218868437227405311 = true := c3
      clear c3
      obtain rfl := Option.some.inj H
      go_enter Try.func31, Try.ntmps31
      go_wp2
      go_ret
      exact ⟨by first | rfl | (simp; done) | (simp [*]; done), by repeat (first | exact Drawn0.refl _ | apply Drawn0.step)⟩
    · rw [if_neg c3] at H
      have c3b0 : fLe a0 9218868437227405311 = false := by simpa using c3
      clear c3
      obtain rfl := Option.some.inj H
      go_enter Try.func31, Try.ntmps31
      go_wp2
      go_ret
      exact ⟨by first | rfl | (simp; done) | (simp [*]; done), by repeat (first | exact Drawn0.refl _ | apply Drawn0.step)⟩
  · rw [if_neg c2] at H
    have c2b0 : fEq a0 a0 = false := by simpa using c2
    clear c2
    obtain rfl := Option.some.inj H
    go_enter Try.func31, Try.ntmps31
    go_wp2
    go_ret
    exact ⟨by first | rfl | (simp; done) | (simp [*]; done), by repeat (first | exact Drawn0.refl _ | apply Drawn0.step)⟩

/-! ### ashlarlaw02_rows: function 32 -/
def ashlarlaw02_rows.l0 : Nat → List Nat → List Nat → Int → Option (Bool)
  | 0, _, _, _ => none
  | k + 1, x0, x1, x5 => if x5 < (x0.length : Int) then (if 0 ≤ x5 then (if x5 < (x1.length : Int) then ((ashlarlaw02_same.f (rdOf (0 : Nat) x0 x5) (rdOf (0 : Nat) x1 x5)).bind fun t316 => (if t316 = true then (ashlarlaw02_rows.l0 k x0 x1 (wrap64 (x5 + 1))) else (some false))) else (none)) else (none)) else (some true)
def ashlarlaw02_rows.f (k : Nat) (l0 : List Nat) (l1 : List Nat) : Option (Bool) := if (l0.length : Int) = (l1.length : Int) then (ashlarlaw02_rows.l0 k l0 l1 0) else (some false)
theorem ashlarlaw02_rows.mono_l : ∀ k, (∀ y0 y1 y2, LeO (ashlarlaw02_rows.l0 k y0 y1 y2) (ashlarlaw02_rows.l0 (k + 1) y0 y1 y2))
  | 0 => fun _ _ _ r h => by simp [ashlarlaw02_rows.l0] at h
  | k + 1 => by
    have ih0 := ashlarlaw02_rows.mono_l k
    · intro y0 y1 y2
      unfold ashlarlaw02_rows.l0
      repeat' first
      | (with_reducible exact ih0 _ _ _)
      | (with_reducible exact LeO.refl _)
      | (with_reducible exact LeO.none _)
      | (with_reducible refine LeO.ite ?_ ?_)
      | (with_reducible refine LeO.bind ?_ (fun _ => ?_))
      | exact ih0 _ _ _
      | exact LeO.none _
      | refine LeO.ite ?_ ?_
      | refine LeO.bind ?_ (fun _ => ?_)
theorem ashlarlaw02_rows.mono : ∀ a0 a1 k, LeO (ashlarlaw02_rows.f k a0 a1) (ashlarlaw02_rows.f (k + 1) a0 a1) := by
  intro a0 a1 k
  have ih0 := ashlarlaw02_rows.mono_l k
  unfold ashlarlaw02_rows.f
  repeat' first
      | (with_reducible exact ih0 _ _ _)
      | (with_reducible exact LeO.refl _)
      | (with_reducible exact LeO.none _)
      | (with_reducible refine LeO.ite ?_ ?_)
      | (with_reducible refine LeO.bind ?_ (fun _ => ?_))
      | exact ih0 _ _ _
      | exact LeO.none _
      | refine LeO.ite ?_ ?_
      | refine LeO.bind ?_ (fun _ => ?_)
set_option maxHeartbeats 8000000 in
set_option maxRecDepth 100000 in
theorem ashlarlaw02_rows.calls (k : Nat) (A0 : Option Addr) (c0 : Nat) (l0 : List Nat) (A1 : Option Addr) (c1 : Nat) (l1 : List Nat) (r : Bool) (w : World) (hr0 : Kd.C Kd.f64 w A0 l0.length l0) (hc0 : l0.length ≤ c0) (hr1 : Kd.C Kd.f64 w A1 l1.length l1) (hc1 : l1.length ≤ c1) (h : ashlarlaw02_rows.f k l0 l1 = some r) :
    Calls Try.prog 32 #[.slice A0 l0.length c0, .slice A1 l1.length c1] w fun e w' => e = .returned (.bool r) ∧ Drawn0 w w' := by
  have HR0 := Aside0.mk hr0
  have HC0 := Aside0.mk hc0
  clear hr0 hc0
  have HR1 := Aside0.mk hr1
  have HC1 := Aside0.mk hc1
  clear hr1 hc1
  have H : (if (l0.length : Int) = (l1.length : Int) then (ashlarlaw02_rows.l0 k l0 l1 0) else (some false)) = some r := h
  clear h
  by_cases c3 : (l0.length : Int) = (l1.length : Int)
  · rw [if_pos c3] at H
    have c3b0 : ((l0.length : Int) == (l1.length : Int)) = true := beq_iff_eq.mpr c3
    have c3b1 : ((l0.length : Int) != (l1.length : Int)) = false := bne_eq_false_iff_eq.mpr c3
    have c3b2 : (l0.length == l1.length) = true := by first | simpa using c3 | (simp at c3 ⊢; omega)
    clear c3
    have H' := Aside0.mk H
    clear H
    go_enter Try.func32, Try.ntmps32
    go_wp2
    repeat (go_quiet (fail); try go_wp2)
    go_loopg [5] k (fun kq v5 w' => ∃ (x5_1 : Int), v5 = .int .i64 x5_1 ∧ Aside0 (ashlarlaw02_rows.l0 kq l0 l1 x5_1 = some r) ∧ Aside0 (kq ≤ k) ∧ Drawn0 w w')
    case atStart => exact ⟨(0), (by first | rfl | (simp; done) | (simp [*]; done)), H', ⟨Nat.le_refl _⟩, by repeat (first | exact Drawn0.refl _ | apply Drawn0.step)⟩
    case round =>
      clear H'
      try clear c1
      try clear p2
      try clear c3
      try clear c3b0
      try clear c3b1
      try clear c3b2
      obtain ⟨x5_1, rfl, HA, HK1, ⟨m1, rfl⟩⟩ := hrel
      cases gk with
      | zero => exact absurd HA.out (by simp [ashlarlaw02_rows.l0])
      | succ k1 =>
        have H := HA.out
        clear HA
        simp only [ashlarlaw02_rows.l0] at H
        by_cases c4 : x5_1 < (l0.length : Int)
        · rw [if_pos c4] at H
          have c4b0 : decide (x5_1 < (l0.length : Int)) = true := decide_eq_true c4
          clear c4
          by_cases c5 : 0 ≤ x5_1
          · rw [if_pos c5] at H
            have c5b0 : decide (0 ≤ x5_1) = true := decide_eq_true c5
            clear c5
            by_cases c6 : x5_1 < (l1.length : Int)
            · rw [if_pos c6] at H
              have c6b0 : decide (x5_1 < (l1.length : Int)) = true := decide_eq_true c6
              clear c6
              replace H := Option.bind_eq_some_iff.mp H
              obtain ⟨t316, A70, H⟩ := H
              replace H : (if t316 = true then (ashlarlaw02_rows.l0 k1 l0 l1 (wrap64 (x5_1 + 1))) else (some false)) = some r := H
              have A7 := Aside0.mk A70
              clear A70
              by_cases c8 : t316 = true
              · subst c8
                have H1 : (ashlarlaw02_rows.l0 k1 l0 l1 (wrap64 (x5_1 + 1))) = some r := by rw [if_pos rfl] at H; exact H
                clear H
                have H := H1
                clear H1
                have H' := Aside0.mk H
                clear H
                have p314 : 0 ≤ (x5_1 : Int) := of_decide_eq_true (by first | (with_reducible assumption) | assumption)
                have q314 : x5_1 < (l0.length : Int) := of_decide_eq_true (by first | (with_reducible assumption) | assumption)
                obtain ⟨ad314, e314, hx314_0⟩ := Kd.at_f64 HR0.out x5_1 p314 q314
                cases e314
                replace p314 := eq_true p314
                replace q314 := eq_true q314
                have p315 : 0 ≤ (x5_1 : Int) := of_decide_eq_true (by first | (with_reducible assumption) | assumption)
                have q315 : x5_1 < (l1.length : Int) := of_decide_eq_true (by first | (with_reducible assumption) | assumption)
                obtain ⟨ad315, e315, hx315_0⟩ := Kd.at_f64 HR1.out x5_1 p315 q315
                cases e315
                replace p315 := eq_true p315
                replace q315 := eq_true q315
                go_wp2_with (first | (go_at_call 18; (with_reducible refine (ashlarlaw02_same.calls (rdOf (0 : Nat) l0 x5_1) (rdOf (0 : Nat) l1 x5_1) true _ A7.out).mono ?_); rintro e w' ⟨rfl, ⟨nd, rfl⟩⟩; (try first | exact ⟨rfl, _, World.drewN_drewN _ _ _⟩ | exact ⟨rfl, _, Eq.trans (World.drewN_drewN _ _ _) (congrArg (World.drewN _) (Nat.add_assoc _ _ _))⟩)))
                repeat (go_quiet (first | (go_at_call 18; (with_reducible refine (ashlarlaw02_same.calls (rdOf (0 : Nat) l0 x5_1) (rdOf (0 : Nat) l1 x5_1) true _ A7.out).mono ?_); rintro e w' ⟨rfl, ⟨nd, rfl⟩⟩; (try first | exact ⟨rfl, _, World.drewN_drewN _ _ _⟩ | exact ⟨rfl, _, Eq.trans (World.drewN_drewN _ _ _) (congrArg (World.drewN _) (Nat.add_assoc _ _ _))⟩))); try go_wp2_with (first | (go_at_call 18; (with_reducible refine (ashlarlaw02_same.calls (rdOf (0 : Nat) l0 x5_1) (rdOf (0 : Nat) l1 x5_1) true _ A7.out).mono ?_); rintro e w' ⟨rfl, ⟨nd, rfl⟩⟩; (try first | exact ⟨rfl, _, World.drewN_drewN _ _ _⟩ | exact ⟨rfl, _, Eq.trans (World.drewN_drewN _ _ _) (congrArg (World.drewN _) (Nat.add_assoc _ _ _))⟩))))
                go_roundg k1
                case measure => have := HK1.out; omega
                case rel => exact ⟨(wrap64 (x5_1 + 1)), (by first | rfl | (simp; done) | (simp [*]; done)), H', ⟨by have := HK1.out; omega⟩, by repeat (first | exact Drawn0.refl _ | apply Drawn0.step)⟩
              · replace c8 := Bool.eq_false_iff.mpr c8
                subst c8
                have H1 : (some false) = some r := by rw [if_neg (show ¬ (false = true) by decide)] at H; exact H
                clear H
                have H := H1
                clear H1
                obtain rfl := Option.some.inj H
                have p314 : 0 ≤ (x5_1 : Int) := of_decide_eq_true (by first | (with_reducible assumption) | assumption)
                have q314 : x5_1 < (l0.length : Int) := of_decide_eq_true (by first | (with_reducible assumption) | assumption)
                obtain ⟨ad314, e314, hx314_0⟩ := Kd.at_f64 HR0.out x5_1 p314 q314
                cases e314
                replace p314 := eq_true p314
                replace q314 := eq_true q314
                have p315 : 0 ≤ (x5_1 : Int) := of_decide_eq_true (by first | (with_reducible assumption) | assumption)
                have q315 : x5_1 < (l1.length : Int) := of_decide_eq_true (by first | (with_reducible assumption) | assumption)
                obtain ⟨ad315, e315, hx315_0⟩ := Kd.at_f64 HR1.out x5_1 p315 q315
                cases e315
                replace p315 := eq_true p315
                replace q315 := eq_true q315
                go_wp2_with (first | (go_at_call 18; (with_reducible refine (ashlarlaw02_same.calls (rdOf (0 : Nat) l0 x5_1) (rdOf (0 : Nat) l1 x5_1) false _ A7.out).mono ?_); rintro e w' ⟨rfl, ⟨nd, rfl⟩⟩; (try first | exact ⟨rfl, _, World.drewN_drewN _ _ _⟩ | exact ⟨rfl, _, Eq.trans (World.drewN_drewN _ _ _) (congrArg (World.drewN _) (Nat.add_assoc _ _ _))⟩)))
                repeat (go_quiet (first | (go_at_call 18; (with_reducible refine (ashlarlaw02_same.calls (rdOf (0 : Nat) l0 x5_1) (rdOf (0 : Nat) l1 x5_1) false _ A7.out).mono ?_); rintro e w' ⟨rfl, ⟨nd, rfl⟩⟩; (try first | exact ⟨rfl, _, World.drewN_drewN _ _ _⟩ | exact ⟨rfl, _, Eq.trans (World.drewN_drewN _ _ _) (congrArg (World.drewN _) (Nat.add_assoc _ _ _))⟩))); try go_wp2_with (first | (go_at_call 18; (with_reducible refine (ashlarlaw02_same.calls (rdOf (0 : Nat) l0 x5_1) (rdOf (0 : Nat) l1 x5_1) false _ A7.out).mono ?_); rintro e w' ⟨rfl, ⟨nd, rfl⟩⟩; (try first | exact ⟨rfl, _, World.drewN_drewN _ _ _⟩ | exact ⟨rfl, _, Eq.trans (World.drewN_drewN _ _ _) (congrArg (World.drewN _) (Nat.add_assoc _ _ _))⟩))))
                go_ret
                exact ⟨by first | rfl | (simp; done) | (simp [*]; done), by repeat (first | exact Drawn0.refl _ | apply Drawn0.step)⟩
            · rw [if_neg c6] at H
              exact absurd H (by simp)
          · rw [if_neg c5] at H
            exact absurd H (by simp)
        · rw [if_neg c4] at H
          have c4b0 : decide (x5_1 < (l0.length : Int)) = false := decide_eq_false c4
          clear c4
          obtain rfl := Option.some.inj H
          go_wp2
          repeat (go_quiet (fail); try go_wp2)
          go_ret
          exact ⟨by first | rfl | (simp; done) | (simp [*]; done), by repeat (first | exact Drawn0.refl _ | apply Drawn0.step)⟩
  · rw [if_neg c3] at H
    have c3b0 : ((l0.length : Int) == (l1.length : Int)) = false := beq_eq_false_iff_ne.mpr c3
    have c3b1 : ((l0.length : Int) != (l1.length : Int)) = true := bne_iff_ne.mpr c3
    have c3b2 : (l0.length == l1.length) = false := by first | simpa using c3 | (simp at c3 ⊢; omega)
    obtain rfl := Option.some.inj H
    go_enter Try.func32, Try.ntmps32
    go_wp2
    repeat (go_quiet (fail); try go_wp2)
    go_ret
    exact ⟨by first | rfl | (simp; done) | (simp [*]; done), by repeat (first | exact Drawn0.refl _ | apply Drawn0.step)⟩

end Go.Proofs.Ytglpafflpcgnpaa.Q
