/- written by a program of this session (wip/tools/printx.py, over the kit's printing program) out of the translation -/
import Derived.Test.YtbgjmeiphmfniaaQx0
import Derived.Test.YtbgjmeiphmfniaaQx1
import Derived.Test.YtbgjmeiphmfniaaQx2
import Derived.Test.YtbgjmeiphmfniaaQx3
namespace Go.Proofs.Ytbgjmeiphmfniaa.Q
open Go.RowKit Go.Proofs.YtbgjmeiphmfniaaW.PrintWords Go.Proofs.YtbgjmeiphmfniaaW.PrintLast Go.Proofs.YtbgjmeiphmfniaaW.PrintMore
attribute [local go_sem] max2_int min2_int max_two min_two max_three min_three max_four min_four   -- for this text's walks alone
set_option linter.unusedVariables false
set_option linter.unusedSimpArgs false

/-! ### ashlarlaw08_PropFollows: function 4 -/
mutual
def ashlarlaw08_PropFollows.l0 : Nat → List (List Int) → List Int → List Bool → Bool → List Int → Int → Option (Bool)
  | 0, _, _, _, _, _, _ => none
  | k + 1, x0, x1, x2, x7, x8, x9 => if x9 < (x8.length : Int) then (if 0 ≤ x9 then (if (rd x8 x9) = 0 then ((some (x8.set (x9 : Int).toNat (-1) : List Int)).bind fun y283 => (if x9 < (x2.length : Int) then (if rdOf false x2 x9 = true then (ashlarlaw08_PropFollows.l0 k x0 x1 x2 x7 (y283.set (x9 : Int).toNat 1) (wrap64 (x9 + 1))) else (ashlarlaw08_PropFollows.l0 k x0 x1 x2 x7 y283 (wrap64 (x9 + 1)))) else (ashlarlaw08_PropFollows.l0 k x0 x1 x2 x7 y283 (wrap64 (x9 + 1))))) else (ashlarlaw08_PropFollows.l0 k x0 x1 x2 x7 x8 (wrap64 (x9 + 1)))) else (none)) else ((prop_Unit.f k x0 x1).bind fun bt286 => (if (bt286.1.length : Int) = (x1.length : Int) then (if bt286.2 = true then ((prop_Eval.f k x0 bt286.1).bind fun t290 => (ashlarlaw08_PropFollows.j1 k x0 x1 x7 x8 bt286.1 bt286.2 (t290 != (-1)))) else (ashlarlaw08_PropFollows.j1 k x0 x1 x7 x8 bt286.1 bt286.2 false)) else (ashlarlaw08_PropFollows.j1 k x0 x1 x7 x8 bt286.1 bt286.2 true)))
def ashlarlaw08_PropFollows.j1 : Nat → List (List Int) → List Int → Bool → List Int → List Int → Bool → Bool → Option (Bool)
  | 0, _, _, _, _, _, _, _ => none
  | k + 1, x0, x1, x7, x8, x10, x11, x70 => if x70 = true then (some false) else (ashlarlaw08_PropFollows.l1 k x0 x1 x7 x8 x10 x11 0)
def ashlarlaw08_PropFollows.l1 : Nat → List (List Int) → List Int → Bool → List Int → List Int → Bool → Int → Option (Bool)
  | 0, _, _, _, _, _, _, _ => none
  | k + 1, x0, x1, x7, x8, x10, x11, x12 => if x12 < (x1.length : Int) then (if 0 ≤ x12 then (if (rd x1 x12) = 0 then (if x12 < (x10.length : Int) then (if (rd x10 x12) < (-1) then (if (rd x10 x12) = (rd x1 x12) then (if (rd x10 x12) > 1 then (ashlarlaw08_PropFollows.l1 k x0 x1 x7 x8 x10 x11 (wrap64 (x12 + 1))) else (ashlarlaw08_PropFollows.l1 k x0 x1 x7 x8 x10 x11 (wrap64 (x12 + 1)))) else (some false)) else (if (rd x10 x12) > 1 then (if (rd x10 x12) = (rd x1 x12) then (ashlarlaw08_PropFollows.l1 k x0 x1 x7 x8 x10 x11 (wrap64 (x12 + 1))) else (some false)) else (ashlarlaw08_PropFollows.l1 k x0 x1 x7 x8 x10 x11 (wrap64 (x12 + 1))))) else (none)) else (if x12 < (x10.length : Int) then (if (rd x10 x12) = (rd x1 x12) then (if (rd x10 x12) < (-1) then (if (rd x10 x12) > 1 then (ashlarlaw08_PropFollows.l1 k x0 x1 x7 x8 x10 x11 (wrap64 (x12 + 1))) else (ashlarlaw08_PropFollows.l1 k x0 x1 x7 x8 x10 x11 (wrap64 (x12 + 1)))) else (if (rd x10 x12) > 1 then (ashlarlaw08_PropFollows.l1 k x0 x1 x7 x8 x10 x11 (wrap64 (x12 + 1))) else (ashlarlaw08_PropFollows.l1 k x0 x1 x7 x8 x10 x11 (wrap64 (x12 + 1))))) else (some false)) else (none))) else (none)) else ((prop_Eval.f k x0 x8).bind fun t312 => (if t312 = 1 then (ashlarlaw08_PropFollows.l2 k x1 x7 x8 x10 x11 1) else (some x7)))
def ashlarlaw08_PropFollows.l2 : Nat → List Int → Bool → List Int → List Int → Bool → Int → Option (Bool)
  | 0, _, _, _, _, _, _ => none
  | k + 1, x1, x7, x8, x10, x11, x13 => if x13 < (x1.length : Int) then (if 0 ≤ x13 then (if x13 < (x10.length : Int) then (if (rd x10 x13) > 0 then (if x13 < (x8.length : Int) then (if (rd x8 x13) < 0 then (some false) else (if (rd x10 x13) < 0 then (if (rd x8 x13) > 0 then (some false) else (ashlarlaw08_PropFollows.l2 k x1 x7 x8 x10 x11 (wrap64 (x13 + 1)))) else (ashlarlaw08_PropFollows.l2 k x1 x7 x8 x10 x11 (wrap64 (x13 + 1))))) else (none)) else (if (rd x10 x13) < 0 then (if x13 < (x8.length : Int) then (if (rd x8 x13) > 0 then (some false) else (ashlarlaw08_PropFollows.l2 k x1 x7 x8 x10 x11 (wrap64 (x13 + 1)))) else (none)) else (ashlarlaw08_PropFollows.l2 k x1 x7 x8 x10 x11 (wrap64 (x13 + 1))))) else (none)) else (none)) else (if x7 = true then (some (!x11)) else (some false))
end
def ashlarlaw08_PropFollows.f (k : Nat) (l0 : List (List Int)) (l1 : List Int) (l2 : List Bool) : Option (Bool) := (ashlarlaw08_shown.f k).bind fun t269 => ((ashlarlaw08_few.f k l0 l1).bind fun bt270 => ((some (([] : List Int) : List Int)).bind fun y276 => (if y276.length + bt270.2.length < 140737488355328 then (ashlarlaw08_PropFollows.l0 k bt270.1 bt270.2 l2 t269 (y276 ++ bt270.2) 1) else (none))))
theorem ashlarlaw08_PropFollows.mono_l : ∀ k, (∀ y0 y1 y2 y3 y4 y5, LeO (ashlarlaw08_PropFollows.l0 k y0 y1 y2 y3 y4 y5) (ashlarlaw08_PropFollows.l0 (k + 1) y0 y1 y2 y3 y4 y5)) ∧ (∀ y0 y1 y2 y3 y4 y5 y6, LeO (ashlarlaw08_PropFollows.j1 k y0 y1 y2 y3 y4 y5 y6) (ashlarlaw08_PropFollows.j1 (k + 1) y0 y1 y2 y3 y4 y5 y6)) ∧ (∀ y0 y1 y2 y3 y4 y5 y6, LeO (ashlarlaw08_PropFollows.l1 k y0 y1 y2 y3 y4 y5 y6) (ashlarlaw08_PropFollows.l1 (k + 1) y0 y1 y2 y3 y4 y5 y6)) ∧ (∀ y0 y1 y2 y3 y4 y5, LeO (ashlarlaw08_PropFollows.l2 k y0 y1 y2 y3 y4 y5) (ashlarlaw08_PropFollows.l2 (k + 1) y0 y1 y2 y3 y4 y5))
  | 0 => ⟨fun _ _ _ _ _ _ r h => by simp [ashlarlaw08_PropFollows.l0] at h, fun _ _ _ _ _ _ _ r h => by simp [ashlarlaw08_PropFollows.j1] at h, fun _ _ _ _ _ _ _ r h => by simp [ashlarlaw08_PropFollows.l1] at h, fun _ _ _ _ _ _ r h => by simp [ashlarlaw08_PropFollows.l2] at h⟩
  | k + 1 => by
    obtain ⟨ih0, ih1, ih2, ih3⟩ := ashlarlaw08_PropFollows.mono_l k
    refine ⟨?_, ?_, ?_, ?_⟩
    · intro y0 y1 y2 y3 y4 y5
      unfold ashlarlaw08_PropFollows.l0
      repeat' first
      | (with_reducible exact ih0 _ _ _ _ _ _)
      | (with_reducible exact ih1 _ _ _ _ _ _ _)
      | (with_reducible exact ih2 _ _ _ _ _ _ _)
      | (with_reducible exact ih3 _ _ _ _ _ _)
      | (with_reducible exact ashlarlaw08_few.mono _ _ _)
      | (with_reducible exact ashlarlaw08_shown.mono _)
      | (with_reducible exact prop_Eval.mono _ _ _)
      | (with_reducible exact prop_Unit.mono _ _ _)
      | (with_reducible exact LeO.refl _)
      | (with_reducible exact LeO.none _)
      | (with_reducible refine LeO.ite ?_ ?_)
      | (with_reducible refine LeO.bind ?_ (fun _ => ?_))
      | exact ih0 _ _ _ _ _ _
      | exact ih1 _ _ _ _ _ _ _
      | exact ih2 _ _ _ _ _ _ _
      | exact ih3 _ _ _ _ _ _
      | exact ashlarlaw08_few.mono _ _ _
      | exact ashlarlaw08_shown.mono _
      | exact prop_Eval.mono _ _ _
      | exact prop_Unit.mono _ _ _
      | exact LeO.none _
      | refine LeO.ite ?_ ?_
      | refine LeO.bind ?_ (fun _ => ?_)
    · intro y0 y1 y2 y3 y4 y5 y6
      unfold ashlarlaw08_PropFollows.j1
      repeat' first
      | (with_reducible exact ih0 _ _ _ _ _ _)
      | (with_reducible exact ih1 _ _ _ _ _ _ _)
      | (with_reducible exact ih2 _ _ _ _ _ _ _)
      | (with_reducible exact ih3 _ _ _ _ _ _)
      | (with_reducible exact ashlarlaw08_few.mono _ _ _)
      | (with_reducible exact ashlarlaw08_shown.mono _)
      | (with_reducible exact prop_Eval.mono _ _ _)
      | (with_reducible exact prop_Unit.mono _ _ _)
      | (with_reducible exact LeO.refl _)
      | (with_reducible exact LeO.none _)
      | (with_reducible refine LeO.ite ?_ ?_)
      | (with_reducible refine LeO.bind ?_ (fun _ => ?_))
      | exact ih0 _ _ _ _ _ _
      | exact ih1 _ _ _ _ _ _ _
      | exact ih2 _ _ _ _ _ _ _
      | exact ih3 _ _ _ _ _ _
      | exact ashlarlaw08_few.mono _ _ _
      | exact ashlarlaw08_shown.mono _
      | exact prop_Eval.mono _ _ _
      | exact prop_Unit.mono _ _ _
      | exact LeO.none _
      | refine LeO.ite ?_ ?_
      | refine LeO.bind ?_ (fun _ => ?_)
    · intro y0 y1 y2 y3 y4 y5 y6
      unfold ashlarlaw08_PropFollows.l1
      repeat' first
      | (with_reducible exact ih0 _ _ _ _ _ _)
      | (with_reducible exact ih1 _ _ _ _ _ _ _)
      | (with_reducible exact ih2 _ _ _ _ _ _ _)
      | (with_reducible exact ih3 _ _ _ _ _ _)
      | (with_reducible exact ashlarlaw08_few.mono _ _ _)
      | (with_reducible exact ashlarlaw08_shown.mono _)
      | (with_reducible exact prop_Eval.mono _ _ _)
      | (with_reducible exact prop_Unit.mono _ _ _)
      | (with_reducible exact LeO.refl _)
      | (with_reducible exact LeO.none _)
      | (with_reducible refine LeO.ite ?_ ?_)
      | (with_reducible refine LeO.bind ?_ (fun _ => ?_))
      | exact ih0 _ _ _ _ _ _
      | exact ih1 _ _ _ _ _ _ _
      | exact ih2 _ _ _ _ _ _ _
      | exact ih3 _ _ _ _ _ _
      | exact ashlarlaw08_few.mono _ _ _
      | exact ashlarlaw08_shown.mono _
      | exact prop_Eval.mono _ _ _
      | exact prop_Unit.mono _ _ _
      | exact LeO.none _
      | refine LeO.ite ?_ ?_
      | refine LeO.bind ?_ (fun _ => ?_)
    · intro y0 y1 y2 y3 y4 y5
      unfold ashlarlaw08_PropFollows.l2
      repeat' first
      | (with_reducible exact ih0 _ _ _ _ _ _)
      | (with_reducible exact ih1 _ _ _ _ _ _ _)
      | (with_reducible exact ih2 _ _ _ _ _ _ _)
      | (with_reducible exact ih3 _ _ _ _ _ _)
      | (with_reducible exact ashlarlaw08_few.mono _ _ _)
      | (with_reducible exact ashlarlaw08_shown.mono _)
      | (with_reducible exact prop_Eval.mono _ _ _)
      | (with_reducible exact prop_Unit.mono _ _ _)
      | (with_reducible exact LeO.refl _)
      | (with_reducible exact LeO.none _)
      | (with_reducible refine LeO.ite ?_ ?_)
      | (with_reducible refine LeO.bind ?_ (fun _ => ?_))
      | exact ih0 _ _ _ _ _ _
      | exact ih1 _ _ _ _ _ _ _
      | exact ih2 _ _ _ _ _ _ _
      | exact ih3 _ _ _ _ _ _
      | exact ashlarlaw08_few.mono _ _ _
      | exact ashlarlaw08_shown.mono _
      | exact prop_Eval.mono _ _ _
      | exact prop_Unit.mono _ _ _
      | exact LeO.none _
      | refine LeO.ite ?_ ?_
      | refine LeO.bind ?_ (fun _ => ?_)
theorem ashlarlaw08_PropFollows.mono : ∀ a0 a1 a2 k, LeO (ashlarlaw08_PropFollows.f k a0 a1 a2) (ashlarlaw08_PropFollows.f (k + 1) a0 a1 a2) := by
  intro a0 a1 a2 k
  obtain ⟨ih0, ih1, ih2, ih3⟩ := ashlarlaw08_PropFollows.mono_l k
  unfold ashlarlaw08_PropFollows.f
  repeat' first
      | (with_reducible exact ih0 _ _ _ _ _ _)
      | (with_reducible exact ih1 _ _ _ _ _ _ _)
      | (with_reducible exact ih2 _ _ _ _ _ _ _)
      | (with_reducible exact ih3 _ _ _ _ _ _)
      | (with_reducible exact ashlarlaw08_few.mono _ _ _)
      | (with_reducible exact ashlarlaw08_shown.mono _)
      | (with_reducible exact prop_Eval.mono _ _ _)
      | (with_reducible exact prop_Unit.mono _ _ _)
      | (with_reducible exact LeO.refl _)
      | (with_reducible exact LeO.none _)
      | (with_reducible refine LeO.ite ?_ ?_)
      | (with_reducible refine LeO.bind ?_ (fun _ => ?_))
      | exact ih0 _ _ _ _ _ _
      | exact ih1 _ _ _ _ _ _ _
      | exact ih2 _ _ _ _ _ _ _
      | exact ih3 _ _ _ _ _ _
      | exact ashlarlaw08_few.mono _ _ _
      | exact ashlarlaw08_shown.mono _
      | exact prop_Eval.mono _ _ _
      | exact prop_Unit.mono _ _ _
      | exact LeO.none _
      | refine LeO.ite ?_ ?_
      | refine LeO.bind ?_ (fun _ => ?_)
set_option maxHeartbeats 8000000 in
set_option maxRecDepth 100000 in
theorem ashlarlaw08_PropFollows.calls (k : Nat) (A0 : Option Addr) (c0 : Nat) (l0 : List (List Int)) (A1 : Option Addr) (c1 : Nat) (l1 : List Int) (A2 : Option Addr) (c2 : Nat) (l2 : List Bool) (r : Bool) (w : World) (hr0 : Kd.C (Kd.slice 3 (Kd.int .i64)) w A0 l0.length l0) (hc0 : l0.length ≤ c0) (hr1 : Kd.C (Kd.int .i8) w A1 l1.length l1) (hc1 : l1.length ≤ c1) (hr2 : Kd.C Kd.bool w A2 l2.length l2) (hc2 : l2.length ≤ c2) (h : ashlarlaw08_PropFollows.f k l0 l1 l2 = some r) :
    Calls Try.prog 4 #[.slice A0 l0.length c0, .slice A1 l1.length c1, .slice A2 l2.length c2] w fun e w' => e = .returned (.bool r) ∧ Below w.heap.size w w' := by
  have HR0 := Aside0.mk hr0
  have HC0 := Aside0.mk hc0
  clear hr0 hc0
  have HR1 := Aside0.mk hr1
  have HC1 := Aside0.mk hc1
  clear hr1 hc1
  have HR2 := Aside0.mk hr2
  have HC2 := Aside0.mk hc2
  clear hr2 hc2
  have HB := Aside0.mk (Below.refl w.heap.size w)
  have H : ((ashlarlaw08_shown.f k).bind fun t269 => ((ashlarlaw08_few.f k l0 l1).bind fun bt270 => ((some (([] : List Int) : List Int)).bind fun y276 => (if y276.length + bt270.2.length < 140737488355328 then (ashlarlaw08_PropFollows.l0 k bt270.1 bt270.2 l2 t269 (y276 ++ bt270.2) 1) else (none))))) = some r := h
  clear h
  replace H := Option.bind_eq_some_iff.mp H
  obtain ⟨t269, A40, H⟩ := H
  replace H : ((ashlarlaw08_few.f k l0 l1).bind fun bt270 => ((some (([] : List Int) : List Int)).bind fun y276 => (if y276.length + bt270.2.length < 140737488355328 then (ashlarlaw08_PropFollows.l0 k bt270.1 bt270.2 l2 t269 (y276 ++ bt270.2) 1) else (none)))) = some r := H
  have A4 := Aside0.mk A40
  clear A40
  replace H := Option.bind_eq_some_iff.mp H
  obtain ⟨⟨t270, t271⟩, A50, H⟩ := H
  replace H : ((some (([] : List Int) : List Int)).bind fun y276 => (if y276.length + t271.length < 140737488355328 then (ashlarlaw08_PropFollows.l0 k t270 t271 l2 t269 (y276 ++ t271) 1) else (none))) = some r := H
  have A5 := Aside0.mk A50
  clear A50
  obtain ⟨y276, hy276⟩ : ∃ y_ : List Int, y_ = (([] : List Int)) := ⟨_, rfl⟩
  replace H : (if y276.length + t271.length < 140737488355328 then (ashlarlaw08_PropFollows.l0 k t270 t271 l2 t269 (y276 ++ t271) 1) else (none)) = some r := by first | (rw [hy276]; with_reducible exact H) | (have H2_ := (Option.bind_some _ _).symm.trans H; rw [hy276]; with_reducible exact H2_) | (have H2_ := (Option.bind_some _ _).symm.trans H; with_reducible exact H2_) | with_reducible exact H | (rw [hy276]; exact H) | exact H
  have Ny276 := Aside0.mk hy276
  clear hy276
  by_cases c6 : y276.length + t271.length < 140737488355328
  · rw [if_pos c6] at H
    have LMc6 := Aside0.mk c6
    clear c6
    obtain ⟨y279, hy279⟩ : ∃ y_ : List Int, y_ = (y276 ++ t271) := ⟨_, rfl⟩
    replace H : (ashlarlaw08_PropFollows.l0 k t270 t271 l2 t269 y279 1) = some r := by first | (rw [hy279]; with_reducible exact H) | (have H2_ := (Option.bind_some _ _).symm.trans H; rw [hy279]; with_reducible exact H2_) | (have H2_ := (Option.bind_some _ _).symm.trans H; with_reducible exact H2_) | with_reducible exact H | (rw [hy279]; exact H) | exact H
    have Ny279 := Aside0.mk hy279
    clear hy279
    have H' := Aside0.mk H
    clear H
    go_enter Try.func4, Try.ntmps4
    go_wp2_with (first | (go_at_call 12; (with_reducible refine (ashlarlaw08_shown.calls k  t269 _ A4.out).mono ?_); rintro e w7 ⟨rfl, hb⟩; have n0_ := Aside0.mk (below_step (by repeat (first | (with_reducible first | exact HB.out | apply below_alloc | apply pw_below_drewN | apply below_drew1) | exact HB.out)) hb); clear HB; have HB := n0_; clear n0_; (try clear hb); (try clear hb2); (try clear hk); (try clear hi)) | (go_at_call 13; (with_reducible refine (ashlarlaw08_few.calls k _ _ l0 _ _ l1 t270 t271 _ ?side1 ?side2 ?side3 ?side4 A5.out).mono ?_); (case side1 => repeat (first | exact (Kd.C_below HR0.out HB.out) | (with_reducible refine Kd.C_alloc ?_ _) | (with_reducible refine Kd.C_drewN ?_ _) | (with_reducible refine Kd.C_drew ?_))); (case side2 => exact HC0.out); (case side3 => repeat (first | exact (Kd.C_below HR1.out HB.out) | (with_reducible refine Kd.C_alloc ?_ _) | (with_reducible refine Kd.C_drewN ?_ _) | (with_reducible refine Kd.C_drew ?_))); (case side4 => exact HC1.out); rintro e w8 ⟨v272, v274, rfl, ho0, ho1, hb⟩; have n0_ := Aside0.mk (Kd.S_lower ho0 (below_size (by repeat (first | (with_reducible first | exact HB.out | apply below_alloc | apply pw_below_drewN | apply below_drew1) | exact HB.out)))); have n1_ := Aside0.mk (Kd.R_lower ho1 (below_size (by repeat (first | (with_reducible first | exact HB.out | apply below_alloc | apply pw_below_drewN | apply below_drew1) | exact HB.out)))); have n2_ := Aside0.mk (below_step (by repeat (first | (with_reducible first | exact HB.out | apply below_alloc | apply pw_below_drewN | apply below_drew1) | exact HB.out)) hb); clear HB; have HO273 := n0_; have HO275 := n1_; have HB := n2_; clear n0_ n1_ n2_; (try clear hb); (try clear hb2); (try clear hk); (try clear hi); (try clear ho0); (try clear ho1)) | ((with_reducible refine gate_dst (N := 21) rfl ?_); refine Kd.R_lit (Kd.int .i8) _ 30 ?hg (N := 21) ?hd (xs := ([] : List Int)) (inner := []) (ok := fun _ => True) (okp := fun _ => True) ?hr ?hp (fun _ hk => hk) trivial (Below.refl _ _) (Nat.le_refl _) (by simp) ?_; (case hd => rfl); (case hg => rfl); (case hr => first | (go_simp; done) | (go_simp; rfl)); (case hp => exact (Reps.none _ _)); intro v277 w9 ho10 hb hg_ hnew_; clear hg_ hnew_; (first | rw [← Ny276.out] at ho10 | (simp only [Int.reduceToNat] at ho10; rw [← Ny276.out] at ho10)); have n0_ := Aside0.mk (Kd.S_below (by (with_reducible repeat (first | apply Kd.S_alloc | apply Kd.S_drewN | apply Kd.S_drew)); exact HO273.out) hb); have n1_ := Aside0.mk (Kd.R_elder' (by (with_reducible repeat (first | apply Kd.R_alloc | apply Kd.R_drewN | apply Kd.R_drew)); exact HO275.out) (Kd.R_base ho10) hb); have n2_ := Aside0.mk (Kd.R_lower (Kd.R_new' ho10 (Kd.R_lt (by (with_reducible repeat (first | apply Kd.R_alloc | apply Kd.R_drewN | apply Kd.R_drew)); exact HO275.out))) (below_size (by repeat (first | (with_reducible first | exact HB.out | apply below_alloc | apply pw_below_drewN | apply below_drew1) | exact HB.out)))); have n3_ := Aside0.mk (below_step (by repeat (first | (with_reducible first | exact HB.out | apply below_alloc | apply pw_below_drewN | apply below_drew1) | exact HB.out)) hb); clear HO273; clear HO275; clear HB; have HO273 := n0_; have HO275 := n1_; have HO278 := n2_; have HB := n3_; clear n0_ n1_ n2_ n3_; clear hb ho10; obtain ⟨Ao12, co12, eo12⟩ := Kd.R_slice HO275.out; subst eo12) | ((with_reducible refine gate_builtin (b := .append) (xs := #[.tmp 21, .tmp 22]) rfl ?_); at_builtin; refine Kd.R_append_rows (Kd.int .i8) (w0 := w) w.heap.size rfl (.tmp 21) (.tmp 22) 23 30 (.int .i8 0) 1 rfl Try.underlying23 info30 rfl (by decide) (by omega) v277 y276 t271 _ _ _ (fun k_ => some k_ ≠ (.slice Ao12 t271.length co12 : Value).ownBlock) (fun _ => False) rfl rfl ?aO ?aR (fun _ _ h => h) (fun _ h => h.elim) ?aF ?aB ?aS ?aL ?_; (case aR => repeat (first | exact (Kd.R_reads' HO275.out).2.2 | (with_reducible refine Kd.C_alloc ?_ _) | (with_reducible refine Kd.C_drewN ?_ _) | (with_reducible refine Kd.C_drew ?_))); (case aB => exact (by repeat (first | (with_reducible first | exact HB.out | apply below_alloc | apply pw_below_drewN | apply below_drew1) | exact HB.out))); (case aF => exact (fun k_ hk => Kd.fresh' (Kd.R_lt (by (with_reducible repeat (first | apply Kd.R_alloc | apply Kd.R_drewN | apply Kd.R_drew)); exact HO275.out)) k_ hk)); (case aO => exact (by (with_reducible repeat (first | apply Kd.R_alloc | apply Kd.R_drewN | apply Kd.R_drew)); exact Kd.R_mono HO278.out (fun _ hk => hk.2))); (case aS => exact (below_size (by repeat (first | (with_reducible first | exact HB.out | apply below_alloc | apply pw_below_drewN | apply below_drew1) | exact HB.out)))); (case aL => have := LMc6.out; omega); intro v280 w11 ho hb hg hat; rw [← Ny279.out] at ho; have n0_ := Aside0.mk (Kd.S_over' (by (with_reducible repeat (first | apply Kd.S_alloc | apply Kd.S_drewN | apply Kd.S_drew)); exact HO273.out) (Kd.R_typed (by (with_reducible repeat (first | apply Kd.R_alloc | apply Kd.R_drewN | apply Kd.R_drew)); exact HO278.out)) (by decide) hg); have n1_ := Aside0.mk (Kd.R_after (ok := (fun _ => True)) (by (with_reducible repeat (first | apply Kd.R_alloc | apply Kd.R_drewN | apply Kd.R_drew)); exact HO275.out) hg hat); have n2_ := Aside0.mk (hb); have n3_ := Aside0.mk (ho); clear HO273; clear HO275; clear HB; clear HO278; have HO273 := n0_; have HO275 := n1_; have HB := n2_; have HO281 := n3_; clear n0_ n1_ n2_ n3_; clear ho hb hg hat))
    repeat (go_quiet (first | (go_at_call 12; (with_reducible refine (ashlarlaw08_shown.calls k  t269 _ A4.out).mono ?_); rintro e w7 ⟨rfl, hb⟩; have n0_ := Aside0.mk (below_step (by repeat (first | (with_reducible first | exact HB.out | apply below_alloc | apply pw_below_drewN | apply below_drew1) | exact HB.out)) hb); clear HB; have HB := n0_; clear n0_; (try clear hb); (try clear hb2); (try clear hk); (try clear hi)) | (go_at_call 13; (with_reducible refine (ashlarlaw08_few.calls k _ _ l0 _ _ l1 t270 t271 _ ?side1 ?side2 ?side3 ?side4 A5.out).mono ?_); (case side1 => repeat (first | exact (Kd.C_below HR0.out HB.out) | (with_reducible refine Kd.C_alloc ?_ _) | (with_reducible refine Kd.C_drewN ?_ _) | (with_reducible refine Kd.C_drew ?_))); (case side2 => exact HC0.out); (case side3 => repeat (first | exact (Kd.C_below HR1.out HB.out) | (with_reducible refine Kd.C_alloc ?_ _) | (with_reducible refine Kd.C_drewN ?_ _) | (with_reducible refine Kd.C_drew ?_))); (case side4 => exact HC1.out); rintro e w8 ⟨v272, v274, rfl, ho0, ho1, hb⟩; have n0_ := Aside0.mk (Kd.S_lower ho0 (below_size (by repeat (first | (with_reducible first | exact HB.out | apply below_alloc | apply pw_below_drewN | apply below_drew1) | exact HB.out)))); have n1_ := Aside0.mk (Kd.R_lower ho1 (below_size (by repeat (first | (with_reducible first | exact HB.out | apply below_alloc | apply pw_below_drewN | apply below_drew1) | exact HB.out)))); have n2_ := Aside0.mk (below_step (by repeat (first | (with_reducible first | exact HB.out | apply below_alloc | apply pw_below_drewN | apply below_drew1) | exact HB.out)) hb); clear HB; have HO273 := n0_; have HO275 := n1_; have HB := n2_; clear n0_ n1_ n2_; (try clear hb); (try clear hb2); (try clear hk); (try clear hi); (try clear ho0); (try clear ho1)) | ((with_reducible refine gate_dst (N := 21) rfl ?_); refine Kd.R_lit (Kd.int .i8) _ 30 ?hg (N := 21) ?hd (xs := ([] : List Int)) (inner := []) (ok := fun _ => True) (okp := fun _ => True) ?hr ?hp (fun _ hk => hk) trivial (Below.refl _ _) (Nat.le_refl _) (by simp) ?_; (case hd => rfl); (case hg => rfl); (case hr => first | (go_simp; done) | (go_simp; rfl)); (case hp => exact (Reps.none _ _)); intro v277 w9 ho10 hb hg_ hnew_; clear hg_ hnew_; (first | rw [← Ny276.out] at ho10 | (simp only [Int.reduceToNat] at ho10; rw [← Ny276.out] at ho10)); have n0_ := Aside0.mk (Kd.S_below (by (with_reducible repeat (first | apply Kd.S_alloc | apply Kd.S_drewN | apply Kd.S_drew)); exact HO273.out) hb); have n1_ := Aside0.mk (Kd.R_elder' (by (with_reducible repeat (first | apply Kd.R_alloc | apply Kd.R_drewN | apply Kd.R_drew)); exact HO275.out) (Kd.R_base ho10) hb); have n2_ := Aside0.mk (Kd.R_lower (Kd.R_new' ho10 (Kd.R_lt (by (with_reducible repeat (first | apply Kd.R_alloc | apply Kd.R_drewN | apply Kd.R_drew)); exact HO275.out))) (below_size (by repeat (first | (with_reducible first | exact HB.out | apply below_alloc | apply pw_below_drewN | apply below_drew1) | exact HB.out)))); have n3_ := Aside0.mk (below_step (by repeat (first | (with_reducible first | exact HB.out | apply below_alloc | apply pw_below_drewN | apply below_drew1) | exact HB.out)) hb); clear HO273; clear HO275; clear HB; have HO273 := n0_; have HO275 := n1_; have HO278 := n2_; have HB := n3_; clear n0_ n1_ n2_ n3_; clear hb ho10; obtain ⟨Ao12, co12, eo12⟩ := Kd.R_slice HO275.out; subst eo12) | ((with_reducible refine gate_builtin (b := .append) (xs := #[.tmp 21, .tmp 22]) rfl ?_); at_builtin; refine Kd.R_append_rows (Kd.int .i8) (w0 := w) w.heap.size rfl (.tmp 21) (.tmp 22) 23 30 (.int .i8 0) 1 rfl Try.underlying23 info30 rfl (by decide) (by omega) v277 y276 t271 _ _ _ (fun k_ => some k_ ≠ (.slice Ao12 t271.length co12 : Value).ownBlock) (fun _ => False) rfl rfl ?aO ?aR (fun _ _ h => h) (fun _ h => h.elim) ?aF ?aB ?aS ?aL ?_; (case aR => repeat (first | exact (Kd.R_reads' HO275.out).2.2 | (with_reducible refine Kd.C_alloc ?_ _) | (with_reducible refine Kd.C_drewN ?_ _) | (with_reducible refine Kd.C_drew ?_))); (case aB => exact (by repeat (first | (with_reducible first | exact HB.out | apply below_alloc | apply pw_below_drewN | apply below_drew1) | exact HB.out))); (case aF => exact (fun k_ hk => Kd.fresh' (Kd.R_lt (by (with_reducible repeat (first | apply Kd.R_alloc | apply Kd.R_drewN | apply Kd.R_drew)); exact HO275.out)) k_ hk)); (case aO => exact (by (with_reducible repeat (first | apply Kd.R_alloc | apply Kd.R_drewN | apply Kd.R_drew)); exact Kd.R_mono HO278.out (fun _ hk => hk.2))); (case aS => exact (below_size (by repeat (first | (with_reducible first | exact HB.out | apply below_alloc | apply pw_below_drewN | apply below_drew1) | exact HB.out)))); (case aL => have := LMc6.out; omega); intro v280 w11 ho hb hg hat; rw [← Ny279.out] at ho; have n0_ := Aside0.mk (Kd.S_over' (by (with_reducible repeat (first | apply Kd.S_alloc | apply Kd.S_drewN | apply Kd.S_drew)); exact HO273.out) (Kd.R_typed (by (with_reducible repeat (first | apply Kd.R_alloc | apply Kd.R_drewN | apply Kd.R_drew)); exact HO278.out)) (by decide) hg); have n1_ := Aside0.mk (Kd.R_after (ok := (fun _ => True)) (by (with_reducible repeat (first | apply Kd.R_alloc | apply Kd.R_drewN | apply Kd.R_drew)); exact HO275.out) hg hat); have n2_ := Aside0.mk (hb); have n3_ := Aside0.mk (ho); clear HO273; clear HO275; clear HB; clear HO278; have HO273 := n0_; have HO275 := n1_; have HB := n2_; have HO281 := n3_; clear n0_ n1_ n2_ n3_; clear ho hb hg hat)); try go_wp2_with (first | (go_at_call 12; (with_reducible refine (ashlarlaw08_shown.calls k  t269 _ A4.out).mono ?_); rintro e w7 ⟨rfl, hb⟩; have n0_ := Aside0.mk (below_step (by repeat (first | (with_reducible first | exact HB.out | apply below_alloc | apply pw_below_drewN | apply below_drew1) | exact HB.out)) hb); clear HB; have HB := n0_; clear n0_; (try clear hb); (try clear hb2); (try clear hk); (try clear hi)) | (go_at_call 13; (with_reducible refine (ashlarlaw08_few.calls k _ _ l0 _ _ l1 t270 t271 _ ?side1 ?side2 ?side3 ?side4 A5.out).mono ?_); (case side1 => repeat (first | exact (Kd.C_below HR0.out HB.out) | (with_reducible refine Kd.C_alloc ?_ _) | (with_reducible refine Kd.C_drewN ?_ _) | (with_reducible refine Kd.C_drew ?_))); (case side2 => exact HC0.out); (case side3 => repeat (first | exact (Kd.C_below HR1.out HB.out) | (with_reducible refine Kd.C_alloc ?_ _) | (with_reducible refine Kd.C_drewN ?_ _) | (with_reducible refine Kd.C_drew ?_))); (case side4 => exact HC1.out); rintro e w8 ⟨v272, v274, rfl, ho0, ho1, hb⟩; have n0_ := Aside0.mk (Kd.S_lower ho0 (below_size (by repeat (first | (with_reducible first | exact HB.out | apply below_alloc | apply pw_below_drewN | apply below_drew1) | exact HB.out)))); have n1_ := Aside0.mk (Kd.R_lower ho1 (below_size (by repeat (first | (with_reducible first | exact HB.out | apply below_alloc | apply pw_below_drewN | apply below_drew1) | exact HB.out)))); have n2_ := Aside0.mk (below_step (by repeat (first | (with_reducible first | exact HB.out | apply below_alloc | apply pw_below_drewN | apply below_drew1) | exact HB.out)) hb); clear HB; have HO273 := n0_; have HO275 := n1_; have HB := n2_; clear n0_ n1_ n2_; (try clear hb); (try clear hb2); (try clear hk); (try clear hi); (try clear ho0); (try clear ho1)) | ((with_reducible refine gate_dst (N := 21) rfl ?_); refine Kd.R_lit (Kd.int .i8) _ 30 ?hg (N := 21) ?hd (xs := ([] : List Int)) (inner := []) (ok := fun _ => True) (okp := fun _ => True) ?hr ?hp (fun _ hk => hk) trivial (Below.refl _ _) (Nat.le_refl _) (by simp) ?_; (case hd => rfl); (case hg => rfl); (case hr => first | (go_simp; done) | (go_simp; rfl)); (case hp => exact (Reps.none _ _)); intro v277 w9 ho10 hb hg_ hnew_; clear hg_ hnew_; (first | rw [← Ny276.out] at ho10 | (simp only [Int.reduceToNat] at ho10; rw [← Ny276.out] at ho10)); have n0_ := Aside0.mk (Kd.S_below (by (with_reducible repeat (first | apply Kd.S_alloc | apply Kd.S_drewN | apply Kd.S_drew)); exact HO273.out) hb); have n1_ := Aside0.mk (Kd.R_elder' (by (with_reducible repeat (first | apply Kd.R_alloc | apply Kd.R_drewN | apply Kd.R_drew)); exact HO275.out) (Kd.R_base ho10) hb); have n2_ := Aside0.mk (Kd.R_lower (Kd.R_new' ho10 (Kd.R_lt (by (with_reducible repeat (first | apply Kd.R_alloc | apply Kd.R_drewN | apply Kd.R_drew)); exact HO275.out))) (below_size (by repeat (first | (with_reducible first | exact HB.out | apply below_alloc | apply pw_below_drewN | apply below_drew1) | exact HB.out)))); have n3_ := Aside0.mk (below_step (by repeat (first | (with_reducible first | exact HB.out | apply below_alloc | apply pw_below_drewN | apply below_drew1) | exact HB.out)) hb); clear HO273; clear HO275; clear HB; have HO273 := n0_; have HO275 := n1_; have HO278 := n2_; have HB := n3_; clear n0_ n1_ n2_ n3_; clear hb ho10; obtain ⟨Ao12, co12, eo12⟩ := Kd.R_slice HO275.out; subst eo12) | ((with_reducible refine gate_builtin (b := .append) (xs := #[.tmp 21, .tmp 22]) rfl ?_); at_builtin; refine Kd.R_append_rows (Kd.int .i8) (w0 := w) w.heap.size rfl (.tmp 21) (.tmp 22) 23 30 (.int .i8 0) 1 rfl Try.underlying23 info30 rfl (by decide) (by omega) v277 y276 t271 _ _ _ (fun k_ => some k_ ≠ (.slice Ao12 t271.length co12 : Value).ownBlock) (fun _ => False) rfl rfl ?aO ?aR (fun _ _ h => h) (fun _ h => h.elim) ?aF ?aB ?aS ?aL ?_; (case aR => repeat (first | exact (Kd.R_reads' HO275.out).2.2 | (with_reducible refine Kd.C_alloc ?_ _) | (with_reducible refine Kd.C_drewN ?_ _) | (with_reducible refine Kd.C_drew ?_))); (case aB => exact (by repeat (first | (with_reducible first | exact HB.out | apply below_alloc | apply pw_below_drewN | apply below_drew1) | exact HB.out))); (case aF => exact (fun k_ hk => Kd.fresh' (Kd.R_lt (by (with_reducible repeat (first | apply Kd.R_alloc | apply Kd.R_drewN | apply Kd.R_drew)); exact HO275.out)) k_ hk)); (case aO => exact (by (with_reducible repeat (first | apply Kd.R_alloc | apply Kd.R_drewN | apply Kd.R_drew)); exact Kd.R_mono HO278.out (fun _ hk => hk.2))); (case aS => exact (below_size (by repeat (first | (with_reducible first | exact HB.out | apply below_alloc | apply pw_below_drewN | apply below_drew1) | exact HB.out)))); (case aL => have := LMc6.out; omega); intro v280 w11 ho hb hg hat; rw [← Ny279.out] at ho; have n0_ := Aside0.mk (Kd.S_over' (by (with_reducible repeat (first | apply Kd.S_alloc | apply Kd.S_drewN | apply Kd.S_drew)); exact HO273.out) (Kd.R_typed (by (with_reducible repeat (first | apply Kd.R_alloc | apply Kd.R_drewN | apply Kd.R_drew)); exact HO278.out)) (by decide) hg); have n1_ := Aside0.mk (Kd.R_after (ok := (fun _ => True)) (by (with_reducible repeat (first | apply Kd.R_alloc | apply Kd.R_drewN | apply Kd.R_drew)); exact HO275.out) hg hat); have n2_ := Aside0.mk (hb); have n3_ := Aside0.mk (ho); clear HO273; clear HO275; clear HB; clear HO278; have HO273 := n0_; have HO275 := n1_; have HB := n2_; have HO281 := n3_; clear n0_ n1_ n2_ n3_; clear ho hb hg hat)))
    go_loopg [9] k (fun kq v9 w' => ∃ (x8_1 : List Int) (x9_1 : Int), v9 = .int .i64 x9_1 ∧ Aside0 (ashlarlaw08_PropFollows.l0 kq t270 t271 l2 t269 x8_1 x9_1 = some r) ∧ Aside0 (kq ≤ k) ∧ Aside0 (Kd.S (Kd.slice 3 (Kd.int .i64)) 35 w' w.heap.size (fun _ => True) v272 t270) ∧ Aside0 (Kd.R (Kd.int .i8) 30 w' w.heap.size (fun k_ => some k_ ≠ (v280 : Value).ownBlock) (.slice Ao12 t271.length co12) t271) ∧ Aside0 (Kd.R (Kd.int .i8) 30 w' w.heap.size (fun k_ => some k_ ≠ ((.slice Ao12 t271.length co12) : Value).ownBlock) v280 x8_1) ∧ Aside0 (Below w.heap.size w w'))
    case atStart => exact ⟨(y279), (1), (by first | rfl | (simp; done) | (simp [*]; done)), H', ⟨Nat.le_refl _⟩, ⟨by (with_reducible repeat (first | apply Kd.S_alloc | apply Kd.S_drewN | apply Kd.S_drew)); exact HO273.out⟩, ⟨by (with_reducible repeat (first | apply Kd.R_alloc | apply Kd.R_drewN | apply Kd.R_drew)); exact Kd.R_mono HO275.out (fun _ hk => hk.2)⟩, ⟨by (with_reducible repeat (first | apply Kd.R_alloc | apply Kd.R_drewN | apply Kd.R_drew)); exact HO281.out⟩, ⟨by repeat (first | (with_reducible first | exact HB.out | apply below_alloc | apply pw_below_drewN | apply below_drew1) | exact HB.out)⟩⟩
    case round =>
      clear H'
      try clear c1
      try clear c2
      try clear p2
      try clear c4
      try clear c6
      obtain ⟨x8_1, x9_1, rfl, HA, HK1, HO_0, HO_1, HO_8, HB⟩ := hrel
      cases gk with
      | zero => exact absurd HA.out (by simp [ashlarlaw08_PropFollows.l0])
      | succ k1 =>
        have H := HA.out
        clear HA
        simp only [ashlarlaw08_PropFollows.l0] at H
        by_cases c13 : x9_1 < (x8_1.length : Int)
        · rw [if_pos c13] at H
          have c13b0 : decide (x9_1 < (x8_1.length : Int)) = true := decide_eq_true c13
          clear c13
          by_cases c14 : 0 ≤ x9_1
          · rw [if_pos c14] at H
            have c14b0 : decide (0 ≤ x9_1) = true := decide_eq_true c14
            clear c14
            by_cases c15 : (rd x8_1 x9_1) = 0
            · rw [if_pos c15] at H
              have c15b0 : ((rd x8_1 x9_1) == 0) = true := beq_iff_eq.mpr c15
              have c15b1 : ((rd x8_1 x9_1) != 0) = false := bne_eq_false_iff_eq.mpr c15
              clear c15
              obtain ⟨y283, hy283⟩ : ∃ y_ : List Int, y_ = (x8_1.set (x9_1 : Int).toNat (-1)) := ⟨_, rfl⟩
              replace H : (if x9_1 < (l2.length : Int) then (if rdOf false l2 x9_1 = true then (ashlarlaw08_PropFollows.l0 k1 t270 t271 l2 t269 (y283.set (x9_1 : Int).toNat 1) (wrap64 (x9_1 + 1))) else (ashlarlaw08_PropFollows.l0 k1 t270 t271 l2 t269 y283 (wrap64 (x9_1 + 1)))) else (ashlarlaw08_PropFollows.l0 k1 t270 t271 l2 t269 y283 (wrap64 (x9_1 + 1)))) = some r := by first | (rw [hy283]; with_reducible exact H) | (have H2_ := (Option.bind_some _ _).symm.trans H; rw [hy283]; with_reducible exact H2_) | (have H2_ := (Option.bind_some _ _).symm.trans H; with_reducible exact H2_) | with_reducible exact H | (rw [hy283]; exact H) | exact H
              have Ny283 := Aside0.mk hy283
              clear hy283
              by_cases c17 : x9_1 < (l2.length : Int)
              · rw [if_pos c17] at H
                have c17b0 : decide (x9_1 < (l2.length : Int)) = true := decide_eq_true c17
                clear c17
                obtain ⟨bq18, hbq18⟩ : ∃ b_ : Bool, b_ = (rdOf false l2 x9_1) := ⟨_, rfl⟩
                replace H : (if bq18 = true then (ashlarlaw08_PropFollows.l0 k1 t270 t271 l2 t269 (y283.set (x9_1 : Int).toNat 1) (wrap64 (x9_1 + 1))) else (ashlarlaw08_PropFollows.l0 k1 t270 t271 l2 t269 y283 (wrap64 (x9_1 + 1)))) = some r := by rw [← hbq18] at H; exact H
                have Nbq18 := Aside0.mk hbq18
                clear hbq18
                by_cases c19 : bq18 = true
                · subst c19
                  have H1 : (ashlarlaw08_PropFollows.l0 k1 t270 t271 l2 t269 (y283.set (x9_1 : Int).toNat 1) (wrap64 (x9_1 + 1))) = some r := by rw [if_pos rfl] at H; exact H
                  clear H
                  have H := H1
                  clear H1
                  obtain ⟨y285, hy285⟩ : ∃ y_ : List Int, y_ = (y283.set (x9_1 : Int).toNat 1) := ⟨_, rfl⟩
                  replace H : (ashlarlaw08_PropFollows.l0 k1 t270 t271 l2 t269 y285 (wrap64 (x9_1 + 1))) = some r := by first | (rw [hy285]; with_reducible exact H) | (have H2_ := (Option.bind_some _ _).symm.trans H; rw [hy285]; with_reducible exact H2_) | (have H2_ := (Option.bind_some _ _).symm.trans H; with_reducible exact H2_) | with_reducible exact H | (rw [hy285]; exact H) | exact H
                  have Ny285 := Aside0.mk hy285
                  clear hy285
                  have H' := Aside0.mk H
                  clear H
                  obtain ⟨Ao21, co21, eo21⟩ := Kd.R_slice HO_8.out
                  subst eo21
                  have p282 : 0 ≤ (x9_1 : Int) := of_decide_eq_true (by first | (with_reducible assumption) | assumption)
                  have q282 : x9_1 < (x8_1.length : Int) := of_decide_eq_true (by first | (with_reducible assumption) | assumption)
                  obtain ⟨ad282, e282, hx282_0⟩ := Kd.at_int (Kd.R_reads' HO_8.out).2.2 x9_1 p282 q282
                  cases e282
                  replace p282 := eq_true p282
                  replace q282 := eq_true q282
                  have p16 : 0 ≤ (x9_1 : Int) := of_decide_eq_true (by first | (with_reducible assumption) | assumption)
                  have q16 : (x9_1 : Int) < ((x8_1.length : Int) : Int) := of_decide_eq_true (by first | (with_reducible assumption) | assumption)
                  obtain ⟨go16, co16, eo16, gb16, gl16, cl16, HG16⟩ := Kd.R_form HO_8.out (by omega)
                  (first | cases eo16 | (injection eo16 with ea_ en_ ec_; (first | subst ea_ | (injection ea_ with ea_; subst ea_)); subst ec_; clear en_))
                  have GB16 := Aside0.mk gb16
                  have GG16 := Aside0.mk HG16
                  clear gb16 gl16 HG16
                  (first | simp only [add_plain] at hx282_0 | skip)
                  obtain ⟨hx16_0, hf16_0⟩ := Kd.R_celln 0 HO_8.out (x9_1 : Int) p16 q16
                  replace p16 := eq_true p16
                  replace q16 := eq_true q16
                  have HP22 := Kd.R_putg HO_8.out (x9_1 : Int) (-1)
                  go_wp2_with (first | ((with_reducible refine gate_store (t := 30) (p := 37) rfl ?_); (try (rw [drewN_self wr]; generalize hq_ : World.drewN wr _ = wr; have n0_ := Aside0.mk (Kd.S_at hq_ HO_0.out); have n1_ := Aside0.mk (Kd.R_at hq_ HO_1.out); have n2_ := Aside0.mk (Kd.R_at hq_ HO_8.out); have n3_ := Aside0.mk (below_at hq_ HB.out); clear hq_ HO_0 HO_1 HO_8 HB; have HO_0 := n0_; have HO_1 := n1_; have HO_8 := n2_; have HB := n3_; clear n0_ n1_ n2_ n3_; (try (have HP22 := Kd.R_putg HO_8.out (x9_1 : Int) (-1))))); refine store_event (t := 30) (p := 37) (v := ?vo_w23) (w1 := (wr.setCell ⟨go16, (x9_1 : Int).toNat, none⟩ (.int .i8 (-1)))) ?hg ?ho ?hn ?hr ?_; (case ho => rfl); (case hg => rfl); (case hn => rfl); (case hr => first | (go_simp; done) | (go_simp; rfl)); intro w23 hw; have hg : wr.grownBy w23 (some go16) := (by rw [hw]; exact HP22.2); have hp_ : Kd.R (Kd.int .i8) 30 w23 w.heap.size (fun k_ => some k_ ≠ (.slice Ao12 t271.length co12 : Value).ownBlock) (.slice (some ⟨go16, 0, none⟩) x8_1.length co21) y283 := (by rw [hw, Ny283.out]; exact HP22.1); clear HP22; have n0_ := Aside0.mk (Kd.S_over' (v := (.slice (some ⟨go16, 0, none⟩) x8_1.length co21)) (by (with_reducible repeat (first | apply Kd.S_alloc | apply Kd.S_drewN | apply Kd.S_drew)); exact HO_0.out) (Kd.R_typed HO_8.out) (by decide) hg); have n1_ := Aside0.mk (Kd.R_after (v := (.slice (some ⟨go16, 0, none⟩) x8_1.length co21)) (v1 := (.slice (some ⟨go16, 0, none⟩) x8_1.length co21)) (ok := (fun _ => True)) (by (with_reducible repeat (first | apply Kd.R_alloc | apply Kd.R_drewN | apply Kd.R_drew)); exact Kd.R_mono HO_1.out (fun _ hk => ⟨trivial, hk⟩)) hg (.inl rfl)); have n2_ := Aside0.mk (hp_); have n3_ := Aside0.mk ((by rw [hw]; exact below_set (HB.out) GB16.out : Below w.heap.size w w23)); clear HO_0; clear HO_1; clear HO_8; clear HB; have HO_0 := n0_; have HO_1 := n1_; have HO_8 := n2_; have HB := n3_; clear n0_ n1_ n2_ n3_; clear hg hw hp_; have p284 : 0 ≤ (x9_1 : Int) := of_decide_eq_true (by first | (with_reducible assumption) | assumption); have q284 : x9_1 < (l2.length : Int) := of_decide_eq_true (by first | (with_reducible assumption) | assumption); obtain ⟨ad284, e284, hx284_0⟩ := Kd.at_bool HR2.out x9_1 p284 q284; (try rw [← Nbq18.out] at hx284_0); cases e284; replace hx284_0 := (HB.out.cell (World.block_lt_of_cell? w _ hx284_0)).trans hx284_0; replace p284 := eq_true p284; replace q284 := eq_true q284; have p20 : 0 ≤ (x9_1 : Int) := of_decide_eq_true (by first | (with_reducible assumption) | assumption); have q20 : (x9_1 : Int) < ((x8_1.length : Int) : Int) := of_decide_eq_true (by first | (with_reducible assumption) | assumption); obtain ⟨hx20_0, hf20_0⟩ := Kd.R_celln 0 HO_8.out (x9_1 : Int) p20 q20; replace p20 := eq_true p20; replace q20 := eq_true q20; obtain ⟨hy24_, hz24_⟩ := Kd.R_celln 0 HO_8.out (x9_1 : Int) (of_decide_eq_true (by first | (with_reducible assumption) | assumption)) (of_decide_eq_true (by first | (with_reducible assumption) | assumption)); have HP24 := Kd.R_putg HO_8.out (x9_1 : Int) 1) | ((with_reducible refine gate_store (t := 30) (p := 50) rfl ?_); (try (rw [drewN_self w23]; generalize hq_ : World.drewN w23 _ = w23; have n0_ := Aside0.mk (Kd.S_at hq_ HO_0.out); have n1_ := Aside0.mk (Kd.R_at hq_ HO_1.out); have n2_ := Aside0.mk (Kd.R_at hq_ HO_8.out); have n3_ := Aside0.mk (below_at hq_ HB.out); clear hq_ HO_0 HO_1 HO_8 HB; have HO_0 := n0_; have HO_1 := n1_; have HO_8 := n2_; have HB := n3_; clear n0_ n1_ n2_ n3_; (try (obtain ⟨hy24_, hz24_⟩ := Kd.R_celln 0 HO_8.out (x9_1 : Int) (of_decide_eq_true (by first | (with_reducible assumption) | assumption)) (of_decide_eq_true (by first | (with_reducible assumption) | assumption)))); (try (have HP24 := Kd.R_putg HO_8.out (x9_1 : Int) 1)))); refine store_event (t := 30) (p := 50) (v := ?vo_w25) (w1 := (w23.setCell ⟨go16, (x9_1 : Int).toNat, none⟩ (.int .i8 1))) ?hg ?ho ?hn ?hr ?_; (case ho => rfl); (case hg => rfl); (case hn => rfl); (case hr => first | (go_simp; done) | (go_simp; rfl)); intro w25 hw; have hg : w23.grownBy w25 (some go16) := (by rw [hw]; exact HP24.2); have hp_ : Kd.R (Kd.int .i8) 30 w25 w.heap.size (fun k_ => some k_ ≠ (.slice Ao12 t271.length co12 : Value).ownBlock) (.slice (some ⟨go16, 0, none⟩) x8_1.length co21) y285 := (by rw [hw, Ny285.out]; exact HP24.1); clear HP24; have n0_ := Aside0.mk (Kd.S_over' (v := (.slice (some ⟨go16, 0, none⟩) x8_1.length co21)) (by (with_reducible repeat (first | apply Kd.S_alloc | apply Kd.S_drewN | apply Kd.S_drew)); exact HO_0.out) (Kd.R_typed HO_8.out) (by decide) hg); have n1_ := Aside0.mk (Kd.R_after (v := (.slice (some ⟨go16, 0, none⟩) x8_1.length co21)) (v1 := (.slice (some ⟨go16, 0, none⟩) x8_1.length co21)) (ok := (fun _ => True)) (by (with_reducible repeat (first | apply Kd.R_alloc | apply Kd.R_drewN | apply Kd.R_drew)); exact HO_1.out) hg (.inl rfl)); have n2_ := Aside0.mk (hp_); have n3_ := Aside0.mk ((by rw [hw]; exact below_set (HB.out) GB16.out : Below w.heap.size w w25)); clear HO_0; clear HO_1; clear HO_8; clear HB; have HO_0 := n0_; have HO_1 := n1_; have HO_8 := n2_; have HB := n3_; clear n0_ n1_ n2_ n3_; clear hg hw hp_))
                  repeat (go_quiet (first | ((with_reducible refine gate_store (t := 30) (p := 37) rfl ?_); (try (rw [drewN_self wr]; generalize hq_ : World.drewN wr _ = wr; have n0_ := Aside0.mk (Kd.S_at hq_ HO_0.out); have n1_ := Aside0.mk (Kd.R_at hq_ HO_1.out); have n2_ := Aside0.mk (Kd.R_at hq_ HO_8.out); have n3_ := Aside0.mk (below_at hq_ HB.out); clear hq_ HO_0 HO_1 HO_8 HB; have HO_0 := n0_; have HO_1 := n1_; have HO_8 := n2_; have HB := n3_; clear n0_ n1_ n2_ n3_; (try (have HP22 := Kd.R_putg HO_8.out (x9_1 : Int) (-1))))); refine store_event (t := 30) (p := 37) (v := ?vo_w23) (w1 := (wr.setCell ⟨go16, (x9_1 : Int).toNat, none⟩ (.int .i8 (-1)))) ?hg ?ho ?hn ?hr ?_; (case ho => rfl); (case hg => rfl); (case hn => rfl); (case hr => first | (go_simp; done) | (go_simp; rfl)); intro w23 hw; have hg : wr.grownBy w23 (some go16) := (by rw [hw]; exact HP22.2); have hp_ : Kd.R (Kd.int .i8) 30 w23 w.heap.size (fun k_ => some k_ ≠ (.slice Ao12 t271.length co12 : Value).ownBlock) (.slice (some ⟨go16, 0, none⟩) x8_1.length co21) y283 := (by rw [hw, Ny283.out]; exact HP22.1); clear HP22; have n0_ := Aside0.mk (Kd.S_over' (v := (.slice (some ⟨go16, 0, none⟩) x8_1.length co21)) (by (with_reducible repeat (first | apply Kd.S_alloc | apply Kd.S_drewN | apply Kd.S_drew)); exact HO_0.out) (Kd.R_typed HO_8.out) (by decide) hg); have n1_ := Aside0.mk (Kd.R_after (v := (.slice (some ⟨go16, 0, none⟩) x8_1.length co21)) (v1 := (.slice (some ⟨go16, 0, none⟩) x8_1.length co21)) (ok := (fun _ => True)) (by (with_reducible repeat (first | apply Kd.R_alloc | apply Kd.R_drewN | apply Kd.R_drew)); exact Kd.R_mono HO_1.out (fun _ hk => ⟨trivial, hk⟩)) hg (.inl rfl)); have n2_ := Aside0.mk (hp_); have n3_ := Aside0.mk ((by rw [hw]; exact below_set (HB.out) GB16.out : Below w.heap.size w w23)); clear HO_0; clear HO_1; clear HO_8; clear HB; have HO_0 := n0_; have HO_1 := n1_; have HO_8 := n2_; have HB := n3_; clear n0_ n1_ n2_ n3_; clear hg hw hp_; have p284 : 0 ≤ (x9_1 : Int) := of_decide_eq_true (by first | (with_reducible assumption) | assumption); have q284 : x9_1 < (l2.length : Int) := of_decide_eq_true (by first | (with_reducible assumption) | assumption); obtain ⟨ad284, e284, hx284_0⟩ := Kd.at_bool HR2.out x9_1 p284 q284; (try rw [← Nbq18.out] at hx284_0); cases e284; replace hx284_0 := (HB.out.cell (World.block_lt_of_cell? w _ hx284_0)).trans hx284_0; replace p284 := eq_true p284; replace q284 := eq_true q284; have p20 : 0 ≤ (x9_1 : Int) := of_decide_eq_true (by first | (with_reducible assumption) | assumption); have q20 : (x9_1 : Int) < ((x8_1.length : Int) : Int) := of_decide_eq_true (by first | (with_reducible assumption) | assumption); obtain ⟨hx20_0, hf20_0⟩ := Kd.R_celln 0 HO_8.out (x9_1 : Int) p20 q20; replace p20 := eq_true p20; replace q20 := eq_true q20; obtain ⟨hy24_, hz24_⟩ := Kd.R_celln 0 HO_8.out (x9_1 : Int) (of_decide_eq_true (by first | (with_reducible assumption) | assumption)) (of_decide_eq_true (by first | (with_reducible assumption) | assumption)); have HP24 := Kd.R_putg HO_8.out (x9_1 : Int) 1) | ((with_reducible refine gate_store (t := 30) (p := 50) rfl ?_); (try (rw [drewN_self w23]; generalize hq_ : World.drewN w23 _ = w23; have n0_ := Aside0.mk (Kd.S_at hq_ HO_0.out); have n1_ := Aside0.mk (Kd.R_at hq_ HO_1.out); have n2_ := Aside0.mk (Kd.R_at hq_ HO_8.out); have n3_ := Aside0.mk (below_at hq_ HB.out); clear hq_ HO_0 HO_1 HO_8 HB; have HO_0 := n0_; have HO_1 := n1_; have HO_8 := n2_; have HB := n3_; clear n0_ n1_ n2_ n3_; (try (obtain ⟨hy24_, hz24_⟩ := Kd.R_celln 0 HO_8.out (x9_1 : Int) (of_decide_eq_true (by first | (with_reducible assumption) | assumption)) (of_decide_eq_true (by first | (with_reducible assumption) | assumption)))); (try (have HP24 := Kd.R_putg HO_8.out (x9_1 : Int) 1)))); refine store_event (t := 30) (p := 50) (v := ?vo_w25) (w1 := (w23.setCell ⟨go16, (x9_1 : Int).toNat, none⟩ (.int .i8 1))) ?hg ?ho ?hn ?hr ?_; (case ho => rfl); (case hg => rfl); (case hn => rfl); (case hr => first | (go_simp; done) | (go_simp; rfl)); intro w25 hw; have hg : w23.grownBy w25 (some go16) := (by rw [hw]; exact HP24.2); have hp_ : Kd.R (Kd.int .i8) 30 w25 w.heap.size (fun k_ => some k_ ≠ (.slice Ao12 t271.length co12 : Value).ownBlock) (.slice (some ⟨go16, 0, none⟩) x8_1.length co21) y285 := (by rw [hw, Ny285.out]; exact HP24.1); clear HP24; have n0_ := Aside0.mk (Kd.S_over' (v := (.slice (some ⟨go16, 0, none⟩) x8_1.length co21)) (by (with_reducible repeat (first | apply Kd.S_alloc | apply Kd.S_drewN | apply Kd.S_drew)); exact HO_0.out) (Kd.R_typed HO_8.out) (by decide) hg); have n1_ := Aside0.mk (Kd.R_after (v := (.slice (some ⟨go16, 0, none⟩) x8_1.length co21)) (v1 := (.slice (some ⟨go16, 0, none⟩) x8_1.length co21)) (ok := (fun _ => True)) (by (with_reducible repeat (first | apply Kd.R_alloc | apply Kd.R_drewN | apply Kd.R_drew)); exact HO_1.out) hg (.inl rfl)); have n2_ := Aside0.mk (hp_); have n3_ := Aside0.mk ((by rw [hw]; exact below_set (HB.out) GB16.out : Below w.heap.size w w25)); clear HO_0; clear HO_1; clear HO_8; clear HB; have HO_0 := n0_; have HO_1 := n1_; have HO_8 := n2_; have HB := n3_; clear n0_ n1_ n2_ n3_; clear hg hw hp_)); try go_wp2_with (first | ((with_reducible refine gate_store (t := 30) (p := 37) rfl ?_); (try (rw [drewN_self wr]; generalize hq_ : World.drewN wr _ = wr; have n0_ := Aside0.mk (Kd.S_at hq_ HO_0.out); have n1_ := Aside0.mk (Kd.R_at hq_ HO_1.out); have n2_ := Aside0.mk (Kd.R_at hq_ HO_8.out); have n3_ := Aside0.mk (below_at hq_ HB.out); clear hq_ HO_0 HO_1 HO_8 HB; have HO_0 := n0_; have HO_1 := n1_; have HO_8 := n2_; have HB := n3_; clear n0_ n1_ n2_ n3_; (try (have HP22 := Kd.R_putg HO_8.out (x9_1 : Int) (-1))))); refine store_event (t := 30) (p := 37) (v := ?vo_w23) (w1 := (wr.setCell ⟨go16, (x9_1 : Int).toNat, none⟩ (.int .i8 (-1)))) ?hg ?ho ?hn ?hr ?_; (case ho => rfl); (case hg => rfl); (case hn => rfl); (case hr => first | (go_simp; done) | (go_simp; rfl)); intro w23 hw; have hg : wr.grownBy w23 (some go16) := (by rw [hw]; exact HP22.2); have hp_ : Kd.R (Kd.int .i8) 30 w23 w.heap.size (fun k_ => some k_ ≠ (.slice Ao12 t271.length co12 : Value).ownBlock) (.slice (some ⟨go16, 0, none⟩) x8_1.length co21) y283 := (by rw [hw, Ny283.out]; exact HP22.1); clear HP22; have n0_ := Aside0.mk (Kd.S_over' (v := (.slice (some ⟨go16, 0, none⟩) x8_1.length co21)) (by (with_reducible repeat (first | apply Kd.S_alloc | apply Kd.S_drewN | apply Kd.S_drew)); exact HO_0.out) (Kd.R_typed HO_8.out) (by decide) hg); have n1_ := Aside0.mk (Kd.R_after (v := (.slice (some ⟨go16, 0, none⟩) x8_1.length co21)) (v1 := (.slice (some ⟨go16, 0, none⟩) x8_1.length co21)) (ok := (fun _ => True)) (by (with_reducible repeat (first | apply Kd.R_alloc | apply Kd.R_drewN | apply Kd.R_drew)); exact Kd.R_mono HO_1.out (fun _ hk => ⟨trivial, hk⟩)) hg (.inl rfl)); have n2_ := Aside0.mk (hp_); have n3_ := Aside0.mk ((by rw [hw]; exact below_set (HB.out) GB16.out : Below w.heap.size w w23)); clear HO_0; clear HO_1; clear HO_8; clear HB; have HO_0 := n0_; have HO_1 := n1_; have HO_8 := n2_; have HB := n3_; clear n0_ n1_ n2_ n3_; clear hg hw hp_; have p284 : 0 ≤ (x9_1 : Int) := of_decide_eq_true (by first | (with_reducible assumption) | assumption); have q284 : x9_1 < (l2.length : Int) := of_decide_eq_true (by first | (with_reducible assumption) | assumption); obtain ⟨ad284, e284, hx284_0⟩ := Kd.at_bool HR2.out x9_1 p284 q284; (try rw [← Nbq18.out] at hx284_0); cases e284; replace hx284_0 := (HB.out.cell (World.block_lt_of_cell? w _ hx284_0)).trans hx284_0; replace p284 := eq_true p284; replace q284 := eq_true q284; have p20 : 0 ≤ (x9_1 : Int) := of_decide_eq_true (by first | (with_reducible assumption) | assumption); have q20 : (x9_1 : Int) < ((x8_1.length : Int) : Int) := of_decide_eq_true (by first | (with_reducible assumption) | assumption); obtain ⟨hx20_0, hf20_0⟩ := Kd.R_celln 0 HO_8.out (x9_1 : Int) p20 q20; replace p20 := eq_true p20; replace q20 := eq_true q20; obtain ⟨hy24_, hz24_⟩ := Kd.R_celln 0 HO_8.out (x9_1 : Int) (of_decide_eq_true (by first | (with_reducible assumption) | assumption)) (of_decide_eq_true (by first | (with_reducible assumption) | assumption)); have HP24 := Kd.R_putg HO_8.out (x9_1 : Int) 1) | ((with_reducible refine gate_store (t := 30) (p := 50) rfl ?_); (try (rw [drewN_self w23]; generalize hq_ : World.drewN w23 _ = w23; have n0_ := Aside0.mk (Kd.S_at hq_ HO_0.out); have n1_ := Aside0.mk (Kd.R_at hq_ HO_1.out); have n2_ := Aside0.mk (Kd.R_at hq_ HO_8.out); have n3_ := Aside0.mk (below_at hq_ HB.out); clear hq_ HO_0 HO_1 HO_8 HB; have HO_0 := n0_; have HO_1 := n1_; have HO_8 := n2_; have HB := n3_; clear n0_ n1_ n2_ n3_; (try (obtain ⟨hy24_, hz24_⟩ := Kd.R_celln 0 HO_8.out (x9_1 : Int) (of_decide_eq_true (by first | (with_reducible assumption) | assumption)) (of_decide_eq_true (by first | (with_reducible assumption) | assumption)))); (try (have HP24 := Kd.R_putg HO_8.out (x9_1 : Int) 1)))); refine store_event (t := 30) (p := 50) (v := ?vo_w25) (w1 := (w23.setCell ⟨go16, (x9_1 : Int).toNat, none⟩ (.int .i8 1))) ?hg ?ho ?hn ?hr ?_; (case ho => rfl); (case hg => rfl); (case hn => rfl); (case hr => first | (go_simp; done) | (go_simp; rfl)); intro w25 hw; have hg : w23.grownBy w25 (some go16) := (by rw [hw]; exact HP24.2); have hp_ : Kd.R (Kd.int .i8) 30 w25 w.heap.size (fun k_ => some k_ ≠ (.slice Ao12 t271.length co12 : Value).ownBlock) (.slice (some ⟨go16, 0, none⟩) x8_1.length co21) y285 := (by rw [hw, Ny285.out]; exact HP24.1); clear HP24; have n0_ := Aside0.mk (Kd.S_over' (v := (.slice (some ⟨go16, 0, none⟩) x8_1.length co21)) (by (with_reducible repeat (first | apply Kd.S_alloc | apply Kd.S_drewN | apply Kd.S_drew)); exact HO_0.out) (Kd.R_typed HO_8.out) (by decide) hg); have n1_ := Aside0.mk (Kd.R_after (v := (.slice (some ⟨go16, 0, none⟩) x8_1.length co21)) (v1 := (.slice (some ⟨go16, 0, none⟩) x8_1.length co21)) (ok := (fun _ => True)) (by (with_reducible repeat (first | apply Kd.R_alloc | apply Kd.R_drewN | apply Kd.R_drew)); exact HO_1.out) hg (.inl rfl)); have n2_ := Aside0.mk (hp_); have n3_ := Aside0.mk ((by rw [hw]; exact below_set (HB.out) GB16.out : Below w.heap.size w w25)); clear HO_0; clear HO_1; clear HO_8; clear HB; have HO_0 := n0_; have HO_1 := n1_; have HO_8 := n2_; have HB := n3_; clear n0_ n1_ n2_ n3_; clear hg hw hp_)))
                  go_roundg k1
                  case measure => have := HK1.out; omega
                  case rel => exact ⟨(y285), (wrap64 (x9_1 + 1)), (by first | rfl | (simp; done) | (simp [*]; done)), H', ⟨by have := HK1.out; omega⟩, ⟨by (with_reducible repeat (first | apply Kd.S_alloc | apply Kd.S_drewN | apply Kd.S_drew)); exact HO_0.out⟩, ⟨by (with_reducible repeat (first | apply Kd.R_alloc | apply Kd.R_drewN | apply Kd.R_drew)); exact Kd.R_mono HO_1.out (fun _ hk => hk.2)⟩, ⟨by (with_reducible repeat (first | apply Kd.R_alloc | apply Kd.R_drewN | apply Kd.R_drew)); exact HO_8.out⟩, ⟨by repeat (first | (with_reducible first | exact HB.out | apply below_alloc | apply pw_below_drewN | apply below_drew1) | exact HB.out)⟩⟩
                · replace c19 := Bool.eq_false_iff.mpr c19
                  subst c19
                  have H1 : (ashlarlaw08_PropFollows.l0 k1 t270 t271 l2 t269 y283 (wrap64 (x9_1 + 1))) = some r := by rw [if_neg (show ¬ (false = true) by decide)] at H; exact H
                  clear H
                  have H := H1
                  clear H1
                  have H' := Aside0.mk H
                  clear H
                  obtain ⟨Ao26, co26, eo26⟩ := Kd.R_slice HO_8.out
                  subst eo26
                  have p282 : 0 ≤ (x9_1 : Int) := of_decide_eq_true (by first | (with_reducible assumption) | assumption)
                  have q282 : x9_1 < (x8_1.length : Int) := of_decide_eq_true (by first | (with_reducible assumption) | assumption)
                  obtain ⟨ad282, e282, hx282_0⟩ := Kd.at_int (Kd.R_reads' HO_8.out).2.2 x9_1 p282 q282
                  cases e282
                  replace p282 := eq_true p282
                  replace q282 := eq_true q282
                  have p16 : 0 ≤ (x9_1 : Int) := of_decide_eq_true (by first | (with_reducible assumption) | assumption)
                  have q16 : (x9_1 : Int) < ((x8_1.length : Int) : Int) := of_decide_eq_true (by first | (with_reducible assumption) | assumption)
                  obtain ⟨go16, co16, eo16, gb16, gl16, cl16, HG16⟩ := Kd.R_form HO_8.out (by omega)
                  (first | cases eo16 | (injection eo16 with ea_ en_ ec_; (first | subst ea_ | (injection ea_ with ea_; subst ea_)); subst ec_; clear en_))
                  have GB16 := Aside0.mk gb16
                  have GG16 := Aside0.mk HG16
                  clear gb16 gl16 HG16
                  (first | simp only [add_plain] at hx282_0 | skip)
                  obtain ⟨hx16_0, hf16_0⟩ := Kd.R_celln 0 HO_8.out (x9_1 : Int) p16 q16
                  replace p16 := eq_true p16
                  replace q16 := eq_true q16
                  have HP27 := Kd.R_putg HO_8.out (x9_1 : Int) (-1)
                  go_wp2_with (first | ((with_reducible refine gate_store (t := 30) (p := 37) rfl ?_); (try (rw [drewN_self wr]; generalize hq_ : World.drewN wr _ = wr; have n0_ := Aside0.mk (Kd.S_at hq_ HO_0.out); have n1_ := Aside0.mk (Kd.R_at hq_ HO_1.out); have n2_ := Aside0.mk (Kd.R_at hq_ HO_8.out); have n3_ := Aside0.mk (below_at hq_ HB.out); clear hq_ HO_0 HO_1 HO_8 HB; have HO_0 := n0_; have HO_1 := n1_; have HO_8 := n2_; have HB := n3_; clear n0_ n1_ n2_ n3_; (try (have HP27 := Kd.R_putg HO_8.out (x9_1 : Int) (-1))))); refine store_event (t := 30) (p := 37) (v := ?vo_w28) (w1 := (wr.setCell ⟨go16, (x9_1 : Int).toNat, none⟩ (.int .i8 (-1)))) ?hg ?ho ?hn ?hr ?_; (case ho => rfl); (case hg => rfl); (case hn => rfl); (case hr => first | (go_simp; done) | (go_simp; rfl)); intro w28 hw; have hg : wr.grownBy w28 (some go16) := (by rw [hw]; exact HP27.2); have hp_ : Kd.R (Kd.int .i8) 30 w28 w.heap.size (fun k_ => some k_ ≠ (.slice Ao12 t271.length co12 : Value).ownBlock) (.slice (some ⟨go16, 0, none⟩) x8_1.length co26) y283 := (by rw [hw, Ny283.out]; exact HP27.1); clear HP27; have n0_ := Aside0.mk (Kd.S_over' (v := (.slice (some ⟨go16, 0, none⟩) x8_1.length co26)) (by (with_reducible repeat (first | apply Kd.S_alloc | apply Kd.S_drewN | apply Kd.S_drew)); exact HO_0.out) (Kd.R_typed HO_8.out) (by decide) hg); have n1_ := Aside0.mk (Kd.R_after (v := (.slice (some ⟨go16, 0, none⟩) x8_1.length co26)) (v1 := (.slice (some ⟨go16, 0, none⟩) x8_1.length co26)) (ok := (fun _ => True)) (by (with_reducible repeat (first | apply Kd.R_alloc | apply Kd.R_drewN | apply Kd.R_drew)); exact Kd.R_mono HO_1.out (fun _ hk => ⟨trivial, hk⟩)) hg (.inl rfl)); have n2_ := Aside0.mk (hp_); have n3_ := Aside0.mk ((by rw [hw]; exact below_set (HB.out) GB16.out : Below w.heap.size w w28)); clear HO_0; clear HO_1; clear HO_8; clear HB; have HO_0 := n0_; have HO_1 := n1_; have HO_8 := n2_; have HB := n3_; clear n0_ n1_ n2_ n3_; clear hg hw hp_; have p284 : 0 ≤ (x9_1 : Int) := of_decide_eq_true (by first | (with_reducible assumption) | assumption); have q284 : x9_1 < (l2.length : Int) := of_decide_eq_true (by first | (with_reducible assumption) | assumption); obtain ⟨ad284, e284, hx284_0⟩ := Kd.at_bool HR2.out x9_1 p284 q284; (try rw [← Nbq18.out] at hx284_0); cases e284; replace hx284_0 := (HB.out.cell (World.block_lt_of_cell? w _ hx284_0)).trans hx284_0; replace p284 := eq_true p284; replace q284 := eq_true q284))
                  repeat (go_quiet (first | ((with_reducible refine gate_store (t := 30) (p := 37) rfl ?_); (try (rw [drewN_self wr]; generalize hq_ : World.drewN wr _ = wr; have n0_ := Aside0.mk (Kd.S_at hq_ HO_0.out); have n1_ := Aside0.mk (Kd.R_at hq_ HO_1.out); have n2_ := Aside0.mk (Kd.R_at hq_ HO_8.out); have n3_ := Aside0.mk (below_at hq_ HB.out); clear hq_ HO_0 HO_1 HO_8 HB; have HO_0 := n0_; have HO_1 := n1_; have HO_8 := n2_; have HB := n3_; clear n0_ n1_ n2_ n3_; (try (have HP27 := Kd.R_putg HO_8.out (x9_1 : Int) (-1))))); refine store_event (t := 30) (p := 37) (v := ?vo_w28) (w1 := (wr.setCell ⟨go16, (x9_1 : Int).toNat, none⟩ (.int .i8 (-1)))) ?hg ?ho ?hn ?hr ?_; (case ho => rfl); (case hg => rfl); (case hn => rfl); (case hr => first | (go_simp; done) | (go_simp; rfl)); intro w28 hw; have hg : wr.grownBy w28 (some go16) := (by rw [hw]; exact HP27.2); have hp_ : Kd.R (Kd.int .i8) 30 w28 w.heap.size (fun k_ => some k_ ≠ (.slice Ao12 t271.length co12 : Value).ownBlock) (.slice (some ⟨go16, 0, none⟩) x8_1.length co26) y283 := (by rw [hw, Ny283.out]; exact HP27.1); clear HP27; have n0_ := Aside0.mk (Kd.S_over' (v := (.slice (some ⟨go16, 0, none⟩) x8_1.length co26)) (by (with_reducible repeat (first | apply Kd.S_alloc | apply Kd.S_drewN | apply Kd.S_drew)); exact HO_0.out) (Kd.R_typed HO_8.out) (by decide) hg); have n1_ := Aside0.mk (Kd.R_after (v := (.slice (some ⟨go16, 0, none⟩) x8_1.length co26)) (v1 := (.slice (some ⟨go16, 0, none⟩) x8_1.length co26)) (ok := (fun _ => True)) (by (with_reducible repeat (first | apply Kd.R_alloc | apply Kd.R_drewN | apply Kd.R_drew)); exact Kd.R_mono HO_1.out (fun _ hk => ⟨trivial, hk⟩)) hg (.inl rfl)); have n2_ := Aside0.mk (hp_); have n3_ := Aside0.mk ((by rw [hw]; exact below_set (HB.out) GB16.out : Below w.heap.size w w28)); clear HO_0; clear HO_1; clear HO_8; clear HB; have HO_0 := n0_; have HO_1 := n1_; have HO_8 := n2_; have HB := n3_; clear n0_ n1_ n2_ n3_; clear hg hw hp_; have p284 : 0 ≤ (x9_1 : Int) := of_decide_eq_true (by first | (with_reducible assumption) | assumption); have q284 : x9_1 < (l2.length : Int) := of_decide_eq_true (by first | (with_reducible assumption) | assumption); obtain ⟨ad284, e284, hx284_0⟩ := Kd.at_bool HR2.out x9_1 p284 q284; (try rw [← Nbq18.out] at hx284_0); cases e284; replace hx284_0 := (HB.out.cell (World.block_lt_of_cell? w _ hx284_0)).trans hx284_0; replace p284 := eq_true p284; replace q284 := eq_true q284)); try go_wp2_with (first | ((with_reducible refine gate_store (t := 30) (p := 37) rfl ?_); (try (rw [drewN_self wr]; generalize hq_ : World.drewN wr _ = wr; have n0_ := Aside0.mk (Kd.S_at hq_ HO_0.out); have n1_ := Aside0.mk (Kd.R_at hq_ HO_1.out); have n2_ := Aside0.mk (Kd.R_at hq_ HO_8.out); have n3_ := Aside0.mk (below_at hq_ HB.out); clear hq_ HO_0 HO_1 HO_8 HB; have HO_0 := n0_; have HO_1 := n1_; have HO_8 := n2_; have HB := n3_; clear n0_ n1_ n2_ n3_; (try (have HP27 := Kd.R_putg HO_8.out (x9_1 : Int) (-1))))); refine store_event (t := 30) (p := 37) (v := ?vo_w28) (w1 := (wr.setCell ⟨go16, (x9_1 : Int).toNat, none⟩ (.int .i8 (-1)))) ?hg ?ho ?hn ?hr ?_; (case ho => rfl); (case hg => rfl); (case hn => rfl); (case hr => first | (go_simp; done) | (go_simp; rfl)); intro w28 hw; have hg : wr.grownBy w28 (some go16) := (by rw [hw]; exact HP27.2); have hp_ : Kd.R (Kd.int .i8) 30 w28 w.heap.size (fun k_ => some k_ ≠ (.slice Ao12 t271.length co12 : Value).ownBlock) (.slice (some ⟨go16, 0, none⟩) x8_1.length co26) y283 := (by rw [hw, Ny283.out]; exact HP27.1); clear HP27; have n0_ := Aside0.mk (Kd.S_over' (v := (.slice (some ⟨go16, 0, none⟩) x8_1.length co26)) (by (with_reducible repeat (first | apply Kd.S_alloc | apply Kd.S_drewN | apply Kd.S_drew)); exact HO_0.out) (Kd.R_typed HO_8.out) (by decide) hg); have n1_ := Aside0.mk (Kd.R_after (v := (.slice (some ⟨go16, 0, none⟩) x8_1.length co26)) (v1 := (.slice (some ⟨go16, 0, none⟩) x8_1.length co26)) (ok := (fun _ => True)) (by (with_reducible repeat (first | apply Kd.R_alloc | apply Kd.R_drewN | apply Kd.R_drew)); exact Kd.R_mono HO_1.out (fun _ hk => ⟨trivial, hk⟩)) hg (.inl rfl)); have n2_ := Aside0.mk (hp_); have n3_ := Aside0.mk ((by rw [hw]; exact below_set (HB.out) GB16.out : Below w.heap.size w w28)); clear HO_0; clear HO_1; clear HO_8; clear HB; have HO_0 := n0_; have HO_1 := n1_; have HO_8 := n2_; have HB := n3_; clear n0_ n1_ n2_ n3_; clear hg hw hp_; have p284 : 0 ≤ (x9_1 : Int) := of_decide_eq_true (by first | (with_reducible assumption) | assumption); have q284 : x9_1 < (l2.length : Int) := of_decide_eq_true (by first | (with_reducible assumption) | assumption); obtain ⟨ad284, e284, hx284_0⟩ := Kd.at_bool HR2.out x9_1 p284 q284; (try rw [← Nbq18.out] at hx284_0); cases e284; replace hx284_0 := (HB.out.cell (World.block_lt_of_cell? w _ hx284_0)).trans hx284_0; replace p284 := eq_true p284; replace q284 := eq_true q284)))
                  go_roundg k1
                  case measure => have := HK1.out; omega
                  case rel => exact ⟨(y283), (wrap64 (x9_1 + 1)), (by first | rfl | (simp; done) | (simp [*]; done)), H', ⟨by have := HK1.out; omega⟩, ⟨by (with_reducible repeat (first | apply Kd.S_alloc | apply Kd.S_drewN | apply Kd.S_drew)); exact HO_0.out⟩, ⟨by (with_reducible repeat (first | apply Kd.R_alloc | apply Kd.R_drewN | apply Kd.R_drew)); exact Kd.R_mono HO_1.out (fun _ hk => hk.2)⟩, ⟨by (with_reducible repeat (first | apply Kd.R_alloc | apply Kd.R_drewN | apply Kd.R_drew)); exact HO_8.out⟩, ⟨by repeat (first | (with_reducible first | exact HB.out | apply below_alloc | apply pw_below_drewN | apply below_drew1) | exact HB.out)⟩⟩
              · rw [if_neg c17] at H
                have c17b0 : decide (x9_1 < (l2.length : Int)) = false := decide_eq_false c17
                clear c17
                have H' := Aside0.mk H
                clear H
                obtain ⟨Ao29, co29, eo29⟩ := Kd.R_slice HO_8.out
                subst eo29
                have p282 : 0 ≤ (x9_1 : Int) := of_decide_eq_true (by first | (with_reducible assumption) | assumption)
                have q282 : x9_1 < (x8_1.length : Int) := of_decide_eq_true (by first | (with_reducible assumption) | assumption)
                obtain ⟨ad282, e282, hx282_0⟩ := Kd.at_int (Kd.R_reads' HO_8.out).2.2 x9_1 p282 q282
                cases e282
                replace p282 := eq_true p282
                replace q282 := eq_true q282
                have p16 : 0 ≤ (x9_1 : Int) := of_decide_eq_true (by first | (with_reducible assumption) | assumption)
                have q16 : (x9_1 : Int) < ((x8_1.length : Int) : Int) := of_decide_eq_true (by first | (with_reducible assumption) | assumption)
                obtain ⟨go16, co16, eo16, gb16, gl16, cl16, HG16⟩ := Kd.R_form HO_8.out (by omega)
                (first | cases eo16 | (injection eo16 with ea_ en_ ec_; (first | subst ea_ | (injection ea_ with ea_; subst ea_)); subst ec_; clear en_))
                have GB16 := Aside0.mk gb16
                have GG16 := Aside0.mk HG16
                clear gb16 gl16 HG16
                (first | simp only [add_plain] at hx282_0 | skip)
                obtain ⟨hx16_0, hf16_0⟩ := Kd.R_celln 0 HO_8.out (x9_1 : Int) p16 q16
                replace p16 := eq_true p16
                replace q16 := eq_true q16
                have HP30 := Kd.R_putg HO_8.out (x9_1 : Int) (-1)
                go_wp2_with (first | ((with_reducible refine gate_store (t := 30) (p := 37) rfl ?_); (try (rw [drewN_self wr]; generalize hq_ : World.drewN wr _ = wr; have n0_ := Aside0.mk (Kd.S_at hq_ HO_0.out); have n1_ := Aside0.mk (Kd.R_at hq_ HO_1.out); have n2_ := Aside0.mk (Kd.R_at hq_ HO_8.out); have n3_ := Aside0.mk (below_at hq_ HB.out); clear hq_ HO_0 HO_1 HO_8 HB; have HO_0 := n0_; have HO_1 := n1_; have HO_8 := n2_; have HB := n3_; clear n0_ n1_ n2_ n3_; (try (have HP30 := Kd.R_putg HO_8.out (x9_1 : Int) (-1))))); refine store_event (t := 30) (p := 37) (v := ?vo_w31) (w1 := (wr.setCell ⟨go16, (x9_1 : Int).toNat, none⟩ (.int .i8 (-1)))) ?hg ?ho ?hn ?hr ?_; (case ho => rfl); (case hg => rfl); (case hn => rfl); (case hr => first | (go_simp; done) | (go_simp; rfl)); intro w31 hw; have hg : wr.grownBy w31 (some go16) := (by rw [hw]; exact HP30.2); have hp_ : Kd.R (Kd.int .i8) 30 w31 w.heap.size (fun k_ => some k_ ≠ (.slice Ao12 t271.length co12 : Value).ownBlock) (.slice (some ⟨go16, 0, none⟩) x8_1.length co29) y283 := (by rw [hw, Ny283.out]; exact HP30.1); clear HP30; have n0_ := Aside0.mk (Kd.S_over' (v := (.slice (some ⟨go16, 0, none⟩) x8_1.length co29)) (by (with_reducible repeat (first | apply Kd.S_alloc | apply Kd.S_drewN | apply Kd.S_drew)); exact HO_0.out) (Kd.R_typed HO_8.out) (by decide) hg); have n1_ := Aside0.mk (Kd.R_after (v := (.slice (some ⟨go16, 0, none⟩) x8_1.length co29)) (v1 := (.slice (some ⟨go16, 0, none⟩) x8_1.length co29)) (ok := (fun _ => True)) (by (with_reducible repeat (first | apply Kd.R_alloc | apply Kd.R_drewN | apply Kd.R_drew)); exact Kd.R_mono HO_1.out (fun _ hk => ⟨trivial, hk⟩)) hg (.inl rfl)); have n2_ := Aside0.mk (hp_); have n3_ := Aside0.mk ((by rw [hw]; exact below_set (HB.out) GB16.out : Below w.heap.size w w31)); clear HO_0; clear HO_1; clear HO_8; clear HB; have HO_0 := n0_; have HO_1 := n1_; have HO_8 := n2_; have HB := n3_; clear n0_ n1_ n2_ n3_; clear hg hw hp_))
                repeat (go_quiet (first | ((with_reducible refine gate_store (t := 30) (p := 37) rfl ?_); (try (rw [drewN_self wr]; generalize hq_ : World.drewN wr _ = wr; have n0_ := Aside0.mk (Kd.S_at hq_ HO_0.out); have n1_ := Aside0.mk (Kd.R_at hq_ HO_1.out); have n2_ := Aside0.mk (Kd.R_at hq_ HO_8.out); have n3_ := Aside0.mk (below_at hq_ HB.out); clear hq_ HO_0 HO_1 HO_8 HB; have HO_0 := n0_; have HO_1 := n1_; have HO_8 := n2_; have HB := n3_; clear n0_ n1_ n2_ n3_; (try (have HP30 := Kd.R_putg HO_8.out (x9_1 : Int) (-1))))); refine store_event (t := 30) (p := 37) (v := ?vo_w31) (w1 := (wr.setCell ⟨go16, (x9_1 : Int).toNat, none⟩ (.int .i8 (-1)))) ?hg ?ho ?hn ?hr ?_; (case ho => rfl); (case hg => rfl); (case hn => rfl); (case hr => first | (go_simp; done) | (go_simp; rfl)); intro w31 hw; have hg : wr.grownBy w31 (some go16) := (by rw [hw]; exact HP30.2); have hp_ : Kd.R (Kd.int .i8) 30 w31 w.heap.size (fun k_ => some k_ ≠ (.slice Ao12 t271.length co12 : Value).ownBlock) (.slice (some ⟨go16, 0, none⟩) x8_1.length co29) y283 := (by rw [hw, Ny283.out]; exact HP30.1); clear HP30; have n0_ := Aside0.mk (Kd.S_over' (v := (.slice (some ⟨go16, 0, none⟩) x8_1.length co29)) (by (with_reducible repeat (first | apply Kd.S_alloc | apply Kd.S_drewN | apply Kd.S_drew)); exact HO_0.out) (Kd.R_typed HO_8.out) (by decide) hg); have n1_ := Aside0.mk (Kd.R_after (v := (.slice (some ⟨go16, 0, none⟩) x8_1.length co29)) (v1 := (.slice (some ⟨go16, 0, none⟩) x8_1.length co29)) (ok := (fun _ => True)) (by (with_reducible repeat (first | apply Kd.R_alloc | apply Kd.R_drewN | apply Kd.R_drew)); exact Kd.R_mono HO_1.out (fun _ hk => ⟨trivial, hk⟩)) hg (.inl rfl)); have n2_ := Aside0.mk (hp_); have n3_ := Aside0.mk ((by rw [hw]; exact below_set (HB.out) GB16.out : Below w.heap.size w w31)); clear HO_0; clear HO_1; clear HO_8; clear HB; have HO_0 := n0_; have HO_1 := n1_; have HO_8 := n2_; have HB := n3_; clear n0_ n1_ n2_ n3_; clear hg hw hp_)); try go_wp2_with (first | ((with_reducible refine gate_store (t := 30) (p := 37) rfl ?_); (try (rw [drewN_self wr]; generalize hq_ : World.drewN wr _ = wr; have n0_ := Aside0.mk (Kd.S_at hq_ HO_0.out); have n1_ := Aside0.mk (Kd.R_at hq_ HO_1.out); have n2_ := Aside0.mk (Kd.R_at hq_ HO_8.out); have n3_ := Aside0.mk (below_at hq_ HB.out); clear hq_ HO_0 HO_1 HO_8 HB; have HO_0 := n0_; have HO_1 := n1_; have HO_8 := n2_; have HB := n3_; clear n0_ n1_ n2_ n3_; (try (have HP30 := Kd.R_putg HO_8.out (x9_1 : Int) (-1))))); refine store_event (t := 30) (p := 37) (v := ?vo_w31) (w1 := (wr.setCell ⟨go16, (x9_1 : Int).toNat, none⟩ (.int .i8 (-1)))) ?hg ?ho ?hn ?hr ?_; (case ho => rfl); (case hg => rfl); (case hn => rfl); (case hr => first | (go_simp; done) | (go_simp; rfl)); intro w31 hw; have hg : wr.grownBy w31 (some go16) := (by rw [hw]; exact HP30.2); have hp_ : Kd.R (Kd.int .i8) 30 w31 w.heap.size (fun k_ => some k_ ≠ (.slice Ao12 t271.length co12 : Value).ownBlock) (.slice (some ⟨go16, 0, none⟩) x8_1.length co29) y283 := (by rw [hw, Ny283.out]; exact HP30.1); clear HP30; have n0_ := Aside0.mk (Kd.S_over' (v := (.slice (some ⟨go16, 0, none⟩) x8_1.length co29)) (by (with_reducible repeat (first | apply Kd.S_alloc | apply Kd.S_drewN | apply Kd.S_drew)); exact HO_0.out) (Kd.R_typed HO_8.out) (by decide) hg); have n1_ := Aside0.mk (Kd.R_after (v := (.slice (some ⟨go16, 0, none⟩) x8_1.length co29)) (v1 := (.slice (some ⟨go16, 0, none⟩) x8_1.length co29)) (ok := (fun _ => True)) (by (with_reducible repeat (first | apply Kd.R_alloc | apply Kd.R_drewN | apply Kd.R_drew)); exact Kd.R_mono HO_1.out (fun _ hk => ⟨trivial, hk⟩)) hg (.inl rfl)); have n2_ := Aside0.mk (hp_); have n3_ := Aside0.mk ((by rw [hw]; exact below_set (HB.out) GB16.out : Below w.heap.size w w31)); clear HO_0; clear HO_1; clear HO_8; clear HB; have HO_0 := n0_; have HO_1 := n1_; have HO_8 := n2_; have HB := n3_; clear n0_ n1_ n2_ n3_; clear hg hw hp_)))
                go_roundg k1
                case measure => have := HK1.out; omega
                case rel => exact ⟨(y283), (wrap64 (x9_1 + 1)), (by first | rfl | (simp; done) | (simp [*]; done)), H', ⟨by have := HK1.out; omega⟩, ⟨by (with_reducible repeat (first | apply Kd.S_alloc | apply Kd.S_drewN | apply Kd.S_drew)); exact HO_0.out⟩, ⟨by (with_reducible repeat (first | apply Kd.R_alloc | apply Kd.R_drewN | apply Kd.R_drew)); exact Kd.R_mono HO_1.out (fun _ hk => hk.2)⟩, ⟨by (with_reducible repeat (first | apply Kd.R_alloc | apply Kd.R_drewN | apply Kd.R_drew)); exact HO_8.out⟩, ⟨by repeat (first | (with_reducible first | exact HB.out | apply below_alloc | apply pw_below_drewN | apply below_drew1) | exact HB.out)⟩⟩
            · rw [if_neg c15] at H
              have c15b0 : ((rd x8_1 x9_1) == 0) = false := beq_eq_false_iff_ne.mpr c15
              have c15b1 : ((rd x8_1 x9_1) != 0) = true := bne_iff_ne.mpr c15
              have H' := Aside0.mk H
              clear H
              obtain ⟨Ao32, co32, eo32⟩ := Kd.R_slice HO_8.out
              subst eo32
              have p282 : 0 ≤ (x9_1 : Int) := of_decide_eq_true (by first | (with_reducible assumption) | assumption)
              have q282 : x9_1 < (x8_1.length : Int) := of_decide_eq_true (by first | (with_reducible assumption) | assumption)
              obtain ⟨ad282, e282, hx282_0⟩ := Kd.at_int (Kd.R_reads' HO_8.out).2.2 x9_1 p282 q282
              cases e282
              replace p282 := eq_true p282
              replace q282 := eq_true q282
              go_wp2
              repeat (go_quiet (fail); try go_wp2)
              go_roundg k1
              case measure => have := HK1.out; omega
              case rel => exact ⟨(x8_1), (wrap64 (x9_1 + 1)), (by first | rfl | (simp; done) | (simp [*]; done)), H', ⟨by have := HK1.out; omega⟩, ⟨by (with_reducible repeat (first | apply Kd.S_alloc | apply Kd.S_drewN | apply Kd.S_drew)); exact HO_0.out⟩, ⟨by (with_reducible repeat (first | apply Kd.R_alloc | apply Kd.R_drewN | apply Kd.R_drew)); exact HO_1.out⟩, ⟨by (with_reducible repeat (first | apply Kd.R_alloc | apply Kd.R_drewN | apply Kd.R_drew)); exact HO_8.out⟩, ⟨by repeat (first | (with_reducible first | exact HB.out | apply below_alloc | apply pw_below_drewN | apply below_drew1) | exact HB.out)⟩⟩
          · rw [if_neg c14] at H
            exact absurd H (by simp)
        · rw [if_neg c13] at H
          have c13b0 : decide (x9_1 < (x8_1.length : Int)) = false := decide_eq_false c13
          clear c13
          replace H := Option.bind_eq_some_iff.mp H
          obtain ⟨⟨t286, t287⟩, A330, H⟩ := H
          replace H : (if (t286.length : Int) = (t271.length : Int) then (if t287 = true then ((prop_Eval.f k1 t270 t286).bind fun t290 => (ashlarlaw08_PropFollows.j1 k1 t270 t271 t269 x8_1 t286 t287 (t290 != (-1)))) else (ashlarlaw08_PropFollows.j1 k1 t270 t271 t269 x8_1 t286 t287 false)) else (ashlarlaw08_PropFollows.j1 k1 t270 t271 t269 x8_1 t286 t287 true)) = some r := H
          have A33 := Aside0.mk A330
          clear A330
          have HC34 := Aside0.mk H
          clear H
          obtain ⟨Ao35, co35, eo35⟩ := Kd.R_slice HO_8.out
          subst eo35
          obtain ⟨Ao36, co36, eo36⟩ := Kd.S_slice HO_0.out
          subst eo36
          go_upto_region 12 with (first | (go_at_call 14; (with_reducible refine (prop_Unit.calls k1 _ _ t270 _ _ t271 t286 t287 _ ?side1 ?side2 ?side3 ?side4 A33.out).mono ?_); (case side1 => repeat (first | exact (Kd.S_reads' HO_0.out).2.2 | (with_reducible refine Kd.C_alloc ?_ _) | (with_reducible refine Kd.C_drewN ?_ _) | (with_reducible refine Kd.C_drew ?_))); (case side2 => exact (Kd.S_reads' HO_0.out).2.1); (case side3 => repeat (first | exact (Kd.R_reads' HO_1.out).2.2 | (with_reducible refine Kd.C_alloc ?_ _) | (with_reducible refine Kd.C_drewN ?_ _) | (with_reducible refine Kd.C_drew ?_))); (case side4 => exact (Kd.R_reads' HO_1.out).2.1); rintro e w37 ⟨v288, rfl, ho0, hb⟩; have n0_ := Aside0.mk (Kd.S_below (by (with_reducible repeat (first | apply Kd.S_alloc | apply Kd.S_drewN | apply Kd.S_drew)); exact HO_0.out) hb); have n1_ := Aside0.mk (Kd.R_elder' (by (with_reducible repeat (first | apply Kd.R_alloc | apply Kd.R_drewN | apply Kd.R_drew)); exact HO_1.out) (Kd.R_base ho0) hb); have n2_ := Aside0.mk (Kd.R_elder' (by (with_reducible repeat (first | apply Kd.R_alloc | apply Kd.R_drewN | apply Kd.R_drew)); exact HO_8.out) (Kd.R_base ho0) hb); have n3_ := Aside0.mk (Kd.R_lower (Kd.R_new' (Kd.R_new' ho0 (Kd.R_lt (by (with_reducible repeat (first | apply Kd.R_alloc | apply Kd.R_drewN | apply Kd.R_drew)); exact HO_1.out))) (Kd.R_lt (by (with_reducible repeat (first | apply Kd.R_alloc | apply Kd.R_drewN | apply Kd.R_drew)); exact HO_8.out))) (below_size (by repeat (first | (with_reducible first | exact HB.out | apply below_alloc | apply pw_below_drewN | apply below_drew1) | exact HB.out)))); have n4_ := Aside0.mk (below_step (by repeat (first | (with_reducible first | exact HB.out | apply below_alloc | apply pw_below_drewN | apply below_drew1) | exact HB.out)) hb); clear HO_0; clear HO_1; clear HO_8; clear HB; have HO_0 := n0_; have HO_1 := n1_; have HO_8 := n2_; have HO289 := n3_; have HB := n4_; clear n0_ n1_ n2_ n3_ n4_; (try clear hb); (try clear hb2); (try clear hk); (try clear hi); (try clear ho0)))
          repeat (go_quiet (first | (go_at_call 14; (with_reducible refine (prop_Unit.calls k1 _ _ t270 _ _ t271 t286 t287 _ ?side1 ?side2 ?side3 ?side4 A33.out).mono ?_); (case side1 => repeat (first | exact (Kd.S_reads' HO_0.out).2.2 | (with_reducible refine Kd.C_alloc ?_ _) | (with_reducible refine Kd.C_drewN ?_ _) | (with_reducible refine Kd.C_drew ?_))); (case side2 => exact (Kd.S_reads' HO_0.out).2.1); (case side3 => repeat (first | exact (Kd.R_reads' HO_1.out).2.2 | (with_reducible refine Kd.C_alloc ?_ _) | (with_reducible refine Kd.C_drewN ?_ _) | (with_reducible refine Kd.C_drew ?_))); (case side4 => exact (Kd.R_reads' HO_1.out).2.1); rintro e w37 ⟨v288, rfl, ho0, hb⟩; have n0_ := Aside0.mk (Kd.S_below (by (with_reducible repeat (first | apply Kd.S_alloc | apply Kd.S_drewN | apply Kd.S_drew)); exact HO_0.out) hb); have n1_ := Aside0.mk (Kd.R_elder' (by (with_reducible repeat (first | apply Kd.R_alloc | apply Kd.R_drewN | apply Kd.R_drew)); exact HO_1.out) (Kd.R_base ho0) hb); have n2_ := Aside0.mk (Kd.R_elder' (by (with_reducible repeat (first | apply Kd.R_alloc | apply Kd.R_drewN | apply Kd.R_drew)); exact HO_8.out) (Kd.R_base ho0) hb); have n3_ := Aside0.mk (Kd.R_lower (Kd.R_new' (Kd.R_new' ho0 (Kd.R_lt (by (with_reducible repeat (first | apply Kd.R_alloc | apply Kd.R_drewN | apply Kd.R_drew)); exact HO_1.out))) (Kd.R_lt (by (with_reducible repeat (first | apply Kd.R_alloc | apply Kd.R_drewN | apply Kd.R_drew)); exact HO_8.out))) (below_size (by repeat (first | (with_reducible first | exact HB.out | apply below_alloc | apply pw_below_drewN | apply below_drew1) | exact HB.out)))); have n4_ := Aside0.mk (below_step (by repeat (first | (with_reducible first | exact HB.out | apply below_alloc | apply pw_below_drewN | apply below_drew1) | exact HB.out)) hb); clear HO_0; clear HO_1; clear HO_8; clear HB; have HO_0 := n0_; have HO_1 := n1_; have HO_8 := n2_; have HO289 := n3_; have HB := n4_; clear n0_ n1_ n2_ n3_ n4_; (try clear hb); (try clear hb2); (try clear hk); (try clear hi); (try clear ho0))); go_upto_region 12 with (first | (go_at_call 14; (with_reducible refine (prop_Unit.calls k1 _ _ t270 _ _ t271 t286 t287 _ ?side1 ?side2 ?side3 ?side4 A33.out).mono ?_); (case side1 => repeat (first | exact (Kd.S_reads' HO_0.out).2.2 | (with_reducible refine Kd.C_alloc ?_ _) | (with_reducible refine Kd.C_drewN ?_ _) | (with_reducible refine Kd.C_drew ?_))); (case side2 => exact (Kd.S_reads' HO_0.out).2.1); (case side3 => repeat (first | exact (Kd.R_reads' HO_1.out).2.2 | (with_reducible refine Kd.C_alloc ?_ _) | (with_reducible refine Kd.C_drewN ?_ _) | (with_reducible refine Kd.C_drew ?_))); (case side4 => exact (Kd.R_reads' HO_1.out).2.1); rintro e w37 ⟨v288, rfl, ho0, hb⟩; have n0_ := Aside0.mk (Kd.S_below (by (with_reducible repeat (first | apply Kd.S_alloc | apply Kd.S_drewN | apply Kd.S_drew)); exact HO_0.out) hb); have n1_ := Aside0.mk (Kd.R_elder' (by (with_reducible repeat (first | apply Kd.R_alloc | apply Kd.R_drewN | apply Kd.R_drew)); exact HO_1.out) (Kd.R_base ho0) hb); have n2_ := Aside0.mk (Kd.R_elder' (by (with_reducible repeat (first | apply Kd.R_alloc | apply Kd.R_drewN | apply Kd.R_drew)); exact HO_8.out) (Kd.R_base ho0) hb); have n3_ := Aside0.mk (Kd.R_lower (Kd.R_new' (Kd.R_new' ho0 (Kd.R_lt (by (with_reducible repeat (first | apply Kd.R_alloc | apply Kd.R_drewN | apply Kd.R_drew)); exact HO_1.out))) (Kd.R_lt (by (with_reducible repeat (first | apply Kd.R_alloc | apply Kd.R_drewN | apply Kd.R_drew)); exact HO_8.out))) (below_size (by repeat (first | (with_reducible first | exact HB.out | apply below_alloc | apply pw_below_drewN | apply below_drew1) | exact HB.out)))); have n4_ := Aside0.mk (below_step (by repeat (first | (with_reducible first | exact HB.out | apply below_alloc | apply pw_below_drewN | apply below_drew1) | exact HB.out)) hb); clear HO_0; clear HO_1; clear HO_8; clear HB; have HO_0 := n0_; have HO_1 := n1_; have HO_8 := n2_; have HO289 := n3_; have HB := n4_; clear n0_ n1_ n2_ n3_ n4_; (try clear hb); (try clear hb2); (try clear hk); (try clear hi); (try clear ho0))))
          (try simp only [Act.put, List.setIfInBounds_toArray, List.set_cons_zero, List.set_cons_succ])
          go_cut [70] (fun v70 wc => ∃ (kq : Nat) (x70_33 : Bool), v70 = .bool x70_33 ∧ Aside0 (ashlarlaw08_PropFollows.j1 kq t270 t271 t269 x8_1 t286 t287 x70_33 = some r) ∧ Aside0 (kq ≤ k1) ∧ Aside0 (Kd.S (Kd.slice 3 (Kd.int .i64)) 35 wc w.heap.size (fun _ => True) (.slice Ao36 t270.length co36) t270) ∧ Aside0 (Kd.R (Kd.int .i8) 30 wc w.heap.size (fun k_ => some k_ ≠ ((.slice Ao35 x8_1.length co35) : Value).ownBlock ∧ some k_ ≠ (v288 : Value).ownBlock) (.slice Ao12 t271.length co12) t271) ∧ Aside0 (Kd.R (Kd.int .i8) 30 wc w.heap.size (fun k_ => some k_ ≠ ((.slice Ao12 t271.length co12) : Value).ownBlock ∧ some k_ ≠ (v288 : Value).ownBlock) (.slice Ao35 x8_1.length co35) x8_1) ∧ Aside0 (Kd.R (Kd.int .i8) 30 wc w.heap.size (fun k_ => some k_ ≠ ((.slice Ao12 t271.length co12) : Value).ownBlock ∧ some k_ ≠ ((.slice Ao35 x8_1.length co35) : Value).ownBlock) v288 t286) ∧ Aside0 (Below w.heap.size w wc))
          case first =>
            have H := HC34.out
            clear HC34
            by_cases c38 : (t286.length : Int) = (t271.length : Int)
            · rw [if_pos c38] at H
              have c38b0 : ((t286.length : Int) == (t271.length : Int)) = true := beq_iff_eq.mpr c38
              have c38b1 : ((t286.length : Int) != (t271.length : Int)) = false := bne_eq_false_iff_eq.mpr c38
              have c38b2 : (t286.length == t271.length) = true := by first | simpa using c38 | (simp at c38 ⊢; omega)
              clear c38
              (first | rw [c38b0] | (simp only [i64_w, i32_w]; rw [c38b0]) | skip)
              by_cases c39 : t287 = true
              · subst c39
                have H1 : ((prop_Eval.f k1 t270 t286).bind fun t290 => (ashlarlaw08_PropFollows.j1 k1 t270 t271 t269 x8_1 t286 true (t290 != (-1)))) = some r := by rw [if_pos rfl] at H; exact H
                clear H
                have H := H1
                clear H1
                replace H := Option.bind_eq_some_iff.mp H
                obtain ⟨t290, A400, H⟩ := H
                replace H : (ashlarlaw08_PropFollows.j1 k1 t270 t271 t269 x8_1 t286 true (t290 != (-1))) = some r := H
                have A40 := Aside0.mk A400
                clear A400
                have H' := Aside0.mk H
                clear H
                obtain ⟨Ao41, co41, eo41⟩ := Kd.R_slice HO289.out
                subst eo41
                go_wp2_with (first | (go_at_call 17; (with_reducible refine (prop_Eval.calls k1 _ _ t270 _ _ t286 t290 _ ?side1 ?side2 ?side3 ?side4 A40.out).mono ?_); (case side1 => repeat (first | exact (Kd.S_reads' HO_0.out).2.2 | (with_reducible refine Kd.C_alloc ?_ _) | (with_reducible refine Kd.C_drewN ?_ _) | (with_reducible refine Kd.C_drew ?_))); (case side2 => exact (Kd.S_reads' HO_0.out).2.1); (case side3 => repeat (first | exact (Kd.R_reads' HO289.out).2.2 | (with_reducible refine Kd.C_alloc ?_ _) | (with_reducible refine Kd.C_drewN ?_ _) | (with_reducible refine Kd.C_drew ?_))); (case side4 => exact (Kd.R_reads' HO289.out).2.1); rintro e w42 ⟨rfl, hb⟩; have n0_ := Aside0.mk (Kd.S_below (by (with_reducible repeat (first | apply Kd.S_alloc | apply Kd.S_drewN | apply Kd.S_drew)); exact HO_0.out) hb); have n1_ := Aside0.mk (Kd.R_below (by (with_reducible repeat (first | apply Kd.R_alloc | apply Kd.R_drewN | apply Kd.R_drew)); exact HO_1.out) hb); have n2_ := Aside0.mk (Kd.R_below (by (with_reducible repeat (first | apply Kd.R_alloc | apply Kd.R_drewN | apply Kd.R_drew)); exact HO_8.out) hb); have n3_ := Aside0.mk (Kd.R_below (by (with_reducible repeat (first | apply Kd.R_alloc | apply Kd.R_drewN | apply Kd.R_drew)); exact HO289.out) hb); have n4_ := Aside0.mk (below_step (by repeat (first | (with_reducible first | exact HB.out | apply below_alloc | apply pw_below_drewN | apply below_drew1) | exact HB.out)) hb); clear HO_0; clear HO_1; clear HO_8; clear HO289; clear HB; have HO_0 := n0_; have HO_1 := n1_; have HO_8 := n2_; have HO289 := n3_; have HB := n4_; clear n0_ n1_ n2_ n3_ n4_; (try clear hb); (try clear hb2); (try clear hk); (try clear hi)))
                repeat (go_quiet (first | (go_at_call 17; (with_reducible refine (prop_Eval.calls k1 _ _ t270 _ _ t286 t290 _ ?side1 ?side2 ?side3 ?side4 A40.out).mono ?_); (case side1 => repeat (first | exact (Kd.S_reads' HO_0.out).2.2 | (with_reducible refine Kd.C_alloc ?_ _) | (with_reducible refine Kd.C_drewN ?_ _) | (with_reducible refine Kd.C_drew ?_))); (case side2 => exact (Kd.S_reads' HO_0.out).2.1); (case side3 => repeat (first | exact (Kd.R_reads' HO289.out).2.2 | (with_reducible refine Kd.C_alloc ?_ _) | (with_reducible refine Kd.C_drewN ?_ _) | (with_reducible refine Kd.C_drew ?_))); (case side4 => exact (Kd.R_reads' HO289.out).2.1); rintro e w42 ⟨rfl, hb⟩; have n0_ := Aside0.mk (Kd.S_below (by (with_reducible repeat (first | apply Kd.S_alloc | apply Kd.S_drewN | apply Kd.S_drew)); exact HO_0.out) hb); have n1_ := Aside0.mk (Kd.R_below (by (with_reducible repeat (first | apply Kd.R_alloc | apply Kd.R_drewN | apply Kd.R_drew)); exact HO_1.out) hb); have n2_ := Aside0.mk (Kd.R_below (by (with_reducible repeat (first | apply Kd.R_alloc | apply Kd.R_drewN | apply Kd.R_drew)); exact HO_8.out) hb); have n3_ := Aside0.mk (Kd.R_below (by (with_reducible repeat (first | apply Kd.R_alloc | apply Kd.R_drewN | apply Kd.R_drew)); exact HO289.out) hb); have n4_ := Aside0.mk (below_step (by repeat (first | (with_reducible first | exact HB.out | apply below_alloc | apply pw_below_drewN | apply below_drew1) | exact HB.out)) hb); clear HO_0; clear HO_1; clear HO_8; clear HO289; clear HB; have HO_0 := n0_; have HO_1 := n1_; have HO_8 := n2_; have HO289 := n3_; have HB := n4_; clear n0_ n1_ n2_ n3_ n4_; (try clear hb); (try clear hb2); (try clear hk); (try clear hi))); try go_wp2_with (first | (go_at_call 17; (with_reducible refine (prop_Eval.calls k1 _ _ t270 _ _ t286 t290 _ ?side1 ?side2 ?side3 ?side4 A40.out).mono ?_); (case side1 => repeat (first | exact (Kd.S_reads' HO_0.out).2.2 | (with_reducible refine Kd.C_alloc ?_ _) | (with_reducible refine Kd.C_drewN ?_ _) | (with_reducible refine Kd.C_drew ?_))); (case side2 => exact (Kd.S_reads' HO_0.out).2.1); (case side3 => repeat (first | exact (Kd.R_reads' HO289.out).2.2 | (with_reducible refine Kd.C_alloc ?_ _) | (with_reducible refine Kd.C_drewN ?_ _) | (with_reducible refine Kd.C_drew ?_))); (case side4 => exact (Kd.R_reads' HO289.out).2.1); rintro e w42 ⟨rfl, hb⟩; have n0_ := Aside0.mk (Kd.S_below (by (with_reducible repeat (first | apply Kd.S_alloc | apply Kd.S_drewN | apply Kd.S_drew)); exact HO_0.out) hb); have n1_ := Aside0.mk (Kd.R_below (by (with_reducible repeat (first | apply Kd.R_alloc | apply Kd.R_drewN | apply Kd.R_drew)); exact HO_1.out) hb); have n2_ := Aside0.mk (Kd.R_below (by (with_reducible repeat (first | apply Kd.R_alloc | apply Kd.R_drewN | apply Kd.R_drew)); exact HO_8.out) hb); have n3_ := Aside0.mk (Kd.R_below (by (with_reducible repeat (first | apply Kd.R_alloc | apply Kd.R_drewN | apply Kd.R_drew)); exact HO289.out) hb); have n4_ := Aside0.mk (below_step (by repeat (first | (with_reducible first | exact HB.out | apply below_alloc | apply pw_below_drewN | apply below_drew1) | exact HB.out)) hb); clear HO_0; clear HO_1; clear HO_8; clear HO289; clear HB; have HO_0 := n0_; have HO_1 := n1_; have HO_8 := n2_; have HO289 := n3_; have HB := n4_; clear n0_ n1_ n2_ n3_ n4_; (try clear hb); (try clear hb2); (try clear hk); (try clear hi))))
                go_meet
                case rel => exact ⟨_, ((t290 != (-1))), (by first | rfl | (simp; done) | (simp [*]; done)), H', ⟨by have := HK1.out; first | omega | exact Nat.le_refl _⟩, ⟨by (with_reducible repeat (first | apply Kd.S_alloc | apply Kd.S_drewN | apply Kd.S_drew)); exact HO_0.out⟩, ⟨by (with_reducible repeat (first | apply Kd.R_alloc | apply Kd.R_drewN | apply Kd.R_drew)); exact HO_1.out⟩, ⟨by (with_reducible repeat (first | apply Kd.R_alloc | apply Kd.R_drewN | apply Kd.R_drew)); exact HO_8.out⟩, ⟨by (with_reducible repeat (first | apply Kd.R_alloc | apply Kd.R_drewN | apply Kd.R_drew)); exact Kd.R_mono HO289.out (fun _ hk => ⟨hk.1.2, hk.2⟩)⟩, ⟨by repeat (first | (with_reducible first | exact HB.out | apply below_alloc | apply pw_below_drewN | apply below_drew1) | exact HB.out)⟩⟩
              · replace c39 := Bool.eq_false_iff.mpr c39
                subst c39
                have H1 : (ashlarlaw08_PropFollows.j1 k1 t270 t271 t269 x8_1 t286 false false) = some r := by rw [if_neg (show ¬ (false = true) by decide)] at H; exact H
                clear H
                have H := H1
                clear H1
                have H' := Aside0.mk H
                clear H
                obtain ⟨Ao43, co43, eo43⟩ := Kd.R_slice HO289.out
                subst eo43
                go_wp2
                repeat (go_quiet (fail); try go_wp2)
                go_meet
                case rel => exact ⟨_, (false), (by first | rfl | (simp; done) | (simp [*]; done)), H', ⟨by have := HK1.out; first | omega | exact Nat.le_refl _⟩, ⟨by (with_reducible repeat (first | apply Kd.S_alloc | apply Kd.S_drewN | apply Kd.S_drew)); exact HO_0.out⟩, ⟨by (with_reducible repeat (first | apply Kd.R_alloc | apply Kd.R_drewN | apply Kd.R_drew)); exact HO_1.out⟩, ⟨by (with_reducible repeat (first | apply Kd.R_alloc | apply Kd.R_drewN | apply Kd.R_drew)); exact HO_8.out⟩, ⟨by (with_reducible repeat (first | apply Kd.R_alloc | apply Kd.R_drewN | apply Kd.R_drew)); exact Kd.R_mono HO289.out (fun _ hk => ⟨hk.1.2, hk.2⟩)⟩, ⟨by repeat (first | (with_reducible first | exact HB.out | apply below_alloc | apply pw_below_drewN | apply below_drew1) | exact HB.out)⟩⟩
            · rw [if_neg c38] at H
              have c38b0 : ((t286.length : Int) == (t271.length : Int)) = false := beq_eq_false_iff_ne.mpr c38
              have c38b1 : ((t286.length : Int) != (t271.length : Int)) = true := bne_iff_ne.mpr c38
              have c38b2 : (t286.length == t271.length) = false := by first | simpa using c38 | (simp at c38 ⊢; omega)
              (first | rw [c38b0] | (simp only [i64_w, i32_w]; rw [c38b0]) | skip)
              have H' := Aside0.mk H
              clear H
              obtain ⟨Ao44, co44, eo44⟩ := Kd.R_slice HO289.out
              subst eo44
              go_wp2
              repeat (go_quiet (fail); try go_wp2)
              go_meet
              case rel => exact ⟨_, (true), (by first | rfl | (simp; done) | (simp [*]; done)), H', ⟨by have := HK1.out; first | omega | exact Nat.le_refl _⟩, ⟨by (with_reducible repeat (first | apply Kd.S_alloc | apply Kd.S_drewN | apply Kd.S_drew)); exact HO_0.out⟩, ⟨by (with_reducible repeat (first | apply Kd.R_alloc | apply Kd.R_drewN | apply Kd.R_drew)); exact HO_1.out⟩, ⟨by (with_reducible repeat (first | apply Kd.R_alloc | apply Kd.R_drewN | apply Kd.R_drew)); exact HO_8.out⟩, ⟨by (with_reducible repeat (first | apply Kd.R_alloc | apply Kd.R_drewN | apply Kd.R_drew)); exact Kd.R_mono HO289.out (fun _ hk => ⟨hk.1.2, hk.2⟩)⟩, ⟨by repeat (first | (with_reducible first | exact HB.out | apply below_alloc | apply pw_below_drewN | apply below_drew1) | exact HB.out)⟩⟩
          case rest =>
            clear HC34
            try clear c1
            try clear p1
            try clear q1
            try clear hx1
            try clear c2
            try clear p2
            try clear q2
            try clear hx2
            try clear c3
            try clear c4
            try clear c6
            try clear p6
            try clear c13
            try clear c13b0
            try clear c14
            try clear c14b0
            try clear c15
            try clear c15b0
            try clear c15b1
            try clear p16
            try clear q16
            try clear hx16
            try clear hf16
            try clear c17
            try clear c17b0
            try clear q18
            try clear c19
            try clear p20
            try clear q20
            try clear hx20
            try clear hf20
            try clear p28
            try clear q28
            try clear hx28
            try clear c38
            try clear c38b0
            try clear c38b1
            try clear c38b2
            try clear c39
            try clear hx16_0
            try clear hx20_0
            try clear hx282_0
            try clear hx284_0
            try clear p16
            try clear p2
            try clear p20
            try clear p282
            try clear p284
            try clear q16
            try clear q20
            try clear q282
            try clear q284
            obtain ⟨kq, x70_33, rfl, HA, HJ33, HO_0, HO_1, HO_8, HO_10, HB⟩ := hcut
            cases kq with
            | zero => exact absurd HA.out (by simp [ashlarlaw08_PropFollows.j1])
            | succ kj33 =>
              have H := HA.out
              clear HA
              simp only [ashlarlaw08_PropFollows.j1] at H
              by_cases c45 : x70_33 = true
              · subst c45
                have H1 : (some false) = some r := by rw [if_pos rfl] at H; exact H
                clear H
                have H := H1
                clear H1
                obtain rfl := Option.some.inj H
                go_wp2
                repeat (go_quiet (fail); try go_wp2)
                go_ret
                exact ⟨by first | rfl | (simp [errW_none, errW_some] <;> rfl) | (simp [*, errW_none, errW_some] <;> rfl), by repeat (first | (with_reducible first | exact HB.out | apply below_alloc | apply pw_below_drewN | apply below_drew1) | exact HB.out)⟩
              · replace c45 := Bool.eq_false_iff.mpr c45
                subst c45
                have H1 : (ashlarlaw08_PropFollows.l1 kj33 t270 t271 t269 x8_1 t286 t287 0) = some r := by rw [if_neg (show ¬ (false = true) by decide)] at H; exact H
                clear H
                have H := H1
                clear H1
                have H' := Aside0.mk H
                clear H
                go_wp2
                repeat (go_quiet (fail); try go_wp2)
                go_loopg [12] kj33 (fun kq v12 w' => ∃ (x12_3 : Int), v12 = .int .i64 x12_3 ∧ Aside0 (ashlarlaw08_PropFollows.l1 kq t270 t271 t269 x8_1 t286 t287 x12_3 = some r) ∧ Aside0 (kq ≤ kj33) ∧ Aside0 (Kd.S (Kd.slice 3 (Kd.int .i64)) 35 w' w.heap.size (fun _ => True) (.slice Ao36 t270.length co36) t270) ∧ Aside0 (Kd.R (Kd.int .i8) 30 w' w.heap.size (fun k_ => some k_ ≠ ((.slice Ao35 x8_1.length co35) : Value).ownBlock ∧ some k_ ≠ (v288 : Value).ownBlock) (.slice Ao12 t271.length co12) t271) ∧ Aside0 (Kd.R (Kd.int .i8) 30 w' w.heap.size (fun k_ => some k_ ≠ ((.slice Ao12 t271.length co12) : Value).ownBlock ∧ some k_ ≠ (v288 : Value).ownBlock) (.slice Ao35 x8_1.length co35) x8_1) ∧ Aside0 (Kd.R (Kd.int .i8) 30 w' w.heap.size (fun k_ => some k_ ≠ ((.slice Ao12 t271.length co12) : Value).ownBlock ∧ some k_ ≠ ((.slice Ao35 x8_1.length co35) : Value).ownBlock) v288 t286) ∧ Aside0 (Below w.heap.size w w'))
                case atStart => exact ⟨(0), (by first | rfl | (simp; done) | (simp [*]; done)), H', ⟨Nat.le_refl _⟩, ⟨by (with_reducible repeat (first | apply Kd.S_alloc | apply Kd.S_drewN | apply Kd.S_drew)); exact HO_0.out⟩, ⟨by (with_reducible repeat (first | apply Kd.R_alloc | apply Kd.R_drewN | apply Kd.R_drew)); exact HO_1.out⟩, ⟨by (with_reducible repeat (first | apply Kd.R_alloc | apply Kd.R_drewN | apply Kd.R_drew)); exact HO_8.out⟩, ⟨by (with_reducible repeat (first | apply Kd.R_alloc | apply Kd.R_drewN | apply Kd.R_drew)); exact HO_10.out⟩, ⟨by repeat (first | (with_reducible first | exact HB.out | apply below_alloc | apply pw_below_drewN | apply below_drew1) | exact HB.out)⟩⟩
                case round =>
                  clear H'
                  try clear c1
                  try clear p1
                  try clear q1
                  try clear hx1
                  try clear c2
                  try clear p2
                  try clear q2
                  try clear hx2
                  try clear c3
                  try clear c4
                  try clear c6
                  try clear p6
                  try clear c13
                  try clear c13b0
                  try clear c14
                  try clear c14b0
                  try clear c15
                  try clear c15b0
                  try clear c15b1
                  try clear p16
                  try clear q16
                  try clear hx16
                  try clear hf16
                  try clear c17
                  try clear c17b0
                  try clear q18
                  try clear c19
                  try clear p20
                  try clear q20
                  try clear hx20
                  try clear hf20
                  try clear p28
                  try clear q28
                  try clear hx28
                  try clear c38
                  try clear c38b0
                  try clear c38b1
                  try clear c38b2
                  try clear c39
                  try clear c45
                  try clear hx16_0
                  try clear hx20_0
                  try clear hx282_0
                  try clear hx284_0
                  try clear p1
                  try clear p16
                  try clear p2
                  try clear p20
                  try clear p28
                  try clear p282
                  try clear p284
                  try clear p6
                  try clear q1
                  try clear q16
                  try clear q18
                  try clear q2
                  try clear q20
                  try clear q28
                  try clear q282
                  try clear q284
                  obtain ⟨x12_3, rfl, HA, HK3, HO_0, HO_1, HO_8, HO_10, HB⟩ := hrel
                  cases gk with
                  | zero => exact absurd HA.out (by simp [ashlarlaw08_PropFollows.l1])
                  | succ k3 =>
                    have H := HA.out
                    clear HA
                    simp only [ashlarlaw08_PropFollows.l1] at H
                    by_cases c46 : x12_3 < (t271.length : Int)
                    · rw [if_pos c46] at H
                      have c46b0 : decide (x12_3 < (t271.length : Int)) = true := decide_eq_true c46
                      clear c46
                      by_cases c47 : 0 ≤ x12_3
                      · rw [if_pos c47] at H
                        have c47b0 : decide (0 ≤ x12_3) = true := decide_eq_true c47
                        clear c47
                        by_cases c48 : (rd t271 x12_3) = 0
                        · rw [if_pos c48] at H
                          have c48b0 : ((rd t271 x12_3) == 0) = true := beq_iff_eq.mpr c48
                          have c48b1 : ((rd t271 x12_3) != 0) = false := bne_eq_false_iff_eq.mpr c48
                          clear c48
                          by_cases c49 : x12_3 < (t286.length : Int)
                          · rw [if_pos c49] at H
                            have c49b0 : decide (x12_3 < (t286.length : Int)) = true := decide_eq_true c49
                            clear c49
                            by_cases c50 : (rd t286 x12_3) < (-1)
                            · rw [if_pos c50] at H
                              have c50b0 : decide ((rd t286 x12_3) < (-1)) = true := decide_eq_true c50
                              clear c50
                              by_cases c51 : (rd t286 x12_3) = (rd t271 x12_3)
                              · rw [if_pos c51] at H
                                have c51b0 : ((rd t286 x12_3) == (rd t271 x12_3)) = true := beq_iff_eq.mpr c51
                                have c51b1 : ((rd t286 x12_3) != (rd t271 x12_3)) = false := bne_eq_false_iff_eq.mpr c51
                                clear c51
                                by_cases c52 : (rd t286 x12_3) > 1
                                · rw [if_pos c52] at H
                                  have c52b0 : decide (1 < (rd t286 x12_3)) = true := decide_eq_true c52
                                  clear c52
                                  have H' := Aside0.mk H
                                  clear H
                                  have p291 : 0 ≤ (x12_3 : Int) := of_decide_eq_true (by first | (with_reducible assumption) | assumption)
                                  have q291 : x12_3 < (t271.length : Int) := of_decide_eq_true (by first | (with_reducible assumption) | assumption)
                                  obtain ⟨ad291, e291, hx291_0⟩ := Kd.at_int (Kd.R_reads' HO_1.out).2.2 x12_3 p291 q291
                                  cases e291
                                  replace p291 := eq_true p291
                                  replace q291 := eq_true q291
                                  obtain ⟨Ao53, co53, eo53⟩ := Kd.R_slice HO_10.out
                                  subst eo53
                                  have p292 : 0 ≤ (x12_3 : Int) := of_decide_eq_true (by first | (with_reducible assumption) | assumption)
                                  have q292 : x12_3 < (t286.length : Int) := of_decide_eq_true (by first | (with_reducible assumption) | assumption)
                                  obtain ⟨ad292, e292, hx292_0⟩ := Kd.at_int (Kd.R_reads' HO_10.out).2.2 x12_3 p292 q292
                                  cases e292
                                  replace p292 := eq_true p292
                                  replace q292 := eq_true q292
                                  have p293 : 0 ≤ (x12_3 : Int) := of_decide_eq_true (by first | (with_reducible assumption) | assumption)
                                  have q293 : x12_3 < (t286.length : Int) := of_decide_eq_true (by first | (with_reducible assumption) | assumption)
                                  obtain ⟨ad293, e293, hx293_0⟩ := Kd.at_int (Kd.R_reads' HO_10.out).2.2 x12_3 p293 q293
                                  obtain rfl : ad292 = ad293 := (by injection e293)
                                  replace p293 := eq_true p293
                                  replace q293 := eq_true q293
                                  have p294 : 0 ≤ (x12_3 : Int) := of_decide_eq_true (by first | (with_reducible assumption) | assumption)
                                  have q294 : x12_3 < (t271.length : Int) := of_decide_eq_true (by first | (with_reducible assumption) | assumption)
                                  obtain ⟨ad294, e294, hx294_0⟩ := Kd.at_int (Kd.R_reads' HO_1.out).2.2 x12_3 p294 q294
                                  obtain rfl : ad291 = ad294 := (by injection e294)
                                  replace p294 := eq_true p294
                                  replace q294 := eq_true q294
                                  have p295 : 0 ≤ (x12_3 : Int) := of_decide_eq_true (by first | (with_reducible assumption) | assumption)
                                  have q295 : x12_3 < (t286.length : Int) := of_decide_eq_true (by first | (with_reducible assumption) | assumption)
                                  obtain ⟨ad295, e295, hx295_0⟩ := Kd.at_int (Kd.R_reads' HO_10.out).2.2 x12_3 p295 q295
                                  obtain rfl : ad292 = ad295 := (by injection e295)
                                  replace p295 := eq_true p295
                                  replace q295 := eq_true q295
                                  have p296 : 0 ≤ (x12_3 : Int) := of_decide_eq_true (by first | (with_reducible assumption) | assumption)
                                  have q296 : x12_3 < (t286.length : Int) := of_decide_eq_true (by first | (with_reducible assumption) | assumption)
                                  obtain ⟨ad296, e296, hx296_0⟩ := Kd.at_int (Kd.R_reads' HO_10.out).2.2 x12_3 p296 q296
                                  obtain rfl : ad292 = ad296 := (by injection e296)
                                  replace p296 := eq_true p296
                                  replace q296 := eq_true q296
                                  have p297 : 0 ≤ (x12_3 : Int) := of_decide_eq_true (by first | (with_reducible assumption) | assumption)
                                  have q297 : x12_3 < (t271.length : Int) := of_decide_eq_true (by first | (with_reducible assumption) | assumption)
                                  obtain ⟨ad297, e297, hx297_0⟩ := Kd.at_int (Kd.R_reads' HO_1.out).2.2 x12_3 p297 q297
                                  obtain rfl : ad291 = ad297 := (by injection e297)
                                  replace p297 := eq_true p297
                                  replace q297 := eq_true q297
                                  go_wp2
                                  repeat (go_quiet (fail); try go_wp2)
                                  go_roundg k3
                                  case measure => have := HK1.out; have := HJ33.out; have := HK3.out; omega
                                  case rel => exact ⟨(wrap64 (x12_3 + 1)), (by first | rfl | (simp; done) | (simp [*]; done)), H', ⟨by have := HK1.out; have := HJ33.out; have := HK3.out; omega⟩, ⟨by (with_reducible repeat (first | apply Kd.S_alloc | apply Kd.S_drewN | apply Kd.S_drew)); exact HO_0.out⟩, ⟨by (with_reducible repeat (first | apply Kd.R_alloc | apply Kd.R_drewN | apply Kd.R_drew)); exact HO_1.out⟩, ⟨by (with_reducible repeat (first | apply Kd.R_alloc | apply Kd.R_drewN | apply Kd.R_drew)); exact HO_8.out⟩, ⟨by (with_reducible repeat (first | apply Kd.R_alloc | apply Kd.R_drewN | apply Kd.R_drew)); exact HO_10.out⟩, ⟨by repeat (first | (with_reducible first | exact HB.out | apply below_alloc | apply pw_below_drewN | apply below_drew1) | exact HB.out)⟩⟩
                                · rw [if_neg c52] at H
                                  have c52b0 : decide (1 < (rd t286 x12_3)) = false := decide_eq_false c52
                                  clear c52
                                  have H' := Aside0.mk H
                                  clear H
                                  have p291 : 0 ≤ (x12_3 : Int) := of_decide_eq_true (by first | (with_reducible assumption) | assumption)
                                  have q291 : x12_3 < (t271.length : Int) := of_decide_eq_true (by first | (with_reducible assumption) | assumption)
                                  obtain ⟨ad291, e291, hx291_0⟩ := Kd.at_int (Kd.R_reads' HO_1.out).2.2 x12_3 p291 q291
                                  cases e291
                                  replace p291 := eq_true p291
                                  replace q291 := eq_true q291
                                  obtain ⟨Ao54, co54, eo54⟩ := Kd.R_slice HO_10.out
                                  subst eo54
                                  have p292 : 0 ≤ (x12_3 : Int) := of_decide_eq_true (by first | (with_reducible assumption) | assumption)
                                  have q292 : x12_3 < (t286.length : Int) := of_decide_eq_true (by first | (with_reducible assumption) | assumption)
                                  obtain ⟨ad292, e292, hx292_0⟩ := Kd.at_int (Kd.R_reads' HO_10.out).2.2 x12_3 p292 q292
                                  cases e292
                                  replace p292 := eq_true p292
                                  replace q292 := eq_true q292
                                  have p293 : 0 ≤ (x12_3 : Int) := of_decide_eq_true (by first | (with_reducible assumption) | assumption)
                                  have q293 : x12_3 < (t286.length : Int) := of_decide_eq_true (by first | (with_reducible assumption) | assumption)
                                  obtain ⟨ad293, e293, hx293_0⟩ := Kd.at_int (Kd.R_reads' HO_10.out).2.2 x12_3 p293 q293
                                  obtain rfl : ad292 = ad293 := (by injection e293)
                                  replace p293 := eq_true p293
                                  replace q293 := eq_true q293
                                  have p294 : 0 ≤ (x12_3 : Int) := of_decide_eq_true (by first | (with_reducible assumption) | assumption)
                                  have q294 : x12_3 < (t271.length : Int) := of_decide_eq_true (by first | (with_reducible assumption) | assumption)
                                  obtain ⟨ad294, e294, hx294_0⟩ := Kd.at_int (Kd.R_reads' HO_1.out).2.2 x12_3 p294 q294
                                  obtain rfl : ad291 = ad294 := (by injection e294)
                                  replace p294 := eq_true p294
                                  replace q294 := eq_true q294
                                  have p295 : 0 ≤ (x12_3 : Int) := of_decide_eq_true (by first | (with_reducible assumption) | assumption)
                                  have q295 : x12_3 < (t286.length : Int) := of_decide_eq_true (by first | (with_reducible assumption) | assumption)
                                  obtain ⟨ad295, e295, hx295_0⟩ := Kd.at_int (Kd.R_reads' HO_10.out).2.2 x12_3 p295 q295
                                  obtain rfl : ad292 = ad295 := (by injection e295)
                                  replace p295 := eq_true p295
                                  replace q295 := eq_true q295
                                  go_wp2
                                  repeat (go_quiet (fail); try go_wp2)
                                  go_roundg k3
                                  case measure => have := HK1.out; have := HJ33.out; have := HK3.out; omega
                                  case rel => exact ⟨(wrap64 (x12_3 + 1)), (by first | rfl | (simp; done) | (simp [*]; done)), H', ⟨by have := HK1.out; have := HJ33.out; have := HK3.out; omega⟩, ⟨by (with_reducible repeat (first | apply Kd.S_alloc | apply Kd.S_drewN | apply Kd.S_drew)); exact HO_0.out⟩, ⟨by (with_reducible repeat (first | apply Kd.R_alloc | apply Kd.R_drewN | apply Kd.R_drew)); exact HO_1.out⟩, ⟨by (with_reducible repeat (first | apply Kd.R_alloc | apply Kd.R_drewN | apply Kd.R_drew)); exact HO_8.out⟩, ⟨by (with_reducible repeat (first | apply Kd.R_alloc | apply Kd.R_drewN | apply Kd.R_drew)); exact HO_10.out⟩, ⟨by repeat (first | (with_reducible first | exact HB.out | apply below_alloc | apply pw_below_drewN | apply below_drew1) | exact HB.out)⟩⟩
                              · rw [if_neg c51] at H
                                have c51b0 : ((rd t286 x12_3) == (rd t271 x12_3)) = false := beq_eq_false_iff_ne.mpr c51
                                have c51b1 : ((rd t286 x12_3) != (rd t271 x12_3)) = true := bne_iff_ne.mpr c51
                                obtain rfl := Option.some.inj H
                                have p291 : 0 ≤ (x12_3 : Int) := of_decide_eq_true (by first | (with_reducible assumption) | assumption)
                                have q291 : x12_3 < (t271.length : Int) := of_decide_eq_true (by first | (with_reducible assumption) | assumption)
                                obtain ⟨ad291, e291, hx291_0⟩ := Kd.at_int (Kd.R_reads' HO_1.out).2.2 x12_3 p291 q291
                                cases e291
                                replace p291 := eq_true p291
                                replace q291 := eq_true q291
                                obtain ⟨Ao55, co55, eo55⟩ := Kd.R_slice HO_10.out
                                subst eo55
                                have p292 : 0 ≤ (x12_3 : Int) := of_decide_eq_true (by first | (with_reducible assumption) | assumption)
                                have q292 : x12_3 < (t286.length : Int) := of_decide_eq_true (by first | (with_reducible assumption) | assumption)
                                obtain ⟨ad292, e292, hx292_0⟩ := Kd.at_int (Kd.R_reads' HO_10.out).2.2 x12_3 p292 q292
                                cases e292
                                replace p292 := eq_true p292
                                replace q292 := eq_true q292
                                have p293 : 0 ≤ (x12_3 : Int) := of_decide_eq_true (by first | (with_reducible assumption) | assumption)
                                have q293 : x12_3 < (t286.length : Int) := of_decide_eq_true (by first | (with_reducible assumption) | assumption)
                                obtain ⟨ad293, e293, hx293_0⟩ := Kd.at_int (Kd.R_reads' HO_10.out).2.2 x12_3 p293 q293
                                obtain rfl : ad292 = ad293 := (by injection e293)
                                replace p293 := eq_true p293
                                replace q293 := eq_true q293
                                have p294 : 0 ≤ (x12_3 : Int) := of_decide_eq_true (by first | (with_reducible assumption) | assumption)
                                have q294 : x12_3 < (t271.length : Int) := of_decide_eq_true (by first | (with_reducible assumption) | assumption)
                                obtain ⟨ad294, e294, hx294_0⟩ := Kd.at_int (Kd.R_reads' HO_1.out).2.2 x12_3 p294 q294
                                obtain rfl : ad291 = ad294 := (by injection e294)
                                replace p294 := eq_true p294
                                replace q294 := eq_true q294
                                go_wp2
                                repeat (go_quiet (fail); try go_wp2)
                                go_ret
                                exact ⟨by first | rfl | (simp [errW_none, errW_some] <;> rfl) | (simp [*, errW_none, errW_some] <;> rfl), by repeat (first | (with_reducible first | exact HB.out | apply below_alloc | apply pw_below_drewN | apply below_drew1) | exact HB.out)⟩
                            · rw [if_neg c50] at H
                              have c50b0 : decide ((rd t286 x12_3) < (-1)) = false := decide_eq_false c50
                              clear c50
                              by_cases c56 : (rd t286 x12_3) > 1
                              · rw [if_pos c56] at H
                                have c56b0 : decide (1 < (rd t286 x12_3)) = true := decide_eq_true c56
                                clear c56
                                by_cases c57 : (rd t286 x12_3) = (rd t271 x12_3)
                                · rw [if_pos c57] at H
                                  have c57b0 : ((rd t286 x12_3) == (rd t271 x12_3)) = true := beq_iff_eq.mpr c57
                                  have c57b1 : ((rd t286 x12_3) != (rd t271 x12_3)) = false := bne_eq_false_iff_eq.mpr c57
                                  clear c57
                                  have H' := Aside0.mk H
                                  clear H
                                  have p291 : 0 ≤ (x12_3 : Int) := of_decide_eq_true (by first | (with_reducible assumption) | assumption)
                                  have q291 : x12_3 < (t271.length : Int) := of_decide_eq_true (by first | (with_reducible assumption) | assumption)
                                  obtain ⟨ad291, e291, hx291_0⟩ := Kd.at_int (Kd.R_reads' HO_1.out).2.2 x12_3 p291 q291
                                  cases e291
                                  replace p291 := eq_true p291
                                  replace q291 := eq_true q291
                                  obtain ⟨Ao58, co58, eo58⟩ := Kd.R_slice HO_10.out
                                  subst eo58
                                  have p292 : 0 ≤ (x12_3 : Int) := of_decide_eq_true (by first | (with_reducible assumption) | assumption)
                                  have q292 : x12_3 < (t286.length : Int) := of_decide_eq_true (by first | (with_reducible assumption) | assumption)
                                  obtain ⟨ad292, e292, hx292_0⟩ := Kd.at_int (Kd.R_reads' HO_10.out).2.2 x12_3 p292 q292
                                  cases e292
                                  replace p292 := eq_true p292
                                  replace q292 := eq_true q292
                                  have p298 : 0 ≤ (x12_3 : Int) := of_decide_eq_true (by first | (with_reducible assumption) | assumption)
                                  have q298 : x12_3 < (t286.length : Int) := of_decide_eq_true (by first | (with_reducible assumption) | assumption)
                                  obtain ⟨ad298, e298, hx298_0⟩ := Kd.at_int (Kd.R_reads' HO_10.out).2.2 x12_3 p298 q298
                                  obtain rfl : ad292 = ad298 := (by injection e298)
                                  replace p298 := eq_true p298
                                  replace q298 := eq_true q298
                                  have p299 : 0 ≤ (x12_3 : Int) := of_decide_eq_true (by first | (with_reducible assumption) | assumption)
                                  have q299 : x12_3 < (t286.length : Int) := of_decide_eq_true (by first | (with_reducible assumption) | assumption)
                                  obtain ⟨ad299, e299, hx299_0⟩ := Kd.at_int (Kd.R_reads' HO_10.out).2.2 x12_3 p299 q299
                                  obtain rfl : ad292 = ad299 := (by injection e299)
                                  replace p299 := eq_true p299
                                  replace q299 := eq_true q299
                                  have p300 : 0 ≤ (x12_3 : Int) := of_decide_eq_true (by first | (with_reducible assumption) | assumption)
                                  have q300 : x12_3 < (t271.length : Int) := of_decide_eq_true (by first | (with_reducible assumption) | assumption)
                                  obtain ⟨ad300, e300, hx300_0⟩ := Kd.at_int (Kd.R_reads' HO_1.out).2.2 x12_3 p300 q300
                                  obtain rfl : ad291 = ad300 := (by injection e300)
                                  replace p300 := eq_true p300
                                  replace q300 := eq_true q300
                                  go_wp2
                                  repeat (go_quiet (fail); try go_wp2)
                                  go_roundg k3
                                  case measure => have := HK1.out; have := HJ33.out; have := HK3.out; omega
                                  case rel => exact ⟨(wrap64 (x12_3 + 1)), (by first | rfl | (simp; done) | (simp [*]; done)), H', ⟨by have := HK1.out; have := HJ33.out; have := HK3.out; omega⟩, ⟨by (with_reducible repeat (first | apply Kd.S_alloc | apply Kd.S_drewN | apply Kd.S_drew)); exact HO_0.out⟩, ⟨by (with_reducible repeat (first | apply Kd.R_alloc | apply Kd.R_drewN | apply Kd.R_drew)); exact HO_1.out⟩, ⟨by (with_reducible repeat (first | apply Kd.R_alloc | apply Kd.R_drewN | apply Kd.R_drew)); exact HO_8.out⟩, ⟨by (with_reducible repeat (first | apply Kd.R_alloc | apply Kd.R_drewN | apply Kd.R_drew)); exact HO_10.out⟩, ⟨by repeat (first | (with_reducible first | exact HB.out | apply below_alloc | apply pw_below_drewN | apply below_drew1) | exact HB.out)⟩⟩
                                · rw [if_neg c57] at H
                                  have c57b0 : ((rd t286 x12_3) == (rd t271 x12_3)) = false := beq_eq_false_iff_ne.mpr c57
                                  have c57b1 : ((rd t286 x12_3) != (rd t271 x12_3)) = true := bne_iff_ne.mpr c57
                                  obtain rfl := Option.some.inj H
                                  have p291 : 0 ≤ (x12_3 : Int) := of_decide_eq_true (by first | (with_reducible assumption) | assumption)
                                  have q291 : x12_3 < (t271.length : Int) := of_decide_eq_true (by first | (with_reducible assumption) | assumption)
                                  obtain ⟨ad291, e291, hx291_0⟩ := Kd.at_int (Kd.R_reads' HO_1.out).2.2 x12_3 p291 q291
                                  cases e291
                                  replace p291 := eq_true p291
                                  replace q291 := eq_true q291
                                  obtain ⟨Ao59, co59, eo59⟩ := Kd.R_slice HO_10.out
                                  subst eo59
                                  have p292 : 0 ≤ (x12_3 : Int) := of_decide_eq_true (by first | (with_reducible assumption) | assumption)
                                  have q292 : x12_3 < (t286.length : Int) := of_decide_eq_true (by first | (with_reducible assumption) | assumption)
                                  obtain ⟨ad292, e292, hx292_0⟩ := Kd.at_int (Kd.R_reads' HO_10.out).2.2 x12_3 p292 q292
                                  cases e292
                                  replace p292 := eq_true p292
                                  replace q292 := eq_true q292
                                  have p298 : 0 ≤ (x12_3 : Int) := of_decide_eq_true (by first | (with_reducible assumption) | assumption)
                                  have q298 : x12_3 < (t286.length : Int) := of_decide_eq_true (by first | (with_reducible assumption) | assumption)
                                  obtain ⟨ad298, e298, hx298_0⟩ := Kd.at_int (Kd.R_reads' HO_10.out).2.2 x12_3 p298 q298
                                  obtain rfl : ad292 = ad298 := (by injection e298)
                                  replace p298 := eq_true p298
                                  replace q298 := eq_true q298
                                  have p299 : 0 ≤ (x12_3 : Int) := of_decide_eq_true (by first | (with_reducible assumption) | assumption)
                                  have q299 : x12_3 < (t286.length : Int) := of_decide_eq_true (by first | (with_reducible assumption) | assumption)
                                  obtain ⟨ad299, e299, hx299_0⟩ := Kd.at_int (Kd.R_reads' HO_10.out).2.2 x12_3 p299 q299
                                  obtain rfl : ad292 = ad299 := (by injection e299)
                                  replace p299 := eq_true p299
                                  replace q299 := eq_true q299
                                  have p300 : 0 ≤ (x12_3 : Int) := of_decide_eq_true (by first | (with_reducible assumption) | assumption)
                                  have q300 : x12_3 < (t271.length : Int) := of_decide_eq_true (by first | (with_reducible assumption) | assumption)
                                  obtain ⟨ad300, e300, hx300_0⟩ := Kd.at_int (Kd.R_reads' HO_1.out).2.2 x12_3 p300 q300
                                  obtain rfl : ad291 = ad300 := (by injection e300)
                                  replace p300 := eq_true p300
                                  replace q300 := eq_true q300
                                  go_wp2
                                  repeat (go_quiet (fail); try go_wp2)
                                  go_ret
                                  exact ⟨by first | rfl | (simp [errW_none, errW_some] <;> rfl) | (simp [*, errW_none, errW_some] <;> rfl), by repeat (first | (with_reducible first | exact HB.out | apply below_alloc | apply pw_below_drewN | apply below_drew1) | exact HB.out)⟩
                              · rw [if_neg c56] at H
                                have c56b0 : decide (1 < (rd t286 x12_3)) = false := decide_eq_false c56
                                clear c56
                                have H' := Aside0.mk H
                                clear H
                                have p291 : 0 ≤ (x12_3 : Int) := of_decide_eq_true (by first | (with_reducible assumption) | assumption)
                                have q291 : x12_3 < (t271.length : Int) := of_decide_eq_true (by first | (with_reducible assumption) | assumption)
                                obtain ⟨ad291, e291, hx291_0⟩ := Kd.at_int (Kd.R_reads' HO_1.out).2.2 x12_3 p291 q291
                                cases e291
                                replace p291 := eq_true p291
                                replace q291 := eq_true q291
                                obtain ⟨Ao60, co60, eo60⟩ := Kd.R_slice HO_10.out
                                subst eo60
                                have p292 : 0 ≤ (x12_3 : Int) := of_decide_eq_true (by first | (with_reducible assumption) | assumption)
                                have q292 : x12_3 < (t286.length : Int) := of_decide_eq_true (by first | (with_reducible assumption) | assumption)
                                obtain ⟨ad292, e292, hx292_0⟩ := Kd.at_int (Kd.R_reads' HO_10.out).2.2 x12_3 p292 q292
                                cases e292
                                replace p292 := eq_true p292
                                replace q292 := eq_true q292
                                have p298 : 0 ≤ (x12_3 : Int) := of_decide_eq_true (by first | (with_reducible assumption) | assumption)
                                have q298 : x12_3 < (t286.length : Int) := of_decide_eq_true (by first | (with_reducible assumption) | assumption)
                                obtain ⟨ad298, e298, hx298_0⟩ := Kd.at_int (Kd.R_reads' HO_10.out).2.2 x12_3 p298 q298
                                obtain rfl : ad292 = ad298 := (by injection e298)
                                replace p298 := eq_true p298
                                replace q298 := eq_true q298
                                go_wp2
                                repeat (go_quiet (fail); try go_wp2)
                                go_roundg k3
                                case measure => have := HK1.out; have := HJ33.out; have := HK3.out; omega
                                case rel => exact ⟨(wrap64 (x12_3 + 1)), (by first | rfl | (simp; done) | (simp [*]; done)), H', ⟨by have := HK1.out; have := HJ33.out; have := HK3.out; omega⟩, ⟨by (with_reducible repeat (first | apply Kd.S_alloc | apply Kd.S_drewN | apply Kd.S_drew)); exact HO_0.out⟩, ⟨by (with_reducible repeat (first | apply Kd.R_alloc | apply Kd.R_drewN | apply Kd.R_drew)); exact HO_1.out⟩, ⟨by (with_reducible repeat (first | apply Kd.R_alloc | apply Kd.R_drewN | apply Kd.R_drew)); exact HO_8.out⟩, ⟨by (with_reducible repeat (first | apply Kd.R_alloc | apply Kd.R_drewN | apply Kd.R_drew)); exact HO_10.out⟩, ⟨by repeat (first | (with_reducible first | exact HB.out | apply below_alloc | apply pw_below_drewN | apply below_drew1) | exact HB.out)⟩⟩
                          · rw [if_neg c49] at H
                            exact absurd H (by simp)
                        · rw [if_neg c48] at H
                          have c48b0 : ((rd t271 x12_3) == 0) = false := beq_eq_false_iff_ne.mpr c48
                          have c48b1 : ((rd t271 x12_3) != 0) = true := bne_iff_ne.mpr c48
                          by_cases c61 : x12_3 < (t286.length : Int)
                          · rw [if_pos c61] at H
                            have c61b0 : decide (x12_3 < (t286.length : Int)) = true := decide_eq_true c61
                            clear c61
                            by_cases c62 : (rd t286 x12_3) = (rd t271 x12_3)
                            · rw [if_pos c62] at H
                              have c62b0 : ((rd t286 x12_3) == (rd t271 x12_3)) = true := beq_iff_eq.mpr c62
                              have c62b1 : ((rd t286 x12_3) != (rd t271 x12_3)) = false := bne_eq_false_iff_eq.mpr c62
                              clear c62
                              by_cases c63 : (rd t286 x12_3) < (-1)
                              · rw [if_pos c63] at H
                                have c63b0 : decide ((rd t286 x12_3) < (-1)) = true := decide_eq_true c63
                                clear c63
                                by_cases c64 : (rd t286 x12_3) > 1
                                · rw [if_pos c64] at H
                                  have c64b0 : decide (1 < (rd t286 x12_3)) = true := decide_eq_true c64
                                  clear c64
                                  have H' := Aside0.mk H
                                  clear H
                                  have p291 : 0 ≤ (x12_3 : Int) := of_decide_eq_true (by first | (with_reducible assumption) | assumption)
                                  have q291 : x12_3 < (t271.length : Int) := of_decide_eq_true (by first | (with_reducible assumption) | assumption)
                                  obtain ⟨ad291, e291, hx291_0⟩ := Kd.at_int (Kd.R_reads' HO_1.out).2.2 x12_3 p291 q291
                                  cases e291
                                  replace p291 := eq_true p291
                                  replace q291 := eq_true q291
                                  obtain ⟨Ao65, co65, eo65⟩ := Kd.R_slice HO_10.out
                                  subst eo65
                                  have p301 : 0 ≤ (x12_3 : Int) := of_decide_eq_true (by first | (with_reducible assumption) | assumption)
                                  have q301 : x12_3 < (t286.length : Int) := of_decide_eq_true (by first | (with_reducible assumption) | assumption)
                                  obtain ⟨ad301, e301, hx301_0⟩ := Kd.at_int (Kd.R_reads' HO_10.out).2.2 x12_3 p301 q301
                                  cases e301
                                  replace p301 := eq_true p301
                                  replace q301 := eq_true q301
                                  have p302 : 0 ≤ (x12_3 : Int) := of_decide_eq_true (by first | (with_reducible assumption) | assumption)
                                  have q302 : x12_3 < (t271.length : Int) := of_decide_eq_true (by first | (with_reducible assumption) | assumption)
                                  obtain ⟨ad302, e302, hx302_0⟩ := Kd.at_int (Kd.R_reads' HO_1.out).2.2 x12_3 p302 q302
                                  obtain rfl : ad291 = ad302 := (by injection e302)
                                  replace p302 := eq_true p302
                                  replace q302 := eq_true q302
                                  have p303 : 0 ≤ (x12_3 : Int) := of_decide_eq_true (by first | (with_reducible assumption) | assumption)
                                  have q303 : x12_3 < (t286.length : Int) := of_decide_eq_true (by first | (with_reducible assumption) | assumption)
                                  obtain ⟨ad303, e303, hx303_0⟩ := Kd.at_int (Kd.R_reads' HO_10.out).2.2 x12_3 p303 q303
                                  obtain rfl : ad301 = ad303 := (by injection e303)
                                  replace p303 := eq_true p303
                                  replace q303 := eq_true q303
                                  have p304 : 0 ≤ (x12_3 : Int) := of_decide_eq_true (by first | (with_reducible assumption) | assumption)
                                  have q304 : x12_3 < (t286.length : Int) := of_decide_eq_true (by first | (with_reducible assumption) | assumption)
                                  obtain ⟨ad304, e304, hx304_0⟩ := Kd.at_int (Kd.R_reads' HO_10.out).2.2 x12_3 p304 q304
                                  obtain rfl : ad301 = ad304 := (by injection e304)
                                  replace p304 := eq_true p304
                                  replace q304 := eq_true q304
                                  have p305 : 0 ≤ (x12_3 : Int) := of_decide_eq_true (by first | (with_reducible assumption) | assumption)
                                  have q305 : x12_3 < (t271.length : Int) := of_decide_eq_true (by first | (with_reducible assumption) | assumption)
                                  obtain ⟨ad305, e305, hx305_0⟩ := Kd.at_int (Kd.R_reads' HO_1.out).2.2 x12_3 p305 q305
                                  obtain rfl : ad291 = ad305 := (by injection e305)
                                  replace p305 := eq_true p305
                                  replace q305 := eq_true q305
                                  have p306 : 0 ≤ (x12_3 : Int) := of_decide_eq_true (by first | (with_reducible assumption) | assumption)
                                  have q306 : x12_3 < (t286.length : Int) := of_decide_eq_true (by first | (with_reducible assumption) | assumption)
                                  obtain ⟨ad306, e306, hx306_0⟩ := Kd.at_int (Kd.R_reads' HO_10.out).2.2 x12_3 p306 q306
                                  obtain rfl : ad301 = ad306 := (by injection e306)
                                  replace p306 := eq_true p306
                                  replace q306 := eq_true q306
                                  have p307 : 0 ≤ (x12_3 : Int) := of_decide_eq_true (by first | (with_reducible assumption) | assumption)
                                  have q307 : x12_3 < (t286.length : Int) := of_decide_eq_true (by first | (with_reducible assumption) | assumption)
                                  obtain ⟨ad307, e307, hx307_0⟩ := Kd.at_int (Kd.R_reads' HO_10.out).2.2 x12_3 p307 q307
                                  obtain rfl : ad301 = ad307 := (by injection e307)
                                  replace p307 := eq_true p307
                                  replace q307 := eq_true q307
                                  have p308 : 0 ≤ (x12_3 : Int) := of_decide_eq_true (by first | (with_reducible assumption) | assumption)
                                  have q308 : x12_3 < (t271.length : Int) := of_decide_eq_true (by first | (with_reducible assumption) | assumption)
                                  obtain ⟨ad308, e308, hx308_0⟩ := Kd.at_int (Kd.R_reads' HO_1.out).2.2 x12_3 p308 q308
                                  obtain rfl : ad291 = ad308 := (by injection e308)
                                  replace p308 := eq_true p308
                                  replace q308 := eq_true q308
                                  go_wp2
                                  repeat (go_quiet (fail); try go_wp2)
                                  go_roundg k3
                                  case measure => have := HK1.out; have := HJ33.out; have := HK3.out; omega
                                  case rel => exact ⟨(wrap64 (x12_3 + 1)), (by first | rfl | (simp; done) | (simp [*]; done)), H', ⟨by have := HK1.out; have := HJ33.out; have := HK3.out; omega⟩, ⟨by (with_reducible repeat (first | apply Kd.S_alloc | apply Kd.S_drewN | apply Kd.S_drew)); exact HO_0.out⟩, ⟨by (with_reducible repeat (first | apply Kd.R_alloc | apply Kd.R_drewN | apply Kd.R_drew)); exact HO_1.out⟩, ⟨by (with_reducible repeat (first | apply Kd.R_alloc | apply Kd.R_drewN | apply Kd.R_drew)); exact HO_8.out⟩, ⟨by (with_reducible repeat (first | apply Kd.R_alloc | apply Kd.R_drewN | apply Kd.R_drew)); exact HO_10.out⟩, ⟨by repeat (first | (with_reducible first | exact HB.out | apply below_alloc | apply pw_below_drewN | apply below_drew1) | exact HB.out)⟩⟩
                                · rw [if_neg c64] at H
                                  have c64b0 : decide (1 < (rd t286 x12_3)) = false := decide_eq_false c64
                                  clear c64
                                  have H' := Aside0.mk H
                                  clear H
                                  have p291 : 0 ≤ (x12_3 : Int) := of_decide_eq_true (by first | (with_reducible assumption) | assumption)
                                  have q291 : x12_3 < (t271.length : Int) := of_decide_eq_true (by first | (with_reducible assumption) | assumption)
                                  obtain ⟨ad291, e291, hx291_0⟩ := Kd.at_int (Kd.R_reads' HO_1.out).2.2 x12_3 p291 q291
                                  cases e291
                                  replace p291 := eq_true p291
                                  replace q291 := eq_true q291
                                  obtain ⟨Ao66, co66, eo66⟩ := Kd.R_slice HO_10.out
                                  subst eo66
                                  have p301 : 0 ≤ (x12_3 : Int) := of_decide_eq_true (by first | (with_reducible assumption) | assumption)
                                  have q301 : x12_3 < (t286.length : Int) := of_decide_eq_true (by first | (with_reducible assumption) | assumption)
                                  obtain ⟨ad301, e301, hx301_0⟩ := Kd.at_int (Kd.R_reads' HO_10.out).2.2 x12_3 p301 q301
                                  cases e301
                                  replace p301 := eq_true p301
                                  replace q301 := eq_true q301
                                  have p302 : 0 ≤ (x12_3 : Int) := of_decide_eq_true (by first | (with_reducible assumption) | assumption)
                                  have q302 : x12_3 < (t271.length : Int) := of_decide_eq_true (by first | (with_reducible assumption) | assumption)
                                  obtain ⟨ad302, e302, hx302_0⟩ := Kd.at_int (Kd.R_reads' HO_1.out).2.2 x12_3 p302 q302
                                  obtain rfl : ad291 = ad302 := (by injection e302)
                                  replace p302 := eq_true p302
                                  replace q302 := eq_true q302
                                  have p303 : 0 ≤ (x12_3 : Int) := of_decide_eq_true (by first | (with_reducible assumption) | assumption)
                                  have q303 : x12_3 < (t286.length : Int) := of_decide_eq_true (by first | (with_reducible assumption) | assumption)
                                  obtain ⟨ad303, e303, hx303_0⟩ := Kd.at_int (Kd.R_reads' HO_10.out).2.2 x12_3 p303 q303
                                  obtain rfl : ad301 = ad303 := (by injection e303)
                                  replace p303 := eq_true p303
                                  replace q303 := eq_true q303
                                  have p304 : 0 ≤ (x12_3 : Int) := of_decide_eq_true (by first | (with_reducible assumption) | assumption)
                                  have q304 : x12_3 < (t286.length : Int) := of_decide_eq_true (by first | (with_reducible assumption) | assumption)
                                  obtain ⟨ad304, e304, hx304_0⟩ := Kd.at_int (Kd.R_reads' HO_10.out).2.2 x12_3 p304 q304
                                  obtain rfl : ad301 = ad304 := (by injection e304)
                                  replace p304 := eq_true p304
                                  replace q304 := eq_true q304
                                  have p305 : 0 ≤ (x12_3 : Int) := of_decide_eq_true (by first | (with_reducible assumption) | assumption)
                                  have q305 : x12_3 < (t271.length : Int) := of_decide_eq_true (by first | (with_reducible assumption) | assumption)
                                  obtain ⟨ad305, e305, hx305_0⟩ := Kd.at_int (Kd.R_reads' HO_1.out).2.2 x12_3 p305 q305
                                  obtain rfl : ad291 = ad305 := (by injection e305)
                                  replace p305 := eq_true p305
                                  replace q305 := eq_true q305
                                  have p306 : 0 ≤ (x12_3 : Int) := of_decide_eq_true (by first | (with_reducible assumption) | assumption)
                                  have q306 : x12_3 < (t286.length : Int) := of_decide_eq_true (by first | (with_reducible assumption) | assumption)
                                  obtain ⟨ad306, e306, hx306_0⟩ := Kd.at_int (Kd.R_reads' HO_10.out).2.2 x12_3 p306 q306
                                  obtain rfl : ad301 = ad306 := (by injection e306)
                                  replace p306 := eq_true p306
                                  replace q306 := eq_true q306
                                  go_wp2
                                  repeat (go_quiet (fail); try go_wp2)
                                  go_roundg k3
                                  case measure => have := HK1.out; have := HJ33.out; have := HK3.out; omega
                                  case rel => exact ⟨(wrap64 (x12_3 + 1)), (by first | rfl | (simp; done) | (simp [*]; done)), H', ⟨by have := HK1.out; have := HJ33.out; have := HK3.out; omega⟩, ⟨by (with_reducible repeat (first | apply Kd.S_alloc | apply Kd.S_drewN | apply Kd.S_drew)); exact HO_0.out⟩, ⟨by (with_reducible repeat (first | apply Kd.R_alloc | apply Kd.R_drewN | apply Kd.R_drew)); exact HO_1.out⟩, ⟨by (with_reducible repeat (first | apply Kd.R_alloc | apply Kd.R_drewN | apply Kd.R_drew)); exact HO_8.out⟩, ⟨by (with_reducible repeat (first | apply Kd.R_alloc | apply Kd.R_drewN | apply Kd.R_drew)); exact HO_10.out⟩, ⟨by repeat (first | (with_reducible first | exact HB.out | apply below_alloc | apply pw_below_drewN | apply below_drew1) | exact HB.out)⟩⟩
                              · rw [if_neg c63] at H
                                have c63b0 : decide ((rd t286 x12_3) < (-1)) = false := decide_eq_false c63
                                clear c63
                                by_cases c67 : (rd t286 x12_3) > 1
                                · rw [if_pos c67] at H
                                  have c67b0 : decide (1 < (rd t286 x12_3)) = true := decide_eq_true c67
                                  clear c67
                                  have H' := Aside0.mk H
                                  clear H
                                  have p291 : 0 ≤ (x12_3 : Int) := of_decide_eq_true (by first | (with_reducible assumption) | assumption)
                                  have q291 : x12_3 < (t271.length : Int) := of_decide_eq_true (by first | (with_reducible assumption) | assumption)
                                  obtain ⟨ad291, e291, hx291_0⟩ := Kd.at_int (Kd.R_reads' HO_1.out).2.2 x12_3 p291 q291
                                  cases e291
                                  replace p291 := eq_true p291
                                  replace q291 := eq_true q291
                                  obtain ⟨Ao68, co68, eo68⟩ := Kd.R_slice HO_10.out
                                  subst eo68
                                  have p301 : 0 ≤ (x12_3 : Int) := of_decide_eq_true (by first | (with_reducible assumption) | assumption)
                                  have q301 : x12_3 < (t286.length : Int) := of_decide_eq_true (by first | (with_reducible assumption) | assumption)
                                  obtain ⟨ad301, e301, hx301_0⟩ := Kd.at_int (Kd.R_reads' HO_10.out).2.2 x12_3 p301 q301
                                  cases e301
                                  replace p301 := eq_true p301
                                  replace q301 := eq_true q301
                                  have p302 : 0 ≤ (x12_3 : Int) := of_decide_eq_true (by first | (with_reducible assumption) | assumption)
                                  have q302 : x12_3 < (t271.length : Int) := of_decide_eq_true (by first | (with_reducible assumption) | assumption)
                                  obtain ⟨ad302, e302, hx302_0⟩ := Kd.at_int (Kd.R_reads' HO_1.out).2.2 x12_3 p302 q302
                                  obtain rfl : ad291 = ad302 := (by injection e302)
                                  replace p302 := eq_true p302
                                  replace q302 := eq_true q302
                                  have p303 : 0 ≤ (x12_3 : Int) := of_decide_eq_true (by first | (with_reducible assumption) | assumption)
                                  have q303 : x12_3 < (t286.length : Int) := of_decide_eq_true (by first | (with_reducible assumption) | assumption)
                                  obtain ⟨ad303, e303, hx303_0⟩ := Kd.at_int (Kd.R_reads' HO_10.out).2.2 x12_3 p303 q303
                                  obtain rfl : ad301 = ad303 := (by injection e303)
                                  replace p303 := eq_true p303
                                  replace q303 := eq_true q303
                                  have p309 : 0 ≤ (x12_3 : Int) := of_decide_eq_true (by first | (with_reducible assumption) | assumption)
                                  have q309 : x12_3 < (t286.length : Int) := of_decide_eq_true (by first | (with_reducible assumption) | assumption)
                                  obtain ⟨ad309, e309, hx309_0⟩ := Kd.at_int (Kd.R_reads' HO_10.out).2.2 x12_3 p309 q309
                                  obtain rfl : ad301 = ad309 := (by injection e309)
                                  replace p309 := eq_true p309
                                  replace q309 := eq_true q309
                                  have p310 : 0 ≤ (x12_3 : Int) := of_decide_eq_true (by first | (with_reducible assumption) | assumption)
                                  have q310 : x12_3 < (t286.length : Int) := of_decide_eq_true (by first | (with_reducible assumption) | assumption)
                                  obtain ⟨ad310, e310, hx310_0⟩ := Kd.at_int (Kd.R_reads' HO_10.out).2.2 x12_3 p310 q310
                                  obtain rfl : ad301 = ad310 := (by injection e310)
                                  replace p310 := eq_true p310
                                  replace q310 := eq_true q310
                                  have p311 : 0 ≤ (x12_3 : Int) := of_decide_eq_true (by first | (with_reducible assumption) | assumption)
                                  have q311 : x12_3 < (t271.length : Int) := of_decide_eq_true (by first | (with_reducible assumption) | assumption)
                                  obtain ⟨ad311, e311, hx311_0⟩ := Kd.at_int (Kd.R_reads' HO_1.out).2.2 x12_3 p311 q311
                                  obtain rfl : ad291 = ad311 := (by injection e311)
                                  replace p311 := eq_true p311
                                  replace q311 := eq_true q311
                                  go_wp2
                                  repeat (go_quiet (fail); try go_wp2)
                                  go_roundg k3
                                  case measure => have := HK1.out; have := HJ33.out; have := HK3.out; omega
                                  case rel => exact ⟨(wrap64 (x12_3 + 1)), (by first | rfl | (simp; done) | (simp [*]; done)), H', ⟨by have := HK1.out; have := HJ33.out; have := HK3.out; omega⟩, ⟨by (with_reducible repeat (first | apply Kd.S_alloc | apply Kd.S_drewN | apply Kd.S_drew)); exact HO_0.out⟩, ⟨by (with_reducible repeat (first | apply Kd.R_alloc | apply Kd.R_drewN | apply Kd.R_drew)); exact HO_1.out⟩, ⟨by (with_reducible repeat (first | apply Kd.R_alloc | apply Kd.R_drewN | apply Kd.R_drew)); exact HO_8.out⟩, ⟨by (with_reducible repeat (first | apply Kd.R_alloc | apply Kd.R_drewN | apply Kd.R_drew)); exact HO_10.out⟩, ⟨by repeat (first | (with_reducible first | exact HB.out | apply below_alloc | apply pw_below_drewN | apply below_drew1) | exact HB.out)⟩⟩
                                · rw [if_neg c67] at H
                                  have c67b0 : decide (1 < (rd t286 x12_3)) = false := decide_eq_false c67
                                  clear c67
                                  have H' := Aside0.mk H
                                  clear H
                                  have p291 : 0 ≤ (x12_3 : Int) := of_decide_eq_true (by first | (with_reducible assumption) | assumption)
                                  have q291 : x12_3 < (t271.length : Int) := of_decide_eq_true (by first | (with_reducible assumption) | assumption)
                                  obtain ⟨ad291, e291, hx291_0⟩ := Kd.at_int (Kd.R_reads' HO_1.out).2.2 x12_3 p291 q291
                                  cases e291
                                  replace p291 := eq_true p291
                                  replace q291 := eq_true q291
                                  obtain ⟨Ao69, co69, eo69⟩ := Kd.R_slice HO_10.out
                                  subst eo69
                                  have p301 : 0 ≤ (x12_3 : Int) := of_decide_eq_true (by first | (with_reducible assumption) | assumption)
                                  have q301 : x12_3 < (t286.length : Int) := of_decide_eq_true (by first | (with_reducible assumption) | assumption)
                                  obtain ⟨ad301, e301, hx301_0⟩ := Kd.at_int (Kd.R_reads' HO_10.out).2.2 x12_3 p301 q301
                                  cases e301
                                  replace p301 := eq_true p301
                                  replace q301 := eq_true q301
                                  have p302 : 0 ≤ (x12_3 : Int) := of_decide_eq_true (by first | (with_reducible assumption) | assumption)
                                  have q302 : x12_3 < (t271.length : Int) := of_decide_eq_true (by first | (with_reducible assumption) | assumption)
                                  obtain ⟨ad302, e302, hx302_0⟩ := Kd.at_int (Kd.R_reads' HO_1.out).2.2 x12_3 p302 q302
                                  obtain rfl : ad291 = ad302 := (by injection e302)
                                  replace p302 := eq_true p302
                                  replace q302 := eq_true q302
                                  have p303 : 0 ≤ (x12_3 : Int) := of_decide_eq_true (by first | (with_reducible assumption) | assumption)
                                  have q303 : x12_3 < (t286.length : Int) := of_decide_eq_true (by first | (with_reducible assumption) | assumption)
                                  obtain ⟨ad303, e303, hx303_0⟩ := Kd.at_int (Kd.R_reads' HO_10.out).2.2 x12_3 p303 q303
                                  obtain rfl : ad301 = ad303 := (by injection e303)
                                  replace p303 := eq_true p303
                                  replace q303 := eq_true q303
                                  have p309 : 0 ≤ (x12_3 : Int) := of_decide_eq_true (by first | (with_reducible assumption) | assumption)
                                  have q309 : x12_3 < (t286.length : Int) := of_decide_eq_true (by first | (with_reducible assumption) | assumption)
                                  obtain ⟨ad309, e309, hx309_0⟩ := Kd.at_int (Kd.R_reads' HO_10.out).2.2 x12_3 p309 q309
                                  obtain rfl : ad301 = ad309 := (by injection e309)
                                  replace p309 := eq_true p309
                                  replace q309 := eq_true q309
                                  go_wp2
                                  repeat (go_quiet (fail); try go_wp2)
                                  go_roundg k3
                                  case measure => have := HK1.out; have := HJ33.out; have := HK3.out; omega
                                  case rel => exact ⟨(wrap64 (x12_3 + 1)), (by first | rfl | (simp; done) | (simp [*]; done)), H', ⟨by have := HK1.out; have := HJ33.out; have := HK3.out; omega⟩, ⟨by (with_reducible repeat (first | apply Kd.S_alloc | apply Kd.S_drewN | apply Kd.S_drew)); exact HO_0.out⟩, ⟨by (with_reducible repeat (first | apply Kd.R_alloc | apply Kd.R_drewN | apply Kd.R_drew)); exact HO_1.out⟩, ⟨by (with_reducible repeat (first | apply Kd.R_alloc | apply Kd.R_drewN | apply Kd.R_drew)); exact HO_8.out⟩, ⟨by (with_reducible repeat (first | apply Kd.R_alloc | apply Kd.R_drewN | apply Kd.R_drew)); exact HO_10.out⟩, ⟨by repeat (first | (with_reducible first | exact HB.out | apply below_alloc | apply pw_below_drewN | apply below_drew1) | exact HB.out)⟩⟩
                            · rw [if_neg c62] at H
                              have c62b0 : ((rd t286 x12_3) == (rd t271 x12_3)) = false := beq_eq_false_iff_ne.mpr c62
                              have c62b1 : ((rd t286 x12_3) != (rd t271 x12_3)) = true := bne_iff_ne.mpr c62
                              obtain rfl := Option.some.inj H
                              have p291 : 0 ≤ (x12_3 : Int) := of_decide_eq_true (by first | (with_reducible assumption) | assumption)
                              have q291 : x12_3 < (t271.length : Int) := of_decide_eq_true (by first | (with_reducible assumption) | assumption)
                              obtain ⟨ad291, e291, hx291_0⟩ := Kd.at_int (Kd.R_reads' HO_1.out).2.2 x12_3 p291 q291
                              cases e291
                              replace p291 := eq_true p291
                              replace q291 := eq_true q291
                              obtain ⟨Ao70, co70, eo70⟩ := Kd.R_slice HO_10.out
                              subst eo70
                              have p301 : 0 ≤ (x12_3 : Int) := of_decide_eq_true (by first | (with_reducible assumption) | assumption)
                              have q301 : x12_3 < (t286.length : Int) := of_decide_eq_true (by first | (with_reducible assumption) | assumption)
                              obtain ⟨ad301, e301, hx301_0⟩ := Kd.at_int (Kd.R_reads' HO_10.out).2.2 x12_3 p301 q301
                              cases e301
                              replace p301 := eq_true p301
                              replace q301 := eq_true q301
                              have p302 : 0 ≤ (x12_3 : Int) := of_decide_eq_true (by first | (with_reducible assumption) | assumption)
                              have q302 : x12_3 < (t271.length : Int) := of_decide_eq_true (by first | (with_reducible assumption) | assumption)
                              obtain ⟨ad302, e302, hx302_0⟩ := Kd.at_int (Kd.R_reads' HO_1.out).2.2 x12_3 p302 q302
                              obtain rfl : ad291 = ad302 := (by injection e302)
                              replace p302 := eq_true p302
                              replace q302 := eq_true q302
                              go_wp2
                              repeat (go_quiet (fail); try go_wp2)
                              go_ret
                              exact ⟨by first | rfl | (simp [errW_none, errW_some] <;> rfl) | (simp [*, errW_none, errW_some] <;> rfl), by repeat (first | (with_reducible first | exact HB.out | apply below_alloc | apply pw_below_drewN | apply below_drew1) | exact HB.out)⟩
                          · rw [if_neg c61] at H
                            exact absurd H (by simp)
                      · rw [if_neg c47] at H
                        exact absurd H (by simp)
                    · rw [if_neg c46] at H
                      have c46b0 : decide (x12_3 < (t271.length : Int)) = false := decide_eq_false c46
                      clear c46
                      replace H := Option.bind_eq_some_iff.mp H
                      obtain ⟨t312, A710, H⟩ := H
                      replace H : (if t312 = 1 then (ashlarlaw08_PropFollows.l2 k3 t271 t269 x8_1 t286 t287 1) else (some t269)) = some r := H
                      have A71 := Aside0.mk A710
                      clear A710
                      by_cases c72 : t312 = 1
                      · rw [if_pos c72] at H
                        have c72b0 : (t312 == 1) = true := beq_iff_eq.mpr c72
                        have c72b1 : (t312 != 1) = false := bne_eq_false_iff_eq.mpr c72
                        clear c72
                        have H' := Aside0.mk H
                        clear H
                        go_wp2_with (first | (go_at_call 17; (with_reducible refine (prop_Eval.calls k3 _ _ t270 _ _ x8_1 t312 _ ?side1 ?side2 ?side3 ?side4 A71.out).mono ?_); (case side1 => repeat (first | exact (Kd.S_reads' HO_0.out).2.2 | (with_reducible refine Kd.C_alloc ?_ _) | (with_reducible refine Kd.C_drewN ?_ _) | (with_reducible refine Kd.C_drew ?_))); (case side2 => exact (Kd.S_reads' HO_0.out).2.1); (case side3 => repeat (first | exact (Kd.R_reads' HO_8.out).2.2 | (with_reducible refine Kd.C_alloc ?_ _) | (with_reducible refine Kd.C_drewN ?_ _) | (with_reducible refine Kd.C_drew ?_))); (case side4 => exact (Kd.R_reads' HO_8.out).2.1); rintro e w73 ⟨rfl, hb⟩; have n0_ := Aside0.mk (Kd.S_below (by (with_reducible repeat (first | apply Kd.S_alloc | apply Kd.S_drewN | apply Kd.S_drew)); exact HO_0.out) hb); have n1_ := Aside0.mk (Kd.R_below (by (with_reducible repeat (first | apply Kd.R_alloc | apply Kd.R_drewN | apply Kd.R_drew)); exact HO_1.out) hb); have n2_ := Aside0.mk (Kd.R_below (by (with_reducible repeat (first | apply Kd.R_alloc | apply Kd.R_drewN | apply Kd.R_drew)); exact HO_8.out) hb); have n3_ := Aside0.mk (Kd.R_below (by (with_reducible repeat (first | apply Kd.R_alloc | apply Kd.R_drewN | apply Kd.R_drew)); exact HO_10.out) hb); have n4_ := Aside0.mk (below_step (by repeat (first | (with_reducible first | exact HB.out | apply below_alloc | apply pw_below_drewN | apply below_drew1) | exact HB.out)) hb); clear HO_0; clear HO_1; clear HO_8; clear HO_10; clear HB; have HO_0 := n0_; have HO_1 := n1_; have HO_8 := n2_; have HO_10 := n3_; have HB := n4_; clear n0_ n1_ n2_ n3_ n4_; (try clear hb); (try clear hb2); (try clear hk); (try clear hi)))
                        repeat (go_quiet (first | (go_at_call 17; (with_reducible refine (prop_Eval.calls k3 _ _ t270 _ _ x8_1 t312 _ ?side1 ?side2 ?side3 ?side4 A71.out).mono ?_); (case side1 => repeat (first | exact (Kd.S_reads' HO_0.out).2.2 | (with_reducible refine Kd.C_alloc ?_ _) | (with_reducible refine Kd.C_drewN ?_ _) | (with_reducible refine Kd.C_drew ?_))); (case side2 => exact (Kd.S_reads' HO_0.out).2.1); (case side3 => repeat (first | exact (Kd.R_reads' HO_8.out).2.2 | (with_reducible refine Kd.C_alloc ?_ _) | (with_reducible refine Kd.C_drewN ?_ _) | (with_reducible refine Kd.C_drew ?_))); (case side4 => exact (Kd.R_reads' HO_8.out).2.1); rintro e w73 ⟨rfl, hb⟩; have n0_ := Aside0.mk (Kd.S_below (by (with_reducible repeat (first | apply Kd.S_alloc | apply Kd.S_drewN | apply Kd.S_drew)); exact HO_0.out) hb); have n1_ := Aside0.mk (Kd.R_below (by (with_reducible repeat (first | apply Kd.R_alloc | apply Kd.R_drewN | apply Kd.R_drew)); exact HO_1.out) hb); have n2_ := Aside0.mk (Kd.R_below (by (with_reducible repeat (first | apply Kd.R_alloc | apply Kd.R_drewN | apply Kd.R_drew)); exact HO_8.out) hb); have n3_ := Aside0.mk (Kd.R_below (by (with_reducible repeat (first | apply Kd.R_alloc | apply Kd.R_drewN | apply Kd.R_drew)); exact HO_10.out) hb); have n4_ := Aside0.mk (below_step (by repeat (first | (with_reducible first | exact HB.out | apply below_alloc | apply pw_below_drewN | apply below_drew1) | exact HB.out)) hb); clear HO_0; clear HO_1; clear HO_8; clear HO_10; clear HB; have HO_0 := n0_; have HO_1 := n1_; have HO_8 := n2_; have HO_10 := n3_; have HB := n4_; clear n0_ n1_ n2_ n3_ n4_; (try clear hb); (try clear hb2); (try clear hk); (try clear hi))); try go_wp2_with (first | (go_at_call 17; (with_reducible refine (prop_Eval.calls k3 _ _ t270 _ _ x8_1 t312 _ ?side1 ?side2 ?side3 ?side4 A71.out).mono ?_); (case side1 => repeat (first | exact (Kd.S_reads' HO_0.out).2.2 | (with_reducible refine Kd.C_alloc ?_ _) | (with_reducible refine Kd.C_drewN ?_ _) | (with_reducible refine Kd.C_drew ?_))); (case side2 => exact (Kd.S_reads' HO_0.out).2.1); (case side3 => repeat (first | exact (Kd.R_reads' HO_8.out).2.2 | (with_reducible refine Kd.C_alloc ?_ _) | (with_reducible refine Kd.C_drewN ?_ _) | (with_reducible refine Kd.C_drew ?_))); (case side4 => exact (Kd.R_reads' HO_8.out).2.1); rintro e w73 ⟨rfl, hb⟩; have n0_ := Aside0.mk (Kd.S_below (by (with_reducible repeat (first | apply Kd.S_alloc | apply Kd.S_drewN | apply Kd.S_drew)); exact HO_0.out) hb); have n1_ := Aside0.mk (Kd.R_below (by (with_reducible repeat (first | apply Kd.R_alloc | apply Kd.R_drewN | apply Kd.R_drew)); exact HO_1.out) hb); have n2_ := Aside0.mk (Kd.R_below (by (with_reducible repeat (first | apply Kd.R_alloc | apply Kd.R_drewN | apply Kd.R_drew)); exact HO_8.out) hb); have n3_ := Aside0.mk (Kd.R_below (by (with_reducible repeat (first | apply Kd.R_alloc | apply Kd.R_drewN | apply Kd.R_drew)); exact HO_10.out) hb); have n4_ := Aside0.mk (below_step (by repeat (first | (with_reducible first | exact HB.out | apply below_alloc | apply pw_below_drewN | apply below_drew1) | exact HB.out)) hb); clear HO_0; clear HO_1; clear HO_8; clear HO_10; clear HB; have HO_0 := n0_; have HO_1 := n1_; have HO_8 := n2_; have HO_10 := n3_; have HB := n4_; clear n0_ n1_ n2_ n3_ n4_; (try clear hb); (try clear hb2); (try clear hk); (try clear hi))))
                        go_loopg [13] k3 (fun kq v13 w' => ∃ (x13_4 : Int), v13 = .int .i64 x13_4 ∧ Aside0 (ashlarlaw08_PropFollows.l2 kq t271 t269 x8_1 t286 t287 x13_4 = some r) ∧ Aside0 (kq ≤ k3) ∧ Aside0 (Kd.R (Kd.int .i8) 30 w' w.heap.size (fun k_ => some k_ ≠ ((.slice Ao35 x8_1.length co35) : Value).ownBlock ∧ some k_ ≠ (v288 : Value).ownBlock) (.slice Ao12 t271.length co12) t271) ∧ Aside0 (Kd.R (Kd.int .i8) 30 w' w.heap.size (fun k_ => some k_ ≠ ((.slice Ao12 t271.length co12) : Value).ownBlock ∧ some k_ ≠ (v288 : Value).ownBlock) (.slice Ao35 x8_1.length co35) x8_1) ∧ Aside0 (Kd.R (Kd.int .i8) 30 w' w.heap.size (fun k_ => some k_ ≠ ((.slice Ao12 t271.length co12) : Value).ownBlock ∧ some k_ ≠ ((.slice Ao35 x8_1.length co35) : Value).ownBlock) v288 t286) ∧ Aside0 (Below w.heap.size w w'))
                        case atStart => exact ⟨(1), (by first | rfl | (simp; done) | (simp [*]; done)), H', ⟨Nat.le_refl _⟩, ⟨by (with_reducible repeat (first | apply Kd.R_alloc | apply Kd.R_drewN | apply Kd.R_drew)); exact HO_1.out⟩, ⟨by (with_reducible repeat (first | apply Kd.R_alloc | apply Kd.R_drewN | apply Kd.R_drew)); exact HO_8.out⟩, ⟨by (with_reducible repeat (first | apply Kd.R_alloc | apply Kd.R_drewN | apply Kd.R_drew)); exact HO_10.out⟩, ⟨by repeat (first | (with_reducible first | exact HB.out | apply below_alloc | apply pw_below_drewN | apply below_drew1) | exact HB.out)⟩⟩
                        case round =>
                          clear H'
                          try clear p1
                          try clear q1
                          try clear hx1
                          try clear p2
                          try clear q2
                          try clear hx2
                          try clear c3
                          try clear p3
                          try clear q3
                          try clear hx3
                          try clear c4
                          try clear c5
                          try clear c6
                          try clear p6
                          try clear c7
                          try clear p16
                          try clear q16
                          try clear hx16
                          try clear q18
                          try clear p20
                          try clear q20
                          try clear hx20
                          try clear p28
                          try clear q28
                          try clear hx28
                          try clear p29
                          try clear q29
                          try clear hx29
                          try clear p30
                          try clear q30
                          try clear hx30
                          try clear p31
                          try clear q31
                          try clear hx31
                          try clear c38
                          try clear c38b2
                          try clear c39
                          try clear c45
                          try clear c46
                          try clear c46b0
                          try clear c47
                          try clear c47b0
                          try clear c48
                          try clear c48b0
                          try clear c48b1
                          try clear c49
                          try clear c49b0
                          try clear c50
                          try clear c50b0
                          try clear c51
                          try clear c51b0
                          try clear c51b1
                          try clear c52
                          try clear c52b0
                          try clear c56
                          try clear c56b0
                          try clear c57
                          try clear c57b0
                          try clear c57b1
                          try clear c61
                          try clear c61b0
                          try clear c62
                          try clear c62b0
                          try clear c62b1
                          try clear c63
                          try clear c63b0
                          try clear c64
                          try clear c64b0
                          try clear p64
                          try clear c67
                          try clear c67b0
                          try clear c72
                          try clear c72b0
                          try clear c72b1
                          try clear hx16_0
                          try clear hx20_0
                          try clear hx282_0
                          try clear hx284_0
                          try clear hx291_0
                          try clear hx292_0
                          try clear hx293_0
                          try clear hx294_0
                          try clear hx295_0
                          try clear hx296_0
                          try clear hx297_0
                          try clear hx298_0
                          try clear hx299_0
                          try clear hx300_0
                          try clear hx301_0
                          try clear hx302_0
                          try clear hx303_0
                          try clear hx304_0
                          try clear hx305_0
                          try clear hx306_0
                          try clear hx307_0
                          try clear hx308_0
                          try clear hx309_0
                          try clear hx310_0
                          try clear hx311_0
                          try clear p1
                          try clear p16
                          try clear p2
                          try clear p20
                          try clear p28
                          try clear p282
                          try clear p284
                          try clear p291
                          try clear p292
                          try clear p293
                          try clear p294
                          try clear p295
                          try clear p296
                          try clear p297
                          try clear p298
                          try clear p299
                          try clear p300
                          try clear p301
                          try clear p302
                          try clear p303
                          try clear p304
                          try clear p305
                          try clear p306
                          try clear p307
                          try clear p308
                          try clear p309
                          try clear p310
                          try clear p311
                          try clear p6
                          try clear q1
                          try clear q16
                          try clear q18
                          try clear q2
                          try clear q20
                          try clear q28
                          try clear q282
                          try clear q284
                          try clear q291
                          try clear q292
                          try clear q293
                          try clear q294
                          try clear q295
                          try clear q296
                          try clear q297
                          try clear q298
                          try clear q299
                          try clear q300
                          try clear q301
                          try clear q302
                          try clear q303
                          try clear q304
                          try clear q305
                          try clear q306
                          try clear q307
                          try clear q308
                          try clear q309
                          try clear q310
                          try clear q311
                          obtain ⟨x13_4, rfl, HA, HK4, HO_1, HO_8, HO_10, HB⟩ := hrel
                          cases gk with
                          | zero => exact absurd HA.out (by simp [ashlarlaw08_PropFollows.l2])
                          | succ k4 =>
                            have H := HA.out
                            clear HA
                            simp only [ashlarlaw08_PropFollows.l2] at H
                            by_cases c74 : x13_4 < (t271.length : Int)
                            · rw [if_pos c74] at H
                              have c74b0 : decide (x13_4 < (t271.length : Int)) = true := decide_eq_true c74
                              clear c74
                              by_cases c75 : 0 ≤ x13_4
                              · rw [if_pos c75] at H
                                have c75b0 : decide (0 ≤ x13_4) = true := decide_eq_true c75
                                clear c75
                                by_cases c76 : x13_4 < (t286.length : Int)
                                · rw [if_pos c76] at H
                                  have c76b0 : decide (x13_4 < (t286.length : Int)) = true := decide_eq_true c76
                                  clear c76
                                  by_cases c77 : (rd t286 x13_4) > 0
                                  · rw [if_pos c77] at H
                                    have c77b0 : decide (0 < (rd t286 x13_4)) = true := decide_eq_true c77
                                    clear c77
                                    by_cases c78 : x13_4 < (x8_1.length : Int)
                                    · rw [if_pos c78] at H
                                      have c78b0 : decide (x13_4 < (x8_1.length : Int)) = true := decide_eq_true c78
                                      clear c78
                                      by_cases c79 : (rd x8_1 x13_4) < 0
                                      · rw [if_pos c79] at H
                                        have c79b0 : decide ((rd x8_1 x13_4) < 0) = true := decide_eq_true c79
                                        clear c79
                                        obtain rfl := Option.some.inj H
                                        obtain ⟨Ao80, co80, eo80⟩ := Kd.R_slice HO_10.out
                                        subst eo80
                                        have p313 : 0 ≤ (x13_4 : Int) := of_decide_eq_true (by first | (with_reducible assumption) | assumption)
                                        have q313 : x13_4 < (t286.length : Int) := of_decide_eq_true (by first | (with_reducible assumption) | assumption)
                                        obtain ⟨ad313, e313, hx313_0⟩ := Kd.at_int (Kd.R_reads' HO_10.out).2.2 x13_4 p313 q313
                                        cases e313
                                        replace p313 := eq_true p313
                                        replace q313 := eq_true q313
                                        have p314 : 0 ≤ (x13_4 : Int) := of_decide_eq_true (by first | (with_reducible assumption) | assumption)
                                        have q314 : x13_4 < (x8_1.length : Int) := of_decide_eq_true (by first | (with_reducible assumption) | assumption)
                                        obtain ⟨ad314, e314, hx314_0⟩ := Kd.at_int (Kd.R_reads' HO_8.out).2.2 x13_4 p314 q314
                                        cases e314
                                        replace p314 := eq_true p314
                                        replace q314 := eq_true q314
                                        go_wp2
                                        repeat (go_quiet (fail); try go_wp2)
                                        go_ret
                                        exact ⟨by first | rfl | (simp [errW_none, errW_some] <;> rfl) | (simp [*, errW_none, errW_some] <;> rfl), by repeat (first | (with_reducible first | exact HB.out | apply below_alloc | apply pw_below_drewN | apply below_drew1) | exact HB.out)⟩
                                      · rw [if_neg c79] at H
                                        have c79b0 : decide ((rd x8_1 x13_4) < 0) = false := decide_eq_false c79
                                        clear c79
                                        by_cases c81 : (rd t286 x13_4) < 0
                                        · rw [if_pos c81] at H
                                          have c81b0 : decide ((rd t286 x13_4) < 0) = true := decide_eq_true c81
                                          clear c81
                                          by_cases c82 : (rd x8_1 x13_4) > 0
                                          · rw [if_pos c82] at H
                                            have c82b0 : decide (0 < (rd x8_1 x13_4)) = true := decide_eq_true c82
                                            clear c82
                                            obtain rfl := Option.some.inj H
                                            obtain ⟨Ao83, co83, eo83⟩ := Kd.R_slice HO_10.out
                                            subst eo83
                                            have p313 : 0 ≤ (x13_4 : Int) := of_decide_eq_true (by first | (with_reducible assumption) | assumption)
                                            have q313 : x13_4 < (t286.length : Int) := of_decide_eq_true (by first | (with_reducible assumption) | assumption)
                                            obtain ⟨ad313, e313, hx313_0⟩ := Kd.at_int (Kd.R_reads' HO_10.out).2.2 x13_4 p313 q313
                                            cases e313
                                            replace p313 := eq_true p313
                                            replace q313 := eq_true q313
                                            have p314 : 0 ≤ (x13_4 : Int) := of_decide_eq_true (by first | (with_reducible assumption) | assumption)
                                            have q314 : x13_4 < (x8_1.length : Int) := of_decide_eq_true (by first | (with_reducible assumption) | assumption)
                                            obtain ⟨ad314, e314, hx314_0⟩ := Kd.at_int (Kd.R_reads' HO_8.out).2.2 x13_4 p314 q314
                                            cases e314
                                            replace p314 := eq_true p314
                                            replace q314 := eq_true q314
                                            have p315 : 0 ≤ (x13_4 : Int) := of_decide_eq_true (by first | (with_reducible assumption) | assumption)
                                            have q315 : x13_4 < (t286.length : Int) := of_decide_eq_true (by first | (with_reducible assumption) | assumption)
                                            obtain ⟨ad315, e315, hx315_0⟩ := Kd.at_int (Kd.R_reads' HO_10.out).2.2 x13_4 p315 q315
                                            obtain rfl : ad313 = ad315 := (by injection e315)
                                            replace p315 := eq_true p315
                                            replace q315 := eq_true q315
                                            have p316 : 0 ≤ (x13_4 : Int) := of_decide_eq_true (by first | (with_reducible assumption) | assumption)
                                            have q316 : x13_4 < (x8_1.length : Int) := of_decide_eq_true (by first | (with_reducible assumption) | assumption)
                                            obtain ⟨ad316, e316, hx316_0⟩ := Kd.at_int (Kd.R_reads' HO_8.out).2.2 x13_4 p316 q316
                                            obtain rfl : ad314 = ad316 := (by injection e316)
                                            replace p316 := eq_true p316
                                            replace q316 := eq_true q316
                                            go_wp2
                                            repeat (go_quiet (fail); try go_wp2)
                                            go_ret
                                            exact ⟨by first | rfl | (simp [errW_none, errW_some] <;> rfl) | (simp [*, errW_none, errW_some] <;> rfl), by repeat (first | (with_reducible first | exact HB.out | apply below_alloc | apply pw_below_drewN | apply below_drew1) | exact HB.out)⟩
                                          · rw [if_neg c82] at H
                                            have c82b0 : decide (0 < (rd x8_1 x13_4)) = false := decide_eq_false c82
                                            clear c82
                                            have H' := Aside0.mk H
                                            clear H
                                            obtain ⟨Ao84, co84, eo84⟩ := Kd.R_slice HO_10.out
                                            subst eo84
                                            have p313 : 0 ≤ (x13_4 : Int) := of_decide_eq_true (by first | (with_reducible assumption) | assumption)
                                            have q313 : x13_4 < (t286.length : Int) := of_decide_eq_true (by first | (with_reducible assumption) | assumption)
                                            obtain ⟨ad313, e313, hx313_0⟩ := Kd.at_int (Kd.R_reads' HO_10.out).2.2 x13_4 p313 q313
                                            cases e313
                                            replace p313 := eq_true p313
                                            replace q313 := eq_true q313
                                            have p314 : 0 ≤ (x13_4 : Int) := of_decide_eq_true (by first | (with_reducible assumption) | assumption)
                                            have q314 : x13_4 < (x8_1.length : Int) := of_decide_eq_true (by first | (with_reducible assumption) | assumption)
                                            obtain ⟨ad314, e314, hx314_0⟩ := Kd.at_int (Kd.R_reads' HO_8.out).2.2 x13_4 p314 q314
                                            cases e314
                                            replace p314 := eq_true p314
                                            replace q314 := eq_true q314
                                            have p315 : 0 ≤ (x13_4 : Int) := of_decide_eq_true (by first | (with_reducible assumption) | assumption)
                                            have q315 : x13_4 < (t286.length : Int) := of_decide_eq_true (by first | (with_reducible assumption) | assumption)
                                            obtain ⟨ad315, e315, hx315_0⟩ := Kd.at_int (Kd.R_reads' HO_10.out).2.2 x13_4 p315 q315
                                            obtain rfl : ad313 = ad315 := (by injection e315)
                                            replace p315 := eq_true p315
                                            replace q315 := eq_true q315
                                            have p316 : 0 ≤ (x13_4 : Int) := of_decide_eq_true (by first | (with_reducible assumption) | assumption)
                                            have q316 : x13_4 < (x8_1.length : Int) := of_decide_eq_true (by first | (with_reducible assumption) | assumption)
                                            obtain ⟨ad316, e316, hx316_0⟩ := Kd.at_int (Kd.R_reads' HO_8.out).2.2 x13_4 p316 q316
                                            obtain rfl : ad314 = ad316 := (by injection e316)
                                            replace p316 := eq_true p316
                                            replace q316 := eq_true q316
                                            go_wp2
                                            repeat (go_quiet (fail); try go_wp2)
                                            go_roundg k4
                                            case measure => have := HK1.out; have := HJ33.out; have := HK3.out; have := HK4.out; omega
                                            case rel => exact ⟨(wrap64 (x13_4 + 1)), (by first | rfl | (simp; done) | (simp [*]; done)), H', ⟨by have := HK1.out; have := HJ33.out; have := HK3.out; have := HK4.out; omega⟩, ⟨by (with_reducible repeat (first | apply Kd.R_alloc | apply Kd.R_drewN | apply Kd.R_drew)); exact HO_1.out⟩, ⟨by (with_reducible repeat (first | apply Kd.R_alloc | apply Kd.R_drewN | apply Kd.R_drew)); exact HO_8.out⟩, ⟨by (with_reducible repeat (first | apply Kd.R_alloc | apply Kd.R_drewN | apply Kd.R_drew)); exact HO_10.out⟩, ⟨by repeat (first | (with_reducible first | exact HB.out | apply below_alloc | apply pw_below_drewN | apply below_drew1) | exact HB.out)⟩⟩
                                        · rw [if_neg c81] at H
                                          have c81b0 : decide ((rd t286 x13_4) < 0) = false := decide_eq_false c81
                                          clear c81
                                          have H' := Aside0.mk H
                                          clear H
                                          obtain ⟨Ao85, co85, eo85⟩ := Kd.R_slice HO_10.out
                                          subst eo85
                                          have p313 : 0 ≤ (x13_4 : Int) := of_decide_eq_true (by first | (with_reducible assumption) | assumption)
                                          have q313 : x13_4 < (t286.length : Int) := of_decide_eq_true (by first | (with_reducible assumption) | assumption)
                                          obtain ⟨ad313, e313, hx313_0⟩ := Kd.at_int (Kd.R_reads' HO_10.out).2.2 x13_4 p313 q313
                                          cases e313
                                          replace p313 := eq_true p313
                                          replace q313 := eq_true q313
                                          have p314 : 0 ≤ (x13_4 : Int) := of_decide_eq_true (by first | (with_reducible assumption) | assumption)
                                          have q314 : x13_4 < (x8_1.length : Int) := of_decide_eq_true (by first | (with_reducible assumption) | assumption)
                                          obtain ⟨ad314, e314, hx314_0⟩ := Kd.at_int (Kd.R_reads' HO_8.out).2.2 x13_4 p314 q314
                                          cases e314
                                          replace p314 := eq_true p314
                                          replace q314 := eq_true q314
                                          have p315 : 0 ≤ (x13_4 : Int) := of_decide_eq_true (by first | (with_reducible assumption) | assumption)
                                          have q315 : x13_4 < (t286.length : Int) := of_decide_eq_true (by first | (with_reducible assumption) | assumption)
                                          obtain ⟨ad315, e315, hx315_0⟩ := Kd.at_int (Kd.R_reads' HO_10.out).2.2 x13_4 p315 q315
                                          obtain rfl : ad313 = ad315 := (by injection e315)
                                          replace p315 := eq_true p315
                                          replace q315 := eq_true q315
                                          go_wp2
                                          repeat (go_quiet (fail); try go_wp2)
                                          go_roundg k4
                                          case measure => have := HK1.out; have := HJ33.out; have := HK3.out; have := HK4.out; omega
                                          case rel => exact ⟨(wrap64 (x13_4 + 1)), (by first | rfl | (simp; done) | (simp [*]; done)), H', ⟨by have := HK1.out; have := HJ33.out; have := HK3.out; have := HK4.out; omega⟩, ⟨by (with_reducible repeat (first | apply Kd.R_alloc | apply Kd.R_drewN | apply Kd.R_drew)); exact HO_1.out⟩, ⟨by (with_reducible repeat (first | apply Kd.R_alloc | apply Kd.R_drewN | apply Kd.R_drew)); exact HO_8.out⟩, ⟨by (with_reducible repeat (first | apply Kd.R_alloc | apply Kd.R_drewN | apply Kd.R_drew)); exact HO_10.out⟩, ⟨by repeat (first | (with_reducible first | exact HB.out | apply below_alloc | apply pw_below_drewN | apply below_drew1) | exact HB.out)⟩⟩
                                    · rw [if_neg c78] at H
                                      exact absurd H (by simp)
                                  · rw [if_neg c77] at H
                                    have c77b0 : decide (0 < (rd t286 x13_4)) = false := decide_eq_false c77
                                    clear c77
                                    by_cases c86 : (rd t286 x13_4) < 0
                                    · rw [if_pos c86] at H
                                      have c86b0 : decide ((rd t286 x13_4) < 0) = true := decide_eq_true c86
                                      clear c86
                                      by_cases c87 : x13_4 < (x8_1.length : Int)
                                      · rw [if_pos c87] at H
                                        have c87b0 : decide (x13_4 < (x8_1.length : Int)) = true := decide_eq_true c87
                                        clear c87
                                        by_cases c88 : (rd x8_1 x13_4) > 0
                                        · rw [if_pos c88] at H
                                          have c88b0 : decide (0 < (rd x8_1 x13_4)) = true := decide_eq_true c88
                                          clear c88
                                          obtain rfl := Option.some.inj H
                                          obtain ⟨Ao89, co89, eo89⟩ := Kd.R_slice HO_10.out
                                          subst eo89
                                          have p313 : 0 ≤ (x13_4 : Int) := of_decide_eq_true (by first | (with_reducible assumption) | assumption)
                                          have q313 : x13_4 < (t286.length : Int) := of_decide_eq_true (by first | (with_reducible assumption) | assumption)
                                          obtain ⟨ad313, e313, hx313_0⟩ := Kd.at_int (Kd.R_reads' HO_10.out).2.2 x13_4 p313 q313
                                          cases e313
                                          replace p313 := eq_true p313
                                          replace q313 := eq_true q313
                                          have p317 : 0 ≤ (x13_4 : Int) := of_decide_eq_true (by first | (with_reducible assumption) | assumption)
                                          have q317 : x13_4 < (t286.length : Int) := of_decide_eq_true (by first | (with_reducible assumption) | assumption)
                                          obtain ⟨ad317, e317, hx317_0⟩ := Kd.at_int (Kd.R_reads' HO_10.out).2.2 x13_4 p317 q317
                                          obtain rfl : ad313 = ad317 := (by injection e317)
                                          replace p317 := eq_true p317
                                          replace q317 := eq_true q317
                                          have p318 : 0 ≤ (x13_4 : Int) := of_decide_eq_true (by first | (with_reducible assumption) | assumption)
                                          have q318 : x13_4 < (x8_1.length : Int) := of_decide_eq_true (by first | (with_reducible assumption) | assumption)
                                          obtain ⟨ad318, e318, hx318_0⟩ := Kd.at_int (Kd.R_reads' HO_8.out).2.2 x13_4 p318 q318
                                          cases e318
                                          replace p318 := eq_true p318
                                          replace q318 := eq_true q318
                                          go_wp2
                                          repeat (go_quiet (fail); try go_wp2)
                                          go_ret
                                          exact ⟨by first | rfl | (simp [errW_none, errW_some] <;> rfl) | (simp [*, errW_none, errW_some] <;> rfl), by repeat (first | (with_reducible first | exact HB.out | apply below_alloc | apply pw_below_drewN | apply below_drew1) | exact HB.out)⟩
                                        · rw [if_neg c88] at H
                                          have c88b0 : decide (0 < (rd x8_1 x13_4)) = false := decide_eq_false c88
                                          clear c88
                                          have H' := Aside0.mk H
                                          clear H
                                          obtain ⟨Ao90, co90, eo90⟩ := Kd.R_slice HO_10.out
                                          subst eo90
                                          have p313 : 0 ≤ (x13_4 : Int) := of_decide_eq_true (by first | (with_reducible assumption) | assumption)
                                          have q313 : x13_4 < (t286.length : Int) := of_decide_eq_true (by first | (with_reducible assumption) | assumption)
                                          obtain ⟨ad313, e313, hx313_0⟩ := Kd.at_int (Kd.R_reads' HO_10.out).2.2 x13_4 p313 q313
                                          cases e313
                                          replace p313 := eq_true p313
                                          replace q313 := eq_true q313
                                          have p317 : 0 ≤ (x13_4 : Int) := of_decide_eq_true (by first | (with_reducible assumption) | assumption)
                                          have q317 : x13_4 < (t286.length : Int) := of_decide_eq_true (by first | (with_reducible assumption) | assumption)
                                          obtain ⟨ad317, e317, hx317_0⟩ := Kd.at_int (Kd.R_reads' HO_10.out).2.2 x13_4 p317 q317
                                          obtain rfl : ad313 = ad317 := (by injection e317)
                                          replace p317 := eq_true p317
                                          replace q317 := eq_true q317
                                          have p318 : 0 ≤ (x13_4 : Int) := of_decide_eq_true (by first | (with_reducible assumption) | assumption)
                                          have q318 : x13_4 < (x8_1.length : Int) := of_decide_eq_true (by first | (with_reducible assumption) | assumption)
                                          obtain ⟨ad318, e318, hx318_0⟩ := Kd.at_int (Kd.R_reads' HO_8.out).2.2 x13_4 p318 q318
                                          cases e318
                                          replace p318 := eq_true p318
                                          replace q318 := eq_true q318
                                          go_wp2
                                          repeat (go_quiet (fail); try go_wp2)
                                          go_roundg k4
                                          case measure => have := HK1.out; have := HJ33.out; have := HK3.out; have := HK4.out; omega
                                          case rel => exact ⟨(wrap64 (x13_4 + 1)), (by first | rfl | (simp; done) | (simp [*]; done)), H', ⟨by have := HK1.out; have := HJ33.out; have := HK3.out; have := HK4.out; omega⟩, ⟨by (with_reducible repeat (first | apply Kd.R_alloc | apply Kd.R_drewN | apply Kd.R_drew)); exact HO_1.out⟩, ⟨by (with_reducible repeat (first | apply Kd.R_alloc | apply Kd.R_drewN | apply Kd.R_drew)); exact HO_8.out⟩, ⟨by (with_reducible repeat (first | apply Kd.R_alloc | apply Kd.R_drewN | apply Kd.R_drew)); exact HO_10.out⟩, ⟨by repeat (first | (with_reducible first | exact HB.out | apply below_alloc | apply pw_below_drewN | apply below_drew1) | exact HB.out)⟩⟩
                                      · rw [if_neg c87] at H
                                        exact absurd H (by simp)
                                    · rw [if_neg c86] at H
                                      have c86b0 : decide ((rd t286 x13_4) < 0) = false := decide_eq_false c86
                                      clear c86
                                      have H' := Aside0.mk H
                                      clear H
                                      obtain ⟨Ao91, co91, eo91⟩ := Kd.R_slice HO_10.out
                                      subst eo91
                                      have p313 : 0 ≤ (x13_4 : Int) := of_decide_eq_true (by first | (with_reducible assumption) | assumption)
                                      have q313 : x13_4 < (t286.length : Int) := of_decide_eq_true (by first | (with_reducible assumption) | assumption)
                                      obtain ⟨ad313, e313, hx313_0⟩ := Kd.at_int (Kd.R_reads' HO_10.out).2.2 x13_4 p313 q313
                                      cases e313
                                      replace p313 := eq_true p313
                                      replace q313 := eq_true q313
                                      have p317 : 0 ≤ (x13_4 : Int) := of_decide_eq_true (by first | (with_reducible assumption) | assumption)
                                      have q317 : x13_4 < (t286.length : Int) := of_decide_eq_true (by first | (with_reducible assumption) | assumption)
                                      obtain ⟨ad317, e317, hx317_0⟩ := Kd.at_int (Kd.R_reads' HO_10.out).2.2 x13_4 p317 q317
                                      obtain rfl : ad313 = ad317 := (by injection e317)
                                      replace p317 := eq_true p317
                                      replace q317 := eq_true q317
                                      go_wp2
                                      repeat (go_quiet (fail); try go_wp2)
                                      go_roundg k4
                                      case measure => have := HK1.out; have := HJ33.out; have := HK3.out; have := HK4.out; omega
                                      case rel => exact ⟨(wrap64 (x13_4 + 1)), (by first | rfl | (simp; done) | (simp [*]; done)), H', ⟨by have := HK1.out; have := HJ33.out; have := HK3.out; have := HK4.out; omega⟩, ⟨by (with_reducible repeat (first | apply Kd.R_alloc | apply Kd.R_drewN | apply Kd.R_drew)); exact HO_1.out⟩, ⟨by (with_reducible repeat (first | apply Kd.R_alloc | apply Kd.R_drewN | apply Kd.R_drew)); exact HO_8.out⟩, ⟨by (with_reducible repeat (first | apply Kd.R_alloc | apply Kd.R_drewN | apply Kd.R_drew)); exact HO_10.out⟩, ⟨by repeat (first | (with_reducible first | exact HB.out | apply below_alloc | apply pw_below_drewN | apply below_drew1) | exact HB.out)⟩⟩
                                · rw [if_neg c76] at H
                                  exact absurd H (by simp)
                              · rw [if_neg c75] at H
                                exact absurd H (by simp)
                            · rw [if_neg c74] at H
                              have c74b0 : decide (x13_4 < (t271.length : Int)) = false := decide_eq_false c74
                              clear c74
                              by_cases c92 : t269 = true
                              · subst c92
                                have H1 : (some (!t287)) = some r := by rw [if_pos rfl] at H; exact H
                                clear H
                                have H := H1
                                clear H1
                                obtain rfl := Option.some.inj H
                                go_wp2
                                repeat (go_quiet (fail); try go_wp2)
                                go_ret
                                exact ⟨by first | rfl | (simp [errW_none, errW_some] <;> rfl) | (simp [*, errW_none, errW_some] <;> rfl), by repeat (first | (with_reducible first | exact HB.out | apply below_alloc | apply pw_below_drewN | apply below_drew1) | exact HB.out)⟩
                              · replace c92 := Bool.eq_false_iff.mpr c92
                                subst c92
                                have H1 : (some false) = some r := by rw [if_neg (show ¬ (false = true) by decide)] at H; exact H
                                clear H
                                have H := H1
                                clear H1
                                obtain rfl := Option.some.inj H
                                go_wp2
                                repeat (go_quiet (fail); try go_wp2)
                                go_ret
                                exact ⟨by first | rfl | (simp [errW_none, errW_some] <;> rfl) | (simp [*, errW_none, errW_some] <;> rfl), by repeat (first | (with_reducible first | exact HB.out | apply below_alloc | apply pw_below_drewN | apply below_drew1) | exact HB.out)⟩
                      · rw [if_neg c72] at H
                        have c72b0 : (t312 == 1) = false := beq_eq_false_iff_ne.mpr c72
                        have c72b1 : (t312 != 1) = true := bne_iff_ne.mpr c72
                        obtain rfl := Option.some.inj H
                        go_wp2_with (first | (go_at_call 17; (with_reducible refine (prop_Eval.calls k3 _ _ t270 _ _ x8_1 t312 _ ?side1 ?side2 ?side3 ?side4 A71.out).mono ?_); (case side1 => repeat (first | exact (Kd.S_reads' HO_0.out).2.2 | (with_reducible refine Kd.C_alloc ?_ _) | (with_reducible refine Kd.C_drewN ?_ _) | (with_reducible refine Kd.C_drew ?_))); (case side2 => exact (Kd.S_reads' HO_0.out).2.1); (case side3 => repeat (first | exact (Kd.R_reads' HO_8.out).2.2 | (with_reducible refine Kd.C_alloc ?_ _) | (with_reducible refine Kd.C_drewN ?_ _) | (with_reducible refine Kd.C_drew ?_))); (case side4 => exact (Kd.R_reads' HO_8.out).2.1); rintro e w93 ⟨rfl, hb⟩; have n0_ := Aside0.mk (Kd.S_below (by (with_reducible repeat (first | apply Kd.S_alloc | apply Kd.S_drewN | apply Kd.S_drew)); exact HO_0.out) hb); have n1_ := Aside0.mk (Kd.R_below (by (with_reducible repeat (first | apply Kd.R_alloc | apply Kd.R_drewN | apply Kd.R_drew)); exact HO_1.out) hb); have n2_ := Aside0.mk (Kd.R_below (by (with_reducible repeat (first | apply Kd.R_alloc | apply Kd.R_drewN | apply Kd.R_drew)); exact HO_8.out) hb); have n3_ := Aside0.mk (Kd.R_below (by (with_reducible repeat (first | apply Kd.R_alloc | apply Kd.R_drewN | apply Kd.R_drew)); exact HO_10.out) hb); have n4_ := Aside0.mk (below_step (by repeat (first | (with_reducible first | exact HB.out | apply below_alloc | apply pw_below_drewN | apply below_drew1) | exact HB.out)) hb); clear HO_0; clear HO_1; clear HO_8; clear HO_10; clear HB; have HO_0 := n0_; have HO_1 := n1_; have HO_8 := n2_; have HO_10 := n3_; have HB := n4_; clear n0_ n1_ n2_ n3_ n4_; (try clear hb); (try clear hb2); (try clear hk); (try clear hi)))
                        repeat (go_quiet (first | (go_at_call 17; (with_reducible refine (prop_Eval.calls k3 _ _ t270 _ _ x8_1 t312 _ ?side1 ?side2 ?side3 ?side4 A71.out).mono ?_); (case side1 => repeat (first | exact (Kd.S_reads' HO_0.out).2.2 | (with_reducible refine Kd.C_alloc ?_ _) | (with_reducible refine Kd.C_drewN ?_ _) | (with_reducible refine Kd.C_drew ?_))); (case side2 => exact (Kd.S_reads' HO_0.out).2.1); (case side3 => repeat (first | exact (Kd.R_reads' HO_8.out).2.2 | (with_reducible refine Kd.C_alloc ?_ _) | (with_reducible refine Kd.C_drewN ?_ _) | (with_reducible refine Kd.C_drew ?_))); (case side4 => exact (Kd.R_reads' HO_8.out).2.1); rintro e w93 ⟨rfl, hb⟩; have n0_ := Aside0.mk (Kd.S_below (by (with_reducible repeat (first | apply Kd.S_alloc | apply Kd.S_drewN | apply Kd.S_drew)); exact HO_0.out) hb); have n1_ := Aside0.mk (Kd.R_below (by (with_reducible repeat (first | apply Kd.R_alloc | apply Kd.R_drewN | apply Kd.R_drew)); exact HO_1.out) hb); have n2_ := Aside0.mk (Kd.R_below (by (with_reducible repeat (first | apply Kd.R_alloc | apply Kd.R_drewN | apply Kd.R_drew)); exact HO_8.out) hb); have n3_ := Aside0.mk (Kd.R_below (by (with_reducible repeat (first | apply Kd.R_alloc | apply Kd.R_drewN | apply Kd.R_drew)); exact HO_10.out) hb); have n4_ := Aside0.mk (below_step (by repeat (first | (with_reducible first | exact HB.out | apply below_alloc | apply pw_below_drewN | apply below_drew1) | exact HB.out)) hb); clear HO_0; clear HO_1; clear HO_8; clear HO_10; clear HB; have HO_0 := n0_; have HO_1 := n1_; have HO_8 := n2_; have HO_10 := n3_; have HB := n4_; clear n0_ n1_ n2_ n3_ n4_; (try clear hb); (try clear hb2); (try clear hk); (try clear hi))); try go_wp2_with (first | (go_at_call 17; (with_reducible refine (prop_Eval.calls k3 _ _ t270 _ _ x8_1 t312 _ ?side1 ?side2 ?side3 ?side4 A71.out).mono ?_); (case side1 => repeat (first | exact (Kd.S_reads' HO_0.out).2.2 | (with_reducible refine Kd.C_alloc ?_ _) | (with_reducible refine Kd.C_drewN ?_ _) | (with_reducible refine Kd.C_drew ?_))); (case side2 => exact (Kd.S_reads' HO_0.out).2.1); (case side3 => repeat (first | exact (Kd.R_reads' HO_8.out).2.2 | (with_reducible refine Kd.C_alloc ?_ _) | (with_reducible refine Kd.C_drewN ?_ _) | (with_reducible refine Kd.C_drew ?_))); (case side4 => exact (Kd.R_reads' HO_8.out).2.1); rintro e w93 ⟨rfl, hb⟩; have n0_ := Aside0.mk (Kd.S_below (by (with_reducible repeat (first | apply Kd.S_alloc | apply Kd.S_drewN | apply Kd.S_drew)); exact HO_0.out) hb); have n1_ := Aside0.mk (Kd.R_below (by (with_reducible repeat (first | apply Kd.R_alloc | apply Kd.R_drewN | apply Kd.R_drew)); exact HO_1.out) hb); have n2_ := Aside0.mk (Kd.R_below (by (with_reducible repeat (first | apply Kd.R_alloc | apply Kd.R_drewN | apply Kd.R_drew)); exact HO_8.out) hb); have n3_ := Aside0.mk (Kd.R_below (by (with_reducible repeat (first | apply Kd.R_alloc | apply Kd.R_drewN | apply Kd.R_drew)); exact HO_10.out) hb); have n4_ := Aside0.mk (below_step (by repeat (first | (with_reducible first | exact HB.out | apply below_alloc | apply pw_below_drewN | apply below_drew1) | exact HB.out)) hb); clear HO_0; clear HO_1; clear HO_8; clear HO_10; clear HB; have HO_0 := n0_; have HO_1 := n1_; have HO_8 := n2_; have HO_10 := n3_; have HB := n4_; clear n0_ n1_ n2_ n3_ n4_; (try clear hb); (try clear hb2); (try clear hk); (try clear hi))))
                        go_ret
                        exact ⟨by first | rfl | (simp [errW_none, errW_some] <;> rfl) | (simp [*, errW_none, errW_some] <;> rfl), by repeat (first | (with_reducible first | exact HB.out | apply below_alloc | apply pw_below_drewN | apply below_drew1) | exact HB.out)⟩
  · rw [if_neg c6] at H
    exact absurd H (by simp)

end Go.Proofs.Ytbgjmeiphmfniaa.Q
