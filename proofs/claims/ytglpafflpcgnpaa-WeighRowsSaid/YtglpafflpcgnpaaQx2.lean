/- written by a program of this session (wip/tools/printx.py, over the kit's printing program) out of the translation -/
import Derived.Test.YtglpafflpcgnpaaQx0
import Derived.Test.YtglpafflpcgnpaaQx1
namespace Go.Proofs.Ytglpafflpcgnpaa.Q
open Go.RowKit Go.Proofs.YtglpafflpcgnpaaW.PrintWords Go.Proofs.YtglpafflpcgnpaaW.PrintLast Go.Proofs.YtglpafflpcgnpaaW.PrintMore
attribute [local go_sem] max2_int min2_int max_two min_two max_three min_three max_four min_four   -- for this text's walks alone
set_option linter.unusedVariables false
set_option linter.unusedSimpArgs false

/-! ### ashlarlaw02_shown: function 12 -/
def ashlarlaw02_shown.f (k : Nat)  : Option (Bool) := (math_NaN.f).bind fun t122 => ((math_Inf.f 1).bind fun t123 => ((math_Copysign.f 0 13830554455654793216).bind fun t124 => ((weigh_Rescale.f k (([4607182418800017408, 7598952565167317594] : List Nat))).bind fun bt128 => ((weigh_Less.f k t124 0).bind fun t132 => (if t132 = true then ((weigh_Less.f k 0 t124).bind fun t133 => (if t133 = true then (some false) else ((weigh_Less.f k t122 (fNeg t123)).bind fun t134 => (if t134 = true then ((weigh_Less.f k t122 t122).bind fun t135 => (if t135 = true then (some false) else ((weigh_Less.f k t123 t122).bind fun t136 => (if t136 = true then (some false) else ((weigh_Bump.f t123 4607182418800017408).bind fun t137 => (if fEq t137 9218868437227405311 = true then ((weigh_Tame.f t122).bind fun t138 => (if fEq t138 0 = true then (if bt128.2 = true then (if (bt128.1.length : Int) = 2 then (if 0 < (bt128.1.length : Int) then (if fEq (rdOf (0 : Nat) bt128.1 0) 3110860544497550640 = true then ((weigh_Heavy.f (([t122, t124, 0, 0] : List Nat))).bind fun t143 => (if t143 = 2 then ((weigh_Heavy.f ([] : List Nat)).bind fun t144 => (if t144 = (-1) then (some true) else (some false))) else (some false))) else (some false)) else (none)) else (some false)) else (some false)) else (some false))) else (some false))))))) else (some false))))) else (some false))))))
theorem ashlarlaw02_shown.mono : ∀ k, LeO (ashlarlaw02_shown.f k ) (ashlarlaw02_shown.f (k + 1) ) := by
  intro  k
  unfold ashlarlaw02_shown.f
  repeat' first
      | (with_reducible exact weigh_Less.mono _ _ _)
      | (with_reducible exact weigh_Rescale.mono _ _)
      | (with_reducible exact LeO.refl _)
      | (with_reducible exact LeO.none _)
      | (with_reducible refine LeO.ite ?_ ?_)
      | (with_reducible refine LeO.bind ?_ (fun _ => ?_))
      | exact weigh_Less.mono _ _ _
      | exact weigh_Rescale.mono _ _
      | exact LeO.none _
      | refine LeO.ite ?_ ?_
      | refine LeO.bind ?_ (fun _ => ?_)
set_option maxHeartbeats 8000000 in
set_option maxRecDepth 100000 in
theorem ashlarlaw02_shown.calls (k : Nat)  (r : Bool) (w : World) (h : ashlarlaw02_shown.f k  = some r) :
    Calls Try.prog 12 #[] w fun e w' => e = .returned (.bool r) ∧ Below w.heap.size w w' := by
  have HB := Aside0.mk (Below.refl w.heap.size w)
  have H : ((math_NaN.f).bind fun t122 => ((math_Inf.f 1).bind fun t123 => ((math_Copysign.f 0 13830554455654793216).bind fun t124 => ((weigh_Rescale.f k (([4607182418800017408, 7598952565167317594] : List Nat))).bind fun bt128 => ((weigh_Less.f k t124 0).bind fun t132 => (if t132 = true then ((weigh_Less.f k 0 t124).bind fun t133 => (if t133 = true then (some false) else ((weigh_Less.f k t122 (fNeg t123)).bind fun t134 => (if t134 = true then ((weigh_Less.f k t122 t122).bind fun t135 => (if t135 = true then (some false) else ((weigh_Less.f k t123 t122).bind fun t136 => (if t136 = true then (some false) else ((weigh_Bump.f t123 4607182418800017408).bind fun t137 => (if fEq t137 9218868437227405311 = true then ((weigh_Tame.f t122).bind fun t138 => (if fEq t138 0 = true then (if bt128.2 = true then (if (bt128.1.length : Int) = 2 then (if 0 < (bt128.1.length : Int) then (if fEq (rdOf (0 : Nat) bt128.1 0) 3110860544497550640 = true then ((weigh_Heavy.f (([t122, t124, 0, 0] : List Nat))).bind fun t143 => (if t143 = 2 then ((weigh_Heavy.f ([] : List Nat)).bind fun t144 => (if t144 = (-1) then (some true) else (some false))) else (some false))) else (some false)) else (none)) else (some false)) else (some false)) else (some false))) else (some false))))))) else (some false))))) else (some false))))))) = some r := h
  clear h
  replace H := Option.bind_eq_some_iff.mp H
  obtain ⟨t122, A10, H⟩ := H
  replace H : ((math_Inf.f 1).bind fun t123 => ((math_Copysign.f 0 13830554455654793216).bind fun t124 => ((weigh_Rescale.f k (([4607182418800017408, 7598952565167317594] : List Nat))).bind fun bt128 => ((weigh_Less.f k t124 0).bind fun t132 => (if t132 = true then ((weigh_Less.f k 0 t124).bind fun t133 => (if t133 = true then (some false) else ((weigh_Less.f k t122 (fNeg t123)).bind fun t134 => (if t134 = true then ((weigh_Less.f k t122 t122).bind fun t135 => (if t135 = true then (some false) else ((weigh_Less.f k t123 t122).bind fun t136 => (if t136 = true then (some false) else ((weigh_Bump.f t123 4607182418800017408).bind fun t137 => (if fEq t137 9218868437227405311 = true then ((weigh_Tame.f t122).bind fun t138 => (if fEq t138 0 = true then (if bt128.2 = true then (if (bt128.1.length : Int) = 2 then (if 0 < (bt128.1.length : Int) then (if fEq (rdOf (0 : Nat) bt128.1 0) 3110860544497550640 = true then ((weigh_Heavy.f (([t122, t124, 0, 0] : List Nat))).bind fun t143 => (if t143 = 2 then ((weigh_Heavy.f ([] : List Nat)).bind fun t144 => (if t144 = (-1) then (some true) else (some false))) else (some false))) else (some false)) else (none)) else (some false)) else (some false)) else (some false))) else (some false))))))) else (some false))))) else (some false)))))) = some r := H
  have A1 := Aside0.mk A10
  clear A10
  replace H := Option.bind_eq_some_iff.mp H
  obtain ⟨t123, A20, H⟩ := H
  replace H : ((math_Copysign.f 0 13830554455654793216).bind fun t124 => ((weigh_Rescale.f k (([4607182418800017408, 7598952565167317594] : List Nat))).bind fun bt128 => ((weigh_Less.f k t124 0).bind fun t132 => (if t132 = true then ((weigh_Less.f k 0 t124).bind fun t133 => (if t133 = true then (some false) else ((weigh_Less.f k t122 (fNeg t123)).bind fun t134 => (if t134 = true then ((weigh_Less.f k t122 t122).bind fun t135 => (if t135 = true then (some false) else ((weigh_Less.f k t123 t122).bind fun t136 => (if t136 = true then (some false) else ((weigh_Bump.f t123 4607182418800017408).bind fun t137 => (if fEq t137 9218868437227405311 = true then ((weigh_Tame.f t122).bind fun t138 => (if fEq t138 0 = true then (if bt128.2 = true then (if (bt128.1.length : Int) = 2 then (if 0 < (bt128.1.length : Int) then (if fEq (rdOf (0 : Nat) bt128.1 0) 3110860544497550640 = true then ((weigh_Heavy.f (([t122, t124, 0, 0] : List Nat))).bind fun t143 => (if t143 = 2 then ((weigh_Heavy.f ([] : List Nat)).bind fun t144 => (if t144 = (-1) then (some true) else (some false))) else (some false))) else (some false)) else (none)) else (some false)) else (some false)) else (some false))) else (some false))))))) else (some false))))) else (some false))))) = some r := H
  have A2 := Aside0.mk A20
  clear A20
  replace H := Option.bind_eq_some_iff.mp H
  obtain ⟨t124, A30, H⟩ := H
  replace H : ((weigh_Rescale.f k (([4607182418800017408, 7598952565167317594] : List Nat))).bind fun bt128 => ((weigh_Less.f k t124 0).bind fun t132 => (if t132 = true then ((weigh_Less.f k 0 t124).bind fun t133 => (if t133 = true then (some false) else ((weigh_Less.f k t122 (fNeg t123)).bind fun t134 => (if t134 = true then ((weigh_Less.f k t122 t122).bind fun t135 => (if t135 = true then (some false) else ((weigh_Less.f k t123 t122).bind fun t136 => (if t136 = true then (some false) else ((weigh_Bump.f t123 4607182418800017408).bind fun t137 => (if fEq t137 9218868437227405311 = true then ((weigh_Tame.f t122).bind fun t138 => (if fEq t138 0 = true then (if bt128.2 = true then (if (bt128.1.length : Int) = 2 then (if 0 < (bt128.1.length : Int) then (if fEq (rdOf (0 : Nat) bt128.1 0) 3110860544497550640 = true then ((weigh_Heavy.f (([t122, t124, 0, 0] : List Nat))).bind fun t143 => (if t143 = 2 then ((weigh_Heavy.f ([] : List Nat)).bind fun t144 => (if t144 = (-1) then (some true) else (some false))) else (some false))) else (some false)) else (none)) else (some false)) else (some false)) else (some false))) else (some false))))))) else (some false))))) else (some false)))) = some r := H
  have A3 := Aside0.mk A30
  clear A30
  obtain ⟨y125, hy125⟩ : ∃ y_ : List Nat, y_ = (([4607182418800017408, 7598952565167317594] : List Nat)) := ⟨_, rfl⟩
  replace H : ((weigh_Rescale.f k y125).bind fun bt128 => ((weigh_Less.f k t124 0).bind fun t132 => (if t132 = true then ((weigh_Less.f k 0 t124).bind fun t133 => (if t133 = true then (some false) else ((weigh_Less.f k t122 (fNeg t123)).bind fun t134 => (if t134 = true then ((weigh_Less.f k t122 t122).bind fun t135 => (if t135 = true then (some false) else ((weigh_Less.f k t123 t122).bind fun t136 => (if t136 = true then (some false) else ((weigh_Bump.f t123 4607182418800017408).bind fun t137 => (if fEq t137 9218868437227405311 = true then ((weigh_Tame.f t122).bind fun t138 => (if fEq t138 0 = true then (if bt128.2 = true then (if (bt128.1.length : Int) = 2 then (if 0 < (bt128.1.length : Int) then (if fEq (rdOf (0 : Nat) bt128.1 0) 3110860544497550640 = true then ((weigh_Heavy.f (([t122, t124, 0, 0] : List Nat))).bind fun t143 => (if t143 = 2 then ((weigh_Heavy.f ([] : List Nat)).bind fun t144 => (if t144 = (-1) then (some true) else (some false))) else (some false))) else (some false)) else (none)) else (some false)) else (some false)) else (some false))) else (some false))))))) else (some false))))) else (some false)))) = some r := by first | (rw [hy125]; with_reducible exact H) | (have H2_ := (Option.bind_some _ _).symm.trans H; rw [hy125]; with_reducible exact H2_) | (have H2_ := (Option.bind_some _ _).symm.trans H; with_reducible exact H2_) | with_reducible exact H | (rw [hy125]; exact H) | exact H
  have Ny125 := Aside0.mk hy125
  clear hy125
  replace H := Option.bind_eq_some_iff.mp H
  obtain ⟨⟨t128, t129⟩, A40, H⟩ := H
  replace H : ((weigh_Less.f k t124 0).bind fun t132 => (if t132 = true then ((weigh_Less.f k 0 t124).bind fun t133 => (if t133 = true then (some false) else ((weigh_Less.f k t122 (fNeg t123)).bind fun t134 => (if t134 = true then ((weigh_Less.f k t122 t122).bind fun t135 => (if t135 = true then (some false) else ((weigh_Less.f k t123 t122).bind fun t136 => (if t136 = true then (some false) else ((weigh_Bump.f t123 4607182418800017408).bind fun t137 => (if fEq t137 9218868437227405311 = true then ((weigh_Tame.f t122).bind fun t138 => (if fEq t138 0 = true then (if t129 = true then (if (t128.length : Int) = 2 then (if 0 < (t128.length : Int) then (if fEq (rdOf (0 : Nat) t128 0) 3110860544497550640 = true then ((weigh_Heavy.f (([t122, t124, 0, 0] : List Nat))).bind fun t143 => (if t143 = 2 then ((weigh_Heavy.f ([] : List Nat)).bind fun t144 => (if t144 = (-1) then (some true) else (some false))) else (some false))) else (some false)) else (none)) else (some false)) else (some false)) else (some false))) else (some false))))))) else (some false))))) else (some false))) = some r := H
  have A4 := Aside0.mk A40
  clear A40
  replace H := Option.bind_eq_some_iff.mp H
  obtain ⟨t132, A50, H⟩ := H
  replace H : (if t132 = true then ((weigh_Less.f k 0 t124).bind fun t133 => (if t133 = true then (some false) else ((weigh_Less.f k t122 (fNeg t123)).bind fun t134 => (if t134 = true then ((weigh_Less.f k t122 t122).bind fun t135 => (if t135 = true then (some false) else ((weigh_Less.f k t123 t122).bind fun t136 => (if t136 = true then (some false) else ((weigh_Bump.f t123 4607182418800017408).bind fun t137 => (if fEq t137 9218868437227405311 = true then ((weigh_Tame.f t122).bind fun t138 => (if fEq t138 0 = true then (if t129 = true then (if (t128.length : Int) = 2 then (if 0 < (t128.length : Int) then (if fEq (rdOf (0 : Nat) t128 0) 3110860544497550640 = true then ((weigh_Heavy.f (([t122, t124, 0, 0] : List Nat))).bind fun t143 => (if t143 = 2 then ((weigh_Heavy.f ([] : List Nat)).bind fun t144 => (if t144 = (-1) then (some true) else (some false))) else (some false))) else (some false)) else (none)) else (some false)) else (some false)) else (some false))) else (some false))))))) else (some false))))) else (some false)) = some r := H
  have A5 := Aside0.mk A50
  clear A50
  by_cases c6 : t132 = true
  · subst c6
    have H1 : ((weigh_Less.f k 0 t124).bind fun t133 => (if t133 = true then (some false) else ((weigh_Less.f k t122 (fNeg t123)).bind fun t134 => (if t134 = true then ((weigh_Less.f k t122 t122).bind fun t135 => (if t135 = true then (some false) else ((weigh_Less.f k t123 t122).bind fun t136 => (if t136 = true then (some false) else ((weigh_Bump.f t123 4607182418800017408).bind fun t137 => (if fEq t137 9218868437227405311 = true then ((weigh_Tame.f t122).bind fun t138 => (if fEq t138 0 = true then (if t129 = true then (if (t128.length : Int) = 2 then (if 0 < (t128.length : Int) then (if fEq (rdOf (0 : Nat) t128 0) 3110860544497550640 = true then ((weigh_Heavy.f (([t122, t124, 0, 0] : List Nat))).bind fun t143 => (if t143 = 2 then ((weigh_Heavy.f ([] : List Nat)).bind fun t144 => (if t144 = (-1) then (some true) else (some false))) else (some false))) else (some false)) else (none)) else (some false)) else (some false)) else (some false))) else (some false))))))) else (some false))))) = some r := by rw [if_pos rfl] at H; exact H
    clear H
    have H := H1
    clear H1
    replace H := Option.bind_eq_some_iff.mp H
    obtain ⟨t133, A70, H⟩ := H
    replace H : (if t133 = true then (some false) else ((weigh_Less.f k t122 (fNeg t123)).bind fun t134 => (if t134 = true then ((weigh_Less.f k t122 t122).bind fun t135 => (if t135 = true then (some false) else ((weigh_Less.f k t123 t122).bind fun t136 => (if t136 = true then (some false) else ((weigh_Bump.f t123 4607182418800017408).bind fun t137 => (if fEq t137 9218868437227405311 = true then ((weigh_Tame.f t122).bind fun t138 => (if fEq t138 0 = true then (if t129 = true then (if (t128.length : Int) = 2 then (if 0 < (t128.length : Int) then (if fEq (rdOf (0 : Nat) t128 0) 3110860544497550640 = true then ((weigh_Heavy.f (([t122, t124, 0, 0] : List Nat))).bind fun t143 => (if t143 = 2 then ((weigh_Heavy.f ([] : List Nat)).bind fun t144 => (if t144 = (-1) then (some true) else (some false))) else (some false))) else (some false)) else (none)) else (some false)) else (some false)) else (some false))) else (some false))))))) else (some false)))) = some r := H
    have A7 := Aside0.mk A70
    clear A70
    by_cases c8 : t133 = true
    · subst c8
      have H1 : (some false) = some r := by rw [if_pos rfl] at H; exact H
      clear H
      have H := H1
      clear H1
      obtain rfl := Option.some.inj H
      go_enter Try.func12, Try.ntmps12
      go_wp2_with (first | ((with_reducible refine gate_callee (f := 24) rfl ?_); refine goesL_ (some 6) rfl rfl Try.func24 (by kernel_rfl) rfl #[] rfl (by (try simp only [List.map_toArray, List.map_cons, List.map_nil]); first | done | rfl | (simp only [List.length_drop, List.length_take]; rfl)) ?_; (with_reducible refine (math_NaN.calls  t122 _ A1.out).mono ?_); rintro e w' ⟨rfl, ⟨nd, rfl⟩⟩; refine ⟨_, rfl, ?_⟩) | ((with_reducible refine gate_callee (f := 33) rfl ?_); refine goesL_ (some 7) rfl rfl Try.func33 (by kernel_rfl) rfl #[.int .i64 1] rfl (by (try simp only [List.map_toArray, List.map_cons, List.map_nil]); first | done | rfl | (simp only [List.length_drop, List.length_take]; rfl)) ?_; (with_reducible refine (math_Inf.calls 1 t123 _ A2.out).mono ?_); rintro e w' ⟨rfl, ⟨nd, rfl⟩⟩; refine ⟨_, rfl, ?_⟩) | ((with_reducible refine gate_callee (f := 34) rfl ?_); refine goesL_ (some 8) rfl rfl Try.func34 (by kernel_rfl) rfl #[.float .f64 0, .float .f64 13830554455654793216] rfl (by (try simp only [List.map_toArray, List.map_cons, List.map_nil]); first | done | rfl | (simp only [List.length_drop, List.length_take]; rfl)) ?_; (with_reducible refine (math_Copysign.calls 0 13830554455654793216 t124 _ A3.out).mono ?_); rintro e w' ⟨rfl, ⟨nd, rfl⟩⟩; refine ⟨_, rfl, ?_⟩) | ((with_reducible refine gate_dst (N := 10) rfl ?_); (try (refine gate_guard (by rfl) ?_; dsimp only)); refine Kd.R_lit Kd.f64 _ 30 ?hg (N := 10) ?hd (xs := ([4607182418800017408, 7598952565167317594] : List Nat)) (inner := [.float .f64 4607182418800017408, .float .f64 7598952565167317594]) (ok := fun _ => True) (okp := fun _ => True) ?hr ?hp (fun _ hk => hk) trivial (Below.refl _ _) (Nat.le_refl _) (by simp) ?_; (case hd => rfl); (case hg => rfl); (case hr => first | (go_simp; done) | (go_simp; rfl)); (case hp => exact (Reps.one (show Kd.M Kd.f64 _ _ _ 4607182418800017408 [.float .f64 4607182418800017408] from rfl) (Reps.one (show Kd.M Kd.f64 _ _ _ 7598952565167317594 [.float .f64 7598952565167317594] from rfl) (Reps.none _ _)))); intro v126 w9 ho10 hb hg_ hnew_; clear hg_ hnew_; (first | rw [← Ny125.out] at ho10 | (simp only [Int.reduceToNat] at ho10; rw [← Ny125.out] at ho10)); have n0_ := Aside0.mk (Kd.R_lower ho10 (below_size (by repeat (first | (with_reducible first | exact HB.out | apply below_alloc | apply pw_below_drewN | apply below_drew1) | exact HB.out)))); have n1_ := Aside0.mk (below_step (by repeat (first | (with_reducible first | exact HB.out | apply below_alloc | apply pw_below_drewN | apply below_drew1) | exact HB.out)) hb); clear HB; have HO127 := n0_; have HB := n1_; clear n0_ n1_; clear hb ho10; obtain ⟨Ao11, co11, eo11⟩ := Kd.R_slice HO127.out; subst eo11) | ((with_reducible refine gate_callee (f := 14) rfl ?_); refine goesL_ (some 11) rfl rfl Try.func14 (by kernel_rfl) rfl #[.slice Ao11 y125.length co11] rfl (by (try simp only [List.map_toArray, List.map_cons, List.map_nil]); first | done | rfl | (simp only [List.length_drop, List.length_take]; rfl)) ?_; (with_reducible refine (weigh_Rescale.calls k _ _ y125 t128 t129 _ ?side1 ?side2 A4.out).mono ?_); (case side1 => repeat (first | exact (Kd.R_reads' HO127.out).2.2 | (with_reducible refine Kd.C_alloc ?_ _) | (with_reducible refine Kd.C_drewN ?_ _) | (with_reducible refine Kd.C_drew ?_))); (case side2 => exact (Kd.R_reads' HO127.out).2.1); rintro e w12 ⟨v130, rfl, ho0, hb⟩; refine ⟨_, rfl, ?_⟩; have n0_ := Aside0.mk (Kd.R_elder' (by (with_reducible repeat (first | apply Kd.R_alloc | apply Kd.R_drewN | apply Kd.R_drew)); exact HO127.out) (Kd.R_base ho0) hb); have n1_ := Aside0.mk (Kd.R_lower (Kd.R_new' ho0 (Kd.R_lt (by (with_reducible repeat (first | apply Kd.R_alloc | apply Kd.R_drewN | apply Kd.R_drew)); exact HO127.out))) (below_size (by repeat (first | (with_reducible first | exact HB.out | apply below_alloc | apply pw_below_drewN | apply below_drew1) | exact HB.out)))); have n2_ := Aside0.mk (below_step (by repeat (first | (with_reducible first | exact HB.out | apply below_alloc | apply pw_below_drewN | apply below_drew1) | exact HB.out)) hb); clear HO127; clear HB; have HO127 := n0_; have HO131 := n1_; have HB := n2_; clear n0_ n1_ n2_; (try clear hb); (try clear hb2); (try clear hk); (try clear hi); (try clear ho0)) | ((with_reducible refine gate_callee (f := 21) rfl ?_); refine goesL_ (some 15) rfl rfl Try.func21 (by kernel_rfl) rfl #[.float .f64 t124, .float .f64 0] rfl (by (try simp only [List.map_toArray, List.map_cons, List.map_nil]); first | done | rfl | (simp only [List.length_drop, List.length_take]; rfl)) ?_; (with_reducible refine (weigh_Less.calls k t124 0 true _ A5.out).mono ?_); rintro e w' ⟨rfl, ⟨nd, rfl⟩⟩; refine ⟨_, rfl, ?_⟩) | (go_at_call 21; (with_reducible refine (weigh_Less.calls k 0 t124 true _ A7.out).mono ?_); rintro e w' ⟨rfl, ⟨nd, rfl⟩⟩))
      go_ret
      exact ⟨by first | rfl | (simp [errW_none, errW_some] <;> rfl) | (simp [*, errW_none, errW_some] <;> rfl), by repeat (first | (with_reducible first | exact HB.out | apply below_alloc | apply pw_below_drewN | apply below_drew1) | exact HB.out)⟩
    · replace c8 := Bool.eq_false_iff.mpr c8
      subst c8
      have H1 : ((weigh_Less.f k t122 (fNeg t123)).bind fun t134 => (if t134 = true then ((weigh_Less.f k t122 t122).bind fun t135 => (if t135 = true then (some false) else ((weigh_Less.f k t123 t122).bind fun t136 => (if t136 = true then (some false) else ((weigh_Bump.f t123 4607182418800017408).bind fun t137 => (if fEq t137 9218868437227405311 = true then ((weigh_Tame.f t122).bind fun t138 => (if fEq t138 0 = true then (if t129 = true then (if (t128.length : Int) = 2 then (if 0 < (t128.length : Int) then (if fEq (rdOf (0 : Nat) t128 0) 3110860544497550640 = true then ((weigh_Heavy.f (([t122, t124, 0, 0] : List Nat))).bind fun t143 => (if t143 = 2 then ((weigh_Heavy.f ([] : List Nat)).bind fun t144 => (if t144 = (-1) then (some true) else (some false))) else (some false))) else (some false)) else (none)) else (some false)) else (some false)) else (some false))) else (some false))))))) else (some false))) = some r := by rw [if_neg (show ¬ (false = true) by decide)] at H; exact H
      clear H
      have H := H1
      clear H1
      replace H := Option.bind_eq_some_iff.mp H
      obtain ⟨t134, A130, H⟩ := H
      replace H : (if t134 = true then ((weigh_Less.f k t122 t122).bind fun t135 => (if t135 = true then (some false) else ((weigh_Less.f k t123 t122).bind fun t136 => (if t136 = true then (some false) else ((weigh_Bump.f t123 4607182418800017408).bind fun t137 => (if fEq t137 9218868437227405311 = true then ((weigh_Tame.f t122).bind fun t138 => (if fEq t138 0 = true then (if t129 = true then (if (t128.length : Int) = 2 then (if 0 < (t128.length : Int) then (if fEq (rdOf (0 : Nat) t128 0) 3110860544497550640 = true then ((weigh_Heavy.f (([t122, t124, 0, 0] : List Nat))).bind fun t143 => (if t143 = 2 then ((weigh_Heavy.f ([] : List Nat)).bind fun t144 => (if t144 = (-1) then (some true) else (some false))) else (some false))) else (some false)) else (none)) else (some false)) else (some false)) else (some false))) else (some false))))))) else (some false)) = some r := H
      have A13 := Aside0.mk A130
      clear A130
      by_cases c14 : t134 = true
      · subst c14
        have H1 : ((weigh_Less.f k t122 t122).bind fun t135 => (if t135 = true then (some false) else ((weigh_Less.f k t123 t122).bind fun t136 => (if t136 = true then (some false) else ((weigh_Bump.f t123 4607182418800017408).bind fun t137 => (if fEq t137 9218868437227405311 = true then ((weigh_Tame.f t122).bind fun t138 => (if fEq t138 0 = true then (if t129 = true then (if (t128.length : Int) = 2 then (if 0 < (t128.length : Int) then (if fEq (rdOf (0 : Nat) t128 0) 3110860544497550640 = true then ((weigh_Heavy.f (([t122, t124, 0, 0] : List Nat))).bind fun t143 => (if t143 = 2 then ((weigh_Heavy.f ([] : List Nat)).bind fun t144 => (if t144 = (-1) then (some true) else (some false))) else (some false))) else (some false)) else (none)) else (some false)) else (some false)) else (some false))) else (some false))))))) = some r := by rw [if_pos rfl] at H; exact H
        clear H
        have H := H1
        clear H1
        replace H := Option.bind_eq_some_iff.mp H
        obtain ⟨t135, A150, H⟩ := H
        replace H : (if t135 = true then (some false) else ((weigh_Less.f k t123 t122).bind fun t136 => (if t136 = true then (some false) else ((weigh_Bump.f t123 4607182418800017408).bind fun t137 => (if fEq t137 9218868437227405311 = true then ((weigh_Tame.f t122).bind fun t138 => (if fEq t138 0 = true then (if t129 = true then (if (t128.length : Int) = 2 then (if 0 < (t128.length : Int) then (if fEq (rdOf (0 : Nat) t128 0) 3110860544497550640 = true then ((weigh_Heavy.f (([t122, t124, 0, 0] : List Nat))).bind fun t143 => (if t143 = 2 then ((weigh_Heavy.f ([] : List Nat)).bind fun t144 => (if t144 = (-1) then (some true) else (some false))) else (some false))) else (some false)) else (none)) else (some false)) else (some false)) else (some false))) else (some false)))))) = some r := H
        have A15 := Aside0.mk A150
        clear A150
        by_cases c16 : t135 = true
        · subst c16
          have H1 : (some false) = some r := by rw [if_pos rfl] at H; exact H
          clear H
          have H := H1
          clear H1
          obtain rfl := Option.some.inj H
          go_enter Try.func12, Try.ntmps12
          go_wp2_with (first | ((with_reducible refine gate_callee (f := 24) rfl ?_); refine goesL_ (some 6) rfl rfl Try.func24 (by kernel_rfl) rfl #[] rfl (by (try simp only [List.map_toArray, List.map_cons, List.map_nil]); first | done | rfl | (simp only [List.length_drop, List.length_take]; rfl)) ?_; (with_reducible refine (math_NaN.calls  t122 _ A1.out).mono ?_); rintro e w' ⟨rfl, ⟨nd, rfl⟩⟩; refine ⟨_, rfl, ?_⟩) | ((with_reducible refine gate_callee (f := 33) rfl ?_); refine goesL_ (some 7) rfl rfl Try.func33 (by kernel_rfl) rfl #[.int .i64 1] rfl (by (try simp only [List.map_toArray, List.map_cons, List.map_nil]); first | done | rfl | (simp only [List.length_drop, List.length_take]; rfl)) ?_; (with_reducible refine (math_Inf.calls 1 t123 _ A2.out).mono ?_); rintro e w' ⟨rfl, ⟨nd, rfl⟩⟩; refine ⟨_, rfl, ?_⟩) | ((with_reducible refine gate_callee (f := 34) rfl ?_); refine goesL_ (some 8) rfl rfl Try.func34 (by kernel_rfl) rfl #[.float .f64 0, .float .f64 13830554455654793216] rfl (by (try simp only [List.map_toArray, List.map_cons, List.map_nil]); first | done | rfl | (simp only [List.length_drop, List.length_take]; rfl)) ?_; (with_reducible refine (math_Copysign.calls 0 13830554455654793216 t124 _ A3.out).mono ?_); rintro e w' ⟨rfl, ⟨nd, rfl⟩⟩; refine ⟨_, rfl, ?_⟩) | ((with_reducible refine gate_dst (N := 10) rfl ?_); (try (refine gate_guard (by rfl) ?_; dsimp only)); refine Kd.R_lit Kd.f64 _ 30 ?hg (N := 10) ?hd (xs := ([4607182418800017408, 7598952565167317594] : List Nat)) (inner := [.float .f64 4607182418800017408, .float .f64 7598952565167317594]) (ok := fun _ => True) (okp := fun _ => True) ?hr ?hp (fun _ hk => hk) trivial (Below.refl _ _) (Nat.le_refl _) (by simp) ?_; (case hd => rfl); (case hg => rfl); (case hr => first | (go_simp; done) | (go_simp; rfl)); (case hp => exact (Reps.one (show Kd.M Kd.f64 _ _ _ 4607182418800017408 [.float .f64 4607182418800017408] from rfl) (Reps.one (show Kd.M Kd.f64 _ _ _ 7598952565167317594 [.float .f64 7598952565167317594] from rfl) (Reps.none _ _)))); intro v126 w17 ho18 hb hg_ hnew_; clear hg_ hnew_; (first | rw [← Ny125.out] at ho18 | (simp only [Int.reduceToNat] at ho18; rw [← Ny125.out] at ho18)); have n0_ := Aside0.mk (Kd.R_lower ho18 (below_size (by repeat (first | (with_reducible first | exact HB.out | apply below_alloc | apply pw_below_drewN | apply below_drew1) | exact HB.out)))); have n1_ := Aside0.mk (below_step (by repeat (first | (with_reducible first | exact HB.out | apply below_alloc | apply pw_below_drewN | apply below_drew1) | exact HB.out)) hb); clear HB; have HO127 := n0_; have HB := n1_; clear n0_ n1_; clear hb ho18; obtain ⟨Ao19, co19, eo19⟩ := Kd.R_slice HO127.out; subst eo19) | ((with_reducible refine gate_callee (f := 14) rfl ?_); refine goesL_ (some 11) rfl rfl Try.func14 (by kernel_rfl) rfl #[.slice Ao19 y125.length co19] rfl (by (try simp only [List.map_toArray, List.map_cons, List.map_nil]); first | done | rfl | (simp only [List.length_drop, List.length_take]; rfl)) ?_; (with_reducible refine (weigh_Rescale.calls k _ _ y125 t128 t129 _ ?side1 ?side2 A4.out).mono ?_); (case side1 => repeat (first | exact (Kd.R_reads' HO127.out).2.2 | (with_reducible refine Kd.C_alloc ?_ _) | (with_reducible refine Kd.C_drewN ?_ _) | (with_reducible refine Kd.C_drew ?_))); (case side2 => exact (Kd.R_reads' HO127.out).2.1); rintro e w20 ⟨v130, rfl, ho0, hb⟩; refine ⟨_, rfl, ?_⟩; have n0_ := Aside0.mk (Kd.R_elder' (by (with_reducible repeat (first | apply Kd.R_alloc | apply Kd.R_drewN | apply Kd.R_drew)); exact HO127.out) (Kd.R_base ho0) hb); have n1_ := Aside0.mk (Kd.R_lower (Kd.R_new' ho0 (Kd.R_lt (by (with_reducible repeat (first | apply Kd.R_alloc | apply Kd.R_drewN | apply Kd.R_drew)); exact HO127.out))) (below_size (by repeat (first | (with_reducible first | exact HB.out | apply below_alloc | apply pw_below_drewN | apply below_drew1) | exact HB.out)))); have n2_ := Aside0.mk (below_step (by repeat (first | (with_reducible first | exact HB.out | apply below_alloc | apply pw_below_drewN | apply below_drew1) | exact HB.out)) hb); clear HO127; clear HB; have HO127 := n0_; have HO131 := n1_; have HB := n2_; clear n0_ n1_ n2_; (try clear hb); (try clear hb2); (try clear hk); (try clear hi); (try clear ho0)) | ((with_reducible refine gate_callee (f := 21) rfl ?_); refine goesL_ (some 15) rfl rfl Try.func21 (by kernel_rfl) rfl #[.float .f64 t124, .float .f64 0] rfl (by (try simp only [List.map_toArray, List.map_cons, List.map_nil]); first | done | rfl | (simp only [List.length_drop, List.length_take]; rfl)) ?_; (with_reducible refine (weigh_Less.calls k t124 0 true _ A5.out).mono ?_); rintro e w' ⟨rfl, ⟨nd, rfl⟩⟩; refine ⟨_, rfl, ?_⟩) | (go_at_call 21; (with_reducible refine (weigh_Less.calls k 0 t124 false _ A7.out).mono ?_); rintro e w' ⟨rfl, ⟨nd, rfl⟩⟩) | (go_at_call 21; (with_reducible refine (weigh_Less.calls k t122 (fNeg t123) true _ A13.out).mono ?_); rintro e w' ⟨rfl, ⟨nd, rfl⟩⟩) | (go_at_call 21; (with_reducible refine (weigh_Less.calls k t122 t122 true _ A15.out).mono ?_); rintro e w' ⟨rfl, ⟨nd, rfl⟩⟩))
          go_ret
          exact ⟨by first | rfl | (simp [errW_none, errW_some] <;> rfl) | (simp [*, errW_none, errW_some] <;> rfl), by repeat (first | (with_reducible first | exact HB.out | apply below_alloc | apply pw_below_drewN | apply below_drew1) | exact HB.out)⟩
        · replace c16 := Bool.eq_false_iff.mpr c16
          subst c16
          have H1 : ((weigh_Less.f k t123 t122).bind fun t136 => (if t136 = true then (some false) else ((weigh_Bump.f t123 4607182418800017408).bind fun t137 => (if fEq t137 9218868437227405311 = true then ((weigh_Tame.f t122).bind fun t138 => (if fEq t138 0 = true then (if t129 = true then (if (t128.length : Int) = 2 then (if 0 < (t128.length : Int) then (if fEq (rdOf (0 : Nat) t128 0) 3110860544497550640 = true then ((weigh_Heavy.f (([t122, t124, 0, 0] : List Nat))).bind fun t143 => (if t143 = 2 then ((weigh_Heavy.f ([] : List Nat)).bind fun t144 => (if t144 = (-1) then (some true) else (some false))) else (some false))) else (some false)) else (none)) else (some false)) else (some false)) else (some false))) else (some false))))) = some r := by rw [if_neg (show ¬ (false = true) by decide)] at H; exact H
          clear H
          have H := H1
          clear H1
          replace H := Option.bind_eq_some_iff.mp H
          obtain ⟨t136, A210, H⟩ := H
          replace H : (if t136 = true then (some false) else ((weigh_Bump.f t123 4607182418800017408).bind fun t137 => (if fEq t137 9218868437227405311 = true then ((weigh_Tame.f t122).bind fun t138 => (if fEq t138 0 = true then (if t129 = true then (if (t128.length : Int) = 2 then (if 0 < (t128.length : Int) then (if fEq (rdOf (0 : Nat) t128 0) 3110860544497550640 = true then ((weigh_Heavy.f (([t122, t124, 0, 0] : List Nat))).bind fun t143 => (if t143 = 2 then ((weigh_Heavy.f ([] : List Nat)).bind fun t144 => (if t144 = (-1) then (some true) else (some false))) else (some false))) else (some false)) else (none)) else (some false)) else (some false)) else (some false))) else (some false)))) = some r := H
          have A21 := Aside0.mk A210
          clear A210
          by_cases c22 : t136 = true
          · subst c22
            have H1 : (some false) = some r := by rw [if_pos rfl] at H; exact H
            clear H
            have H := H1
            clear H1
            obtain rfl := Option.some.inj H
            go_enter Try.func12, Try.ntmps12
            go_wp2_with (first | ((with_reducible refine gate_callee (f := 24) rfl ?_); refine goesL_ (some 6) rfl rfl Try.func24 (by kernel_rfl) rfl #[] rfl (by (try simp only [List.map_toArray, List.map_cons, List.map_nil]); first | done | rfl | (simp only [List.length_drop, List.length_take]; rfl)) ?_; (with_reducible refine (math_NaN.calls  t122 _ A1.out).mono ?_); rintro e w' ⟨rfl, ⟨nd, rfl⟩⟩; refine ⟨_, rfl, ?_⟩) | ((with_reducible refine gate_callee (f := 33) rfl ?_); refine goesL_ (some 7) rfl rfl Try.func33 (by kernel_rfl) rfl #[.int .i64 1] rfl (by (try simp only [List.map_toArray, List.map_cons, List.map_nil]); first | done | rfl | (simp only [List.length_drop, List.length_take]; rfl)) ?_; (with_reducible refine (math_Inf.calls 1 t123 _ A2.out).mono ?_); rintro e w' ⟨rfl, ⟨nd, rfl⟩⟩; refine ⟨_, rfl, ?_⟩) | ((with_reducible refine gate_callee (f := 34) rfl ?_); refine goesL_ (some 8) rfl rfl Try.func34 (by kernel_rfl) rfl #[.float .f64 0, .float .f64 13830554455654793216] rfl (by (try simp only [List.map_toArray, List.map_cons, List.map_nil]); first | done | rfl | (simp only [List.length_drop, List.length_take]; rfl)) ?_; (with_reducible refine (math_Copysign.calls 0 13830554455654793216 t124 _ A3.out).mono ?_); rintro e w' ⟨rfl, ⟨nd, rfl⟩⟩; refine ⟨_, rfl, ?_⟩) | ((with_reducible refine gate_dst (N := 10) rfl ?_); (try (refine gate_guard (by rfl) ?_; dsimp only)); refine Kd.R_lit Kd.f64 _ 30 ?hg (N := 10) ?hd (xs := ([4607182418800017408, 7598952565167317594] : List Nat)) (inner := [.float .f64 4607182418800017408, .float .f64 7598952565167317594]) (ok := fun _ => True) (okp := fun _ => True) ?hr ?hp (fun _ hk => hk) trivial (Below.refl _ _) (Nat.le_refl _) (by simp) ?_; (case hd => rfl); (case hg => rfl); (case hr => first | (go_simp; done) | (go_simp; rfl)); (case hp => exact (Reps.one (show Kd.M Kd.f64 _ _ _ 4607182418800017408 [.float .f64 4607182418800017408] from rfl) (Reps.one (show Kd.M Kd.f64 _ _ _ 7598952565167317594 [.float .f64 7598952565167317594] from rfl) (Reps.none _ _)))); intro v126 w23 ho24 hb hg_ hnew_; clear hg_ hnew_; (first | rw [← Ny125.out] at ho24 | (simp only [Int.reduceToNat] at ho24; rw [← Ny125.out] at ho24)); have n0_ := Aside0.mk (Kd.R_lower ho24 (below_size (by repeat (first | (with_reducible first | exact HB.out | apply below_alloc | apply pw_below_drewN | apply below_drew1) | exact HB.out)))); have n1_ := Aside0.mk (below_step (by repeat (first | (with_reducible first | exact HB.out | apply below_alloc | apply pw_below_drewN | apply below_drew1) | exact HB.out)) hb); clear HB; have HO127 := n0_; have HB := n1_; clear n0_ n1_; clear hb ho24; obtain ⟨Ao25, co25, eo25⟩ := Kd.R_slice HO127.out; subst eo25) | ((with_reducible refine gate_callee (f := 14) rfl ?_); refine goesL_ (some 11) rfl rfl Try.func14 (by kernel_rfl) rfl #[.slice Ao25 y125.length co25] rfl (by (try simp only [List.map_toArray, List.map_cons, List.map_nil]); first | done | rfl | (simp only [List.length_drop, List.length_take]; rfl)) ?_; (with_reducible refine (weigh_Rescale.calls k _ _ y125 t128 t129 _ ?side1 ?side2 A4.out).mono ?_); (case side1 => repeat (first | exact (Kd.R_reads' HO127.out).2.2 | (with_reducible refine Kd.C_alloc ?_ _) | (with_reducible refine Kd.C_drewN ?_ _) | (with_reducible refine Kd.C_drew ?_))); (case side2 => exact (Kd.R_reads' HO127.out).2.1); rintro e w26 ⟨v130, rfl, ho0, hb⟩; refine ⟨_, rfl, ?_⟩; have n0_ := Aside0.mk (Kd.R_elder' (by (with_reducible repeat (first | apply Kd.R_alloc | apply Kd.R_drewN | apply Kd.R_drew)); exact HO127.out) (Kd.R_base ho0) hb); have n1_ := Aside0.mk (Kd.R_lower (Kd.R_new' ho0 (Kd.R_lt (by (with_reducible repeat (first | apply Kd.R_alloc | apply Kd.R_drewN | apply Kd.R_drew)); exact HO127.out))) (below_size (by repeat (first | (with_reducible first | exact HB.out | apply below_alloc | apply pw_below_drewN | apply below_drew1) | exact HB.out)))); have n2_ := Aside0.mk (below_step (by repeat (first | (with_reducible first | exact HB.out | apply below_alloc | apply pw_below_drewN | apply below_drew1) | exact HB.out)) hb); clear HO127; clear HB; have HO127 := n0_; have HO131 := n1_; have HB := n2_; clear n0_ n1_ n2_; (try clear hb); (try clear hb2); (try clear hk); (try clear hi); (try clear ho0)) | ((with_reducible refine gate_callee (f := 21) rfl ?_); refine goesL_ (some 15) rfl rfl Try.func21 (by kernel_rfl) rfl #[.float .f64 t124, .float .f64 0] rfl (by (try simp only [List.map_toArray, List.map_cons, List.map_nil]); first | done | rfl | (simp only [List.length_drop, List.length_take]; rfl)) ?_; (with_reducible refine (weigh_Less.calls k t124 0 true _ A5.out).mono ?_); rintro e w' ⟨rfl, ⟨nd, rfl⟩⟩; refine ⟨_, rfl, ?_⟩) | (go_at_call 21; (with_reducible refine (weigh_Less.calls k 0 t124 false _ A7.out).mono ?_); rintro e w' ⟨rfl, ⟨nd, rfl⟩⟩) | (go_at_call 21; (with_reducible refine (weigh_Less.calls k t122 (fNeg t123) true _ A13.out).mono ?_); rintro e w' ⟨rfl, ⟨nd, rfl⟩⟩) | (go_at_call 21; (with_reducible refine (weigh_Less.calls k t122 t122 false _ A15.out).mono ?_); rintro e w' ⟨rfl, ⟨nd, rfl⟩⟩) | (go_at_call 21; (with_reducible refine (weigh_Less.calls k t123 t122 true _ A21.out).mono ?_); rintro e w' ⟨rfl, ⟨nd, rfl⟩⟩))
            go_ret
            exact ⟨by first | rfl | (simp [errW_none, errW_some] <;> rfl) | (simp [*, errW_none, errW_some] <;> rfl), by repeat (first | (with_reducible first | exact HB.out | apply below_alloc | apply pw_below_drewN | apply below_drew1) | exact HB.out)⟩
          · replace c22 := Bool.eq_false_iff.mpr c22
            subst c22
            have H1 : ((weigh_Bump.f t123 4607182418800017408).bind fun t137 => (if fEq t137 9218868437227405311 = true then ((weigh_Tame.f t122).bind fun t138 => (if fEq t138 0 = true then (if t129 = true then (if (t128.length : Int) = 2 then (if 0 < (t128.length : Int) then (if fEq (rdOf (0 : Nat) t128 0) 3110860544497550640 = true then ((weigh_Heavy.f (([t122, t124, 0, 0] : List Nat))).bind fun t143 => (if t143 = 2 then ((weigh_Heavy.f ([] : List Nat)).bind fun t144 => (if t144 = (-1) then (some true) else (some false))) else (some false))) else (some false)) else (none)) else (some false)) else (some false)) else (some false))) else (some false))) = some r := by rw [if_neg (show ¬ (false = true) by decide)] at H; exact H
            clear H
            have H := H1
            clear H1
            replace H := Option.bind_eq_some_iff.mp H
            obtain ⟨t137, A270, H⟩ := H
            replace H : (if fEq t137 9218868437227405311 = true then ((weigh_Tame.f t122).bind fun t138 => (if fEq t138 0 = true then (if t129 = true then (if (t128.length : Int) = 2 then (if 0 < (t128.length : Int) then (if fEq (rdOf (0 : Nat) t128 0) 3110860544497550640 = true then ((weigh_Heavy.f (([t122, t124, 0, 0] : List Nat))).bind fun t143 => (if t143 = 2 then ((weigh_Heavy.f ([] : List Nat)).bind fun t144 => (if t144 = (-1) then (some true) else (some false))) else (some false))) else (some false)) else (none)) else (some false)) else (some false)) else (some false))) else (some false)) = some r := H
            have A27 := Aside0.mk A270
            clear A270
            by_cases c28 : fEq t137 9218868437227405311 = true
            · rw [if_pos c28] at H
              have c28b0 : fEq t137 9218868437227405311 = true := c28
              clear c28
              replace H := Option.bind_eq_some_iff.mp H
              obtain ⟨t138, A290, H⟩ := H
              replace H : (if fEq t138 0 = true then (if t129 = true then (if (t128.length : Int) = 2 then (if 0 < (t128.length : Int) then (if fEq (rdOf (0 : Nat) t128 0) 3110860544497550640 = true then ((weigh_Heavy.f (([t122, t124, 0, 0] : List Nat))).bind fun t143 => (if t143 = 2 then ((weigh_Heavy.f ([] : List Nat)).bind fun t144 => (if t144 = (-1) then (some true) else (some false))) else (some false))) else (some false)) else (none)) else (some false)) else (some false)) else (some false)) = some r := H
              have A29 := Aside0.mk A290
              clear A290
              by_cases c30 : fEq t138 0 = true
              · rw [if_pos c30] at H
                have c30b0 : fEq t138 0 = true := c30
                clear c30
                by_cases c31 : t129 = true
                · subst c31
                  have H1 : (if (t128.length : Int) = 2 then (if 0 < (t128.length : Int) then (if fEq (rdOf (0 : Nat) t128 0) 3110860544497550640 = true then ((weigh_Heavy.f (([t122, t124, 0, 0] : List Nat))).bind fun t143 => (if t143 = 2 then ((weigh_Heavy.f ([] : List Nat)).bind fun t144 => (if t144 = (-1) then (some true) else (some false))) else (some false))) else (some false)) else (none)) else (some false)) = some r := by rw [if_pos rfl] at H; exact H
                  clear H
                  have H := H1
                  clear H1
                  by_cases c32 : (t128.length : Int) = 2
                  · rw [if_pos c32] at H
                    have c32b0 : ((t128.length : Int) == 2) = true := beq_iff_eq.mpr c32
                    have c32b1 : ((t128.length : Int) != 2) = false := bne_eq_false_iff_eq.mpr c32
                    clear c32
                    by_cases c33 : 0 < (t128.length : Int)
                    · rw [if_pos c33] at H
                      have c33b0 : decide (0 < (t128.length : Int)) = true := decide_eq_true c33
                      have c33b1 : decide (0 < t128.length) = true := decide_eq_true (by omega)
                      clear c33
                      by_cases c34 : fEq (rdOf (0 : Nat) t128 0) 3110860544497550640 = true
                      · rw [if_pos c34] at H
                        have c34b0 : fEq (rdOf (0 : Nat) t128 0) 3110860544497550640 = true := c34
                        clear c34
                        obtain ⟨y140, hy140⟩ : ∃ y_ : List Nat, y_ = (([t122, t124, 0, 0] : List Nat)) := ⟨_, rfl⟩
                        replace H : ((weigh_Heavy.f y140).bind fun t143 => (if t143 = 2 then ((weigh_Heavy.f ([] : List Nat)).bind fun t144 => (if t144 = (-1) then (some true) else (some false))) else (some false))) = some r := by first | (rw [hy140]; with_reducible exact H) | (have H2_ := (Option.bind_some _ _).symm.trans H; rw [hy140]; with_reducible exact H2_) | (have H2_ := (Option.bind_some _ _).symm.trans H; with_reducible exact H2_) | with_reducible exact H | (rw [hy140]; exact H) | exact H
                        have Ny140 := Aside0.mk hy140
                        clear hy140
                        replace H := Option.bind_eq_some_iff.mp H
                        obtain ⟨t143, A350, H⟩ := H
                        replace H : (if t143 = 2 then ((weigh_Heavy.f ([] : List Nat)).bind fun t144 => (if t144 = (-1) then (some true) else (some false))) else (some false)) = some r := H
                        have A35 := Aside0.mk A350
                        clear A350
                        by_cases c36 : t143 = 2
                        · rw [if_pos c36] at H
                          have c36b0 : (t143 == 2) = true := beq_iff_eq.mpr c36
                          have c36b1 : (t143 != 2) = false := bne_eq_false_iff_eq.mpr c36
                          clear c36
                          replace H := Option.bind_eq_some_iff.mp H
                          obtain ⟨t144, A370, H⟩ := H
                          replace H : (if t144 = (-1) then (some true) else (some false)) = some r := H
                          have A37 := Aside0.mk A370
                          clear A370
                          by_cases c38 : t144 = (-1)
                          · rw [if_pos c38] at H
                            have c38b0 : (t144 == (-1)) = true := beq_iff_eq.mpr c38
                            have c38b1 : (t144 != (-1)) = false := bne_eq_false_iff_eq.mpr c38
                            clear c38
                            obtain rfl := Option.some.inj H
                            go_enter Try.func12, Try.ntmps12
                            go_wp2_with (first | ((with_reducible refine gate_callee (f := 24) rfl ?_); refine goesL_ (some 6) rfl rfl Try.func24 (by kernel_rfl) rfl #[] rfl (by (try simp only [List.map_toArray, List.map_cons, List.map_nil]); first | done | rfl | (simp only [List.length_drop, List.length_take]; rfl)) ?_; (with_reducible refine (math_NaN.calls  t122 _ A1.out).mono ?_); rintro e w' ⟨rfl, ⟨nd, rfl⟩⟩; refine ⟨_, rfl, ?_⟩) | ((with_reducible refine gate_callee (f := 33) rfl ?_); refine goesL_ (some 7) rfl rfl Try.func33 (by kernel_rfl) rfl #[.int .i64 1] rfl (by (try simp only [List.map_toArray, List.map_cons, List.map_nil]); first | done | rfl | (simp only [List.length_drop, List.length_take]; rfl)) ?_; (with_reducible refine (math_Inf.calls 1 t123 _ A2.out).mono ?_); rintro e w' ⟨rfl, ⟨nd, rfl⟩⟩; refine ⟨_, rfl, ?_⟩) | ((with_reducible refine gate_callee (f := 34) rfl ?_); refine goesL_ (some 8) rfl rfl Try.func34 (by kernel_rfl) rfl #[.float .f64 0, .float .f64 13830554455654793216] rfl (by (try simp only [List.map_toArray, List.map_cons, List.map_nil]); first | done | rfl | (simp only [List.length_drop, List.length_take]; rfl)) ?_; (with_reducible refine (math_Copysign.calls 0 13830554455654793216 t124 _ A3.out).mono ?_); rintro e w' ⟨rfl, ⟨nd, rfl⟩⟩; refine ⟨_, rfl, ?_⟩) | ((with_reducible refine gate_dst (N := 10) rfl ?_); (try (refine gate_guard (by rfl) ?_; dsimp only)); refine Kd.R_lit Kd.f64 _ 30 ?hg (N := 10) ?hd (xs := ([4607182418800017408, 7598952565167317594] : List Nat)) (inner := [.float .f64 4607182418800017408, .float .f64 7598952565167317594]) (ok := fun _ => True) (okp := fun _ => True) ?hr ?hp (fun _ hk => hk) trivial (Below.refl _ _) (Nat.le_refl _) (by simp) ?_; (case hd => rfl); (case hg => rfl); (case hr => first | (go_simp; done) | (go_simp; rfl)); (case hp => exact (Reps.one (show Kd.M Kd.f64 _ _ _ 4607182418800017408 [.float .f64 4607182418800017408] from rfl) (Reps.one (show Kd.M Kd.f64 _ _ _ 7598952565167317594 [.float .f64 7598952565167317594] from rfl) (Reps.none _ _)))); intro v126 w39 ho40 hb hg_ hnew_; clear hg_ hnew_; (first | rw [← Ny125.out] at ho40 | (simp only [Int.reduceToNat] at ho40; rw [← Ny125.out] at ho40)); have n0_ := Aside0.mk (Kd.R_lower ho40 (below_size (by repeat (first | (with_reducible first | exact HB.out | apply below_alloc | apply pw_below_drewN | apply below_drew1) | exact HB.out)))); have n1_ := Aside0.mk (below_step (by repeat (first | (with_reducible first | exact HB.out | apply below_alloc | apply pw_below_drewN | apply below_drew1) | exact HB.out)) hb); clear HB; have HO127 := n0_; have HB := n1_; clear n0_ n1_; clear hb ho40; obtain ⟨Ao41, co41, eo41⟩ := Kd.R_slice HO127.out; subst eo41) | ((with_reducible refine gate_callee (f := 14) rfl ?_); refine goesL_ (some 11) rfl rfl Try.func14 (by kernel_rfl) rfl #[.slice Ao41 y125.length co41] rfl (by (try simp only [List.map_toArray, List.map_cons, List.map_nil]); first | done | rfl | (simp only [List.length_drop, List.length_take]; rfl)) ?_; (with_reducible refine (weigh_Rescale.calls k _ _ y125 t128 true _ ?side1 ?side2 A4.out).mono ?_); (case side1 => repeat (first | exact (Kd.R_reads' HO127.out).2.2 | (with_reducible refine Kd.C_alloc ?_ _) | (with_reducible refine Kd.C_drewN ?_ _) | (with_reducible refine Kd.C_drew ?_))); (case side2 => exact (Kd.R_reads' HO127.out).2.1); rintro e w42 ⟨v130, rfl, ho0, hb⟩; refine ⟨_, rfl, ?_⟩; have n0_ := Aside0.mk (Kd.R_elder' (by (with_reducible repeat (first | apply Kd.R_alloc | apply Kd.R_drewN | apply Kd.R_drew)); exact HO127.out) (Kd.R_base ho0) hb); have n1_ := Aside0.mk (Kd.R_lower (Kd.R_new' ho0 (Kd.R_lt (by (with_reducible repeat (first | apply Kd.R_alloc | apply Kd.R_drewN | apply Kd.R_drew)); exact HO127.out))) (below_size (by repeat (first | (with_reducible first | exact HB.out | apply below_alloc | apply pw_below_drewN | apply below_drew1) | exact HB.out)))); have n2_ := Aside0.mk (below_step (by repeat (first | (with_reducible first | exact HB.out | apply below_alloc | apply pw_below_drewN | apply below_drew1) | exact HB.out)) hb); clear HO127; clear HB; have HO127 := n0_; have HO131 := n1_; have HB := n2_; clear n0_ n1_ n2_; (try clear hb); (try clear hb2); (try clear hk); (try clear hi); (try clear ho0)) | ((with_reducible refine gate_callee (f := 21) rfl ?_); refine goesL_ (some 15) rfl rfl Try.func21 (by kernel_rfl) rfl #[.float .f64 t124, .float .f64 0] rfl (by (try simp only [List.map_toArray, List.map_cons, List.map_nil]); first | done | rfl | (simp only [List.length_drop, List.length_take]; rfl)) ?_; (with_reducible refine (weigh_Less.calls k t124 0 true _ A5.out).mono ?_); rintro e w' ⟨rfl, ⟨nd, rfl⟩⟩; refine ⟨_, rfl, ?_⟩) | (go_at_call 21; (with_reducible refine (weigh_Less.calls k 0 t124 false _ A7.out).mono ?_); rintro e w' ⟨rfl, ⟨nd, rfl⟩⟩) | (go_at_call 21; (with_reducible refine (weigh_Less.calls k t122 (fNeg t123) true _ A13.out).mono ?_); rintro e w' ⟨rfl, ⟨nd, rfl⟩⟩) | (go_at_call 21; (with_reducible refine (weigh_Less.calls k t122 t122 false _ A15.out).mono ?_); rintro e w' ⟨rfl, ⟨nd, rfl⟩⟩) | (go_at_call 21; (with_reducible refine (weigh_Less.calls k t123 t122 false _ A21.out).mono ?_); rintro e w' ⟨rfl, ⟨nd, rfl⟩⟩) | (go_at_call 23; (with_reducible refine (weigh_Bump.calls t123 4607182418800017408 t137 _ A27.out).mono ?_); rintro e w' ⟨rfl, ⟨nd, rfl⟩⟩) | (go_at_call 22; (with_reducible refine (weigh_Tame.calls t122 t138 _ A29.out).mono ?_); rintro e w' ⟨rfl, ⟨nd, rfl⟩⟩; obtain ⟨Ao43, co43, eo43⟩ := Kd.R_slice HO131.out; subst eo43; have p139 : 0 ≤ (0 : Int) := (by omega); have q139 : 0 < (t128.length : Int) := of_decide_eq_true (by first | (with_reducible assumption) | assumption); obtain ⟨ad139, e139, hx139_0⟩ := Kd.at_f64 (Kd.R_reads' HO131.out).2.2 0 p139 q139; cases e139; have qi139 : (0 < t128.length) = True := eq_true (by omega); (try rw [show ((0 : Int)).toNat = 0 from rfl] at hx139_0); (try rw [Addr.add_zero'] at hx139_0); replace p139 := eq_true p139; replace q139 := eq_true q139) | ((with_reducible refine gate_dst (N := 66) rfl ?_); (try (refine gate_guard (by rfl) ?_; dsimp only)); refine Kd.R_lit Kd.f64 _ 30 ?hg (N := 66) ?hd (xs := ([t122, t124, 0, 0] : List Nat)) (inner := [.float .f64 t122, .float .f64 t124, .float .f64 0, .float .f64 0]) (ok := fun _ => True) (okp := fun _ => True) ?hr ?hp (fun _ hk => hk) trivial (Below.refl _ _) (Nat.le_refl _) (by simp) ?_; (case hd => rfl); (case hg => rfl); (case hr => first | (go_simp; done) | (go_simp; rfl)); (case hp => exact (Reps.one (show Kd.M Kd.f64 _ _ _ t122 [.float .f64 t122] from rfl) (Reps.one (show Kd.M Kd.f64 _ _ _ t124 [.float .f64 t124] from rfl) (Reps.one (show Kd.M Kd.f64 _ _ _ 0 [.float .f64 0] from rfl) (Reps.one (show Kd.M Kd.f64 _ _ _ 0 [.float .f64 0] from rfl) (Reps.none _ _)))))); intro v141 w44 ho45 hb hg_ hnew_; clear hg_ hnew_; (first | rw [← Ny140.out] at ho45 | (simp only [Int.reduceToNat] at ho45; rw [← Ny140.out] at ho45)); have n0_ := Aside0.mk (Kd.R_elder' (by (with_reducible repeat (first | apply Kd.R_alloc | apply Kd.R_drewN | apply Kd.R_drew)); exact HO127.out) (Kd.R_base ho45) hb); have n1_ := Aside0.mk (Kd.R_elder' (by (with_reducible repeat (first | apply Kd.R_alloc | apply Kd.R_drewN | apply Kd.R_drew)); exact HO131.out) (Kd.R_base ho45) hb); have n2_ := Aside0.mk (Kd.R_lower (Kd.R_new' (Kd.R_new' ho45 (Kd.R_lt (by (with_reducible repeat (first | apply Kd.R_alloc | apply Kd.R_drewN | apply Kd.R_drew)); exact HO127.out))) (Kd.R_lt (by (with_reducible repeat (first | apply Kd.R_alloc | apply Kd.R_drewN | apply Kd.R_drew)); exact HO131.out))) (below_size (by repeat (first | (with_reducible first | exact HB.out | apply below_alloc | apply pw_below_drewN | apply below_drew1) | exact HB.out)))); have n3_ := Aside0.mk (below_step (by repeat (first | (with_reducible first | exact HB.out | apply below_alloc | apply pw_below_drewN | apply below_drew1) | exact HB.out)) hb); clear HO127; clear HO131; clear HB; have HO127 := n0_; have HO131 := n1_; have HO142 := n2_; have HB := n3_; clear n0_ n1_ n2_ n3_; clear hb ho45; obtain ⟨Ao46, co46, eo46⟩ := Kd.R_slice HO142.out; subst eo46) | (go_at_call 16; (with_reducible refine (weigh_Heavy.calls _ _ y140 t143 _ ?side1 ?side2 A35.out).mono ?_); (case side1 => repeat (first | exact (Kd.R_reads' HO142.out).2.2 | (with_reducible refine Kd.C_alloc ?_ _) | (with_reducible refine Kd.C_drewN ?_ _) | (with_reducible refine Kd.C_drew ?_))); (case side2 => exact (Kd.R_reads' HO142.out).2.1); rintro e w47 ⟨rfl, hb⟩; have n0_ := Aside0.mk (Kd.R_below (by (with_reducible repeat (first | apply Kd.R_alloc | apply Kd.R_drewN | apply Kd.R_drew)); exact HO127.out) hb); have n1_ := Aside0.mk (Kd.R_below (by (with_reducible repeat (first | apply Kd.R_alloc | apply Kd.R_drewN | apply Kd.R_drew)); exact HO131.out) hb); have n2_ := Aside0.mk (Kd.R_below (by (with_reducible repeat (first | apply Kd.R_alloc | apply Kd.R_drewN | apply Kd.R_drew)); exact HO142.out) hb); have n3_ := Aside0.mk (below_step (by repeat (first | (with_reducible first | exact HB.out | apply below_alloc | apply pw_below_drewN | apply below_drew1) | exact HB.out)) hb); clear HO127; clear HO131; clear HO142; clear HB; have HO127 := n0_; have HO131 := n1_; have HO142 := n2_; have HB := n3_; clear n0_ n1_ n2_ n3_; (try clear hb); (try clear hb2); (try clear hk); (try clear hi)) | (go_at_call 16; refine calls_of_args (args' := #[.slice none ([] : List Nat).length 0]) (by rfl) ?_; (with_reducible refine (weigh_Heavy.calls _ _ ([] : List Nat) t144 _ ?side1 ?side2 A37.out).mono ?_); (case side1 => exact Kd.C_nil _ _); (case side2 => exact Nat.le_refl _); rintro e w48 ⟨rfl, hb⟩; have n0_ := Aside0.mk (Kd.R_below (by (with_reducible repeat (first | apply Kd.R_alloc | apply Kd.R_drewN | apply Kd.R_drew)); exact HO127.out) hb); have n1_ := Aside0.mk (Kd.R_below (by (with_reducible repeat (first | apply Kd.R_alloc | apply Kd.R_drewN | apply Kd.R_drew)); exact HO131.out) hb); have n2_ := Aside0.mk (Kd.R_below (by (with_reducible repeat (first | apply Kd.R_alloc | apply Kd.R_drewN | apply Kd.R_drew)); exact HO142.out) hb); have n3_ := Aside0.mk (below_step (by repeat (first | (with_reducible first | exact HB.out | apply below_alloc | apply pw_below_drewN | apply below_drew1) | exact HB.out)) hb); clear HO127; clear HO131; clear HO142; clear HB; have HO127 := n0_; have HO131 := n1_; have HO142 := n2_; have HB := n3_; clear n0_ n1_ n2_ n3_; (try clear hb); (try clear hb2); (try clear hk); (try clear hi)))
                            go_ret
                            exact ⟨by first | rfl | (simp [errW_none, errW_some] <;> rfl) | (simp [*, errW_none, errW_some] <;> rfl), by repeat (first | (with_reducible first | exact HB.out | apply below_alloc | apply pw_below_drewN | apply below_drew1) | exact HB.out)⟩
                          · rw [if_neg c38] at H
                            have c38b0 : (t144 == (-1)) = false := beq_eq_false_iff_ne.mpr c38
                            have c38b1 : (t144 != (-1)) = true := bne_iff_ne.mpr c38
                            obtain rfl := Option.some.inj H
                            go_enter Try.func12, Try.ntmps12
                            go_wp2_with (first | ((with_reducible refine gate_callee (f := 24) rfl ?_); refine goesL_ (some 6) rfl rfl Try.func24 (by kernel_rfl) rfl #[] rfl (by (try simp only [List.map_toArray, List.map_cons, List.map_nil]); first | done | rfl | (simp only [List.length_drop, List.length_take]; rfl)) ?_; (with_reducible refine (math_NaN.calls  t122 _ A1.out).mono ?_); rintro e w' ⟨rfl, ⟨nd, rfl⟩⟩; refine ⟨_, rfl, ?_⟩) | ((with_reducible refine gate_callee (f := 33) rfl ?_); refine goesL_ (some 7) rfl rfl Try.func33 (by kernel_rfl) rfl #[.int .i64 1] rfl (by (try simp only [List.map_toArray, List.map_cons, List.map_nil]); first | done | rfl | (simp only [List.length_drop, List.length_take]; rfl)) ?_; (with_reducible refine (math_Inf.calls 1 t123 _ A2.out).mono ?_); rintro e w' ⟨rfl, ⟨nd, rfl⟩⟩; refine ⟨_, rfl, ?_⟩) | ((with_reducible refine gate_callee (f := 34) rfl ?_); refine goesL_ (some 8) rfl rfl Try.func34 (by kernel_rfl) rfl #[.float .f64 0, .float .f64 13830554455654793216] rfl (by (try simp only [List.map_toArray, List.map_cons, List.map_nil]); first | done | rfl | (simp only [List.length_drop, List.length_take]; rfl)) ?_; (with_reducible refine (math_Copysign.calls 0 13830554455654793216 t124 _ A3.out).mono ?_); rintro e w' ⟨rfl, ⟨nd, rfl⟩⟩; refine ⟨_, rfl, ?_⟩) | ((with_reducible refine gate_dst (N := 10) rfl ?_); (try (refine gate_guard (by rfl) ?_; dsimp only)); refine Kd.R_lit Kd.f64 _ 30 ?hg (N := 10) ?hd (xs := ([4607182418800017408, 7598952565167317594] : List Nat)) (inner := [.float .f64 4607182418800017408, .float .f64 7598952565167317594]) (ok := fun _ => True) (okp := fun _ => True) ?hr ?hp (fun _ hk => hk) trivial (Below.refl _ _) (Nat.le_refl _) (by simp) ?_; (case hd => rfl); (case hg => rfl); (case hr => first | (go_simp; done) | (go_simp; rfl)); (case hp => exact (Reps.one (show Kd.M Kd.f64 _ _ _ 4607182418800017408 [.float .f64 4607182418800017408] from rfl) (Reps.one (show Kd.M Kd.f64 _ _ _ 7598952565167317594 [.float .f64 7598952565167317594] from rfl) (Reps.none _ _)))); intro v126 w49 ho50 hb hg_ hnew_; clear hg_ hnew_; (first | rw [← Ny125.out] at ho50 | (simp only [Int.reduceToNat] at ho50; rw [← Ny125.out] at ho50)); have n0_ := Aside0.mk (Kd.R_lower ho50 (below_size (by repeat (first | (with_reducible first | exact HB.out | apply below_alloc | apply pw_below_drewN | apply below_drew1) | exact HB.out)))); have n1_ := Aside0.mk (below_step (by repeat (first | (with_reducible first | exact HB.out | apply below_alloc | apply pw_below_drewN | apply below_drew1) | exact HB.out)) hb); clear HB; have HO127 := n0_; have HB := n1_; clear n0_ n1_; clear hb ho50; obtain ⟨Ao51, co51, eo51⟩ := Kd.R_slice HO127.out; subst eo51) | ((with_reducible refine gate_callee (f := 14) rfl ?_); refine goesL_ (some 11) rfl rfl Try.func14 (by kernel_rfl) rfl #[.slice Ao51 y125.length co51] rfl (by (try simp only [List.map_toArray, List.map_cons, List.map_nil]); first | done | rfl | (simp only [List.length_drop, List.length_take]; rfl)) ?_; (with_reducible refine (weigh_Rescale.calls k _ _ y125 t128 true _ ?side1 ?side2 A4.out).mono ?_); (case side1 => repeat (first | exact (Kd.R_reads' HO127.out).2.2 | (with_reducible refine Kd.C_alloc ?_ _) | (with_reducible refine Kd.C_drewN ?_ _) | (with_reducible refine Kd.C_drew ?_))); (case side2 => exact (Kd.R_reads' HO127.out).2.1); rintro e w52 ⟨v130, rfl, ho0, hb⟩; refine ⟨_, rfl, ?_⟩; have n0_ := Aside0.mk (Kd.R_elder' (by (with_reducible repeat (first | apply Kd.R_alloc | apply Kd.R_drewN | apply Kd.R_drew)); exact HO127.out) (Kd.R_base ho0) hb); have n1_ := Aside0.mk (Kd.R_lower (Kd.R_new' ho0 (Kd.R_lt (by (with_reducible repeat (first | apply Kd.R_alloc | apply Kd.R_drewN | apply Kd.R_drew)); exact HO127.out))) (below_size (by repeat (first | (with_reducible first | exact HB.out | apply below_alloc | apply pw_below_drewN | apply below_drew1) | exact HB.out)))); have n2_ := Aside0.mk (below_step (by repeat (first | (with_reducible first | exact HB.out | apply below_alloc | apply pw_below_drewN | apply below_drew1) | exact HB.out)) hb); clear HO127; clear HB; have HO127 := n0_; have HO131 := n1_; have HB := n2_; clear n0_ n1_ n2_; (try clear hb); (try clear hb2); (try clear hk); (try clear hi); (try clear ho0)) | ((with_reducible refine gate_callee (f := 21) rfl ?_); refine goesL_ (some 15) rfl rfl Try.func21 (by kernel_rfl) rfl #[.float .f64 t124, .float .f64 0] rfl (by (try simp only [List.map_toArray, List.map_cons, List.map_nil]); first | done | rfl | (simp only [List.length_drop, List.length_take]; rfl)) ?_; (with_reducible refine (weigh_Less.calls k t124 0 true _ A5.out).mono ?_); rintro e w' ⟨rfl, ⟨nd, rfl⟩⟩; refine ⟨_, rfl, ?_⟩) | (go_at_call 21; (with_reducible refine (weigh_Less.calls k 0 t124 false _ A7.out).mono ?_); rintro e w' ⟨rfl, ⟨nd, rfl⟩⟩) | (go_at_call 21; (with_reducible refine (weigh_Less.calls k t122 (fNeg t123) true _ A13.out).mono ?_); rintro e w' ⟨rfl, ⟨nd, rfl⟩⟩) | (go_at_call 21; (with_reducible refine (weigh_Less.calls k t122 t122 false _ A15.out).mono ?_); rintro e w' ⟨rfl, ⟨nd, rfl⟩⟩) | (go_at_call 21; (with_reducible refine (weigh_Less.calls k t123 t122 false _ A21.out).mono ?_); rintro e w' ⟨rfl, ⟨nd, rfl⟩⟩) | (go_at_call 23; (with_reducible refine (weigh_Bump.calls t123 4607182418800017408 t137 _ A27.out).mono ?_); rintro e w' ⟨rfl, ⟨nd, rfl⟩⟩) | (go_at_call 22; (with_reducible refine (weigh_Tame.calls t122 t138 _ A29.out).mono ?_); rintro e w' ⟨rfl, ⟨nd, rfl⟩⟩; obtain ⟨Ao53, co53, eo53⟩ := Kd.R_slice HO131.out; subst eo53; have p139 : 0 ≤ (0 : Int) := (by omega); have q139 : 0 < (t128.length : Int) := of_decide_eq_true (by first | (with_reducible assumption) | assumption); obtain ⟨ad139, e139, hx139_0⟩ := Kd.at_f64 (Kd.R_reads' HO131.out).2.2 0 p139 q139; cases e139; have qi139 : (0 < t128.length) = True := eq_true (by omega); (try rw [show ((0 : Int)).toNat = 0 from rfl] at hx139_0); (try rw [Addr.add_zero'] at hx139_0); replace p139 := eq_true p139; replace q139 := eq_true q139) | ((with_reducible refine gate_dst (N := 66) rfl ?_); (try (refine gate_guard (by rfl) ?_; dsimp only)); refine Kd.R_lit Kd.f64 _ 30 ?hg (N := 66) ?hd (xs := ([t122, t124, 0, 0] : List Nat)) (inner := [.float .f64 t122, .float .f64 t124, .float .f64 0, .float .f64 0]) (ok := fun _ => True) (okp := fun _ => True) ?hr ?hp (fun _ hk => hk) trivial (Below.refl _ _) (Nat.le_refl _) (by simp) ?_; (case hd => rfl); (case hg => rfl); (case hr => first | (go_simp; done) | (go_simp; rfl)); (case hp => exact (Reps.one (show Kd.M Kd.f64 _ _ _ t122 [.float .f64 t122] from rfl) (Reps.one (show Kd.M Kd.f64 _ _ _ t124 [.float .f64 t124] from rfl) (Reps.one (show Kd.M Kd.f64 _ _ _ 0 [.float .f64 0] from rfl) (Reps.one (show Kd.M Kd.f64 _ _ _ 0 [.float .f64 0] from rfl) (Reps.none _ _)))))); intro v141 w54 ho55 hb hg_ hnew_; clear hg_ hnew_; (first | rw [← Ny140.out] at ho55 | (simp only [Int.reduceToNat] at ho55; rw [← Ny140.out] at ho55)); have n0_ := Aside0.mk (Kd.R_elder' (by (with_reducible repeat (first | apply Kd.R_alloc | apply Kd.R_drewN | apply Kd.R_drew)); exact HO127.out) (Kd.R_base ho55) hb); have n1_ := Aside0.mk (Kd.R_elder' (by (with_reducible repeat (first | apply Kd.R_alloc | apply Kd.R_drewN | apply Kd.R_drew)); exact HO131.out) (Kd.R_base ho55) hb); have n2_ := Aside0.mk (Kd.R_lower (Kd.R_new' (Kd.R_new' ho55 (Kd.R_lt (by (with_reducible repeat (first | apply Kd.R_alloc | apply Kd.R_drewN | apply Kd.R_drew)); exact HO127.out))) (Kd.R_lt (by (with_reducible repeat (first | apply Kd.R_alloc | apply Kd.R_drewN | apply Kd.R_drew)); exact HO131.out))) (below_size (by repeat (first | (with_reducible first | exact HB.out | apply below_alloc | apply pw_below_drewN | apply below_drew1) | exact HB.out)))); have n3_ := Aside0.mk (below_step (by repeat (first | (with_reducible first | exact HB.out | apply below_alloc | apply pw_below_drewN | apply below_drew1) | exact HB.out)) hb); clear HO127; clear HO131; clear HB; have HO127 := n0_; have HO131 := n1_; have HO142 := n2_; have HB := n3_; clear n0_ n1_ n2_ n3_; clear hb ho55; obtain ⟨Ao56, co56, eo56⟩ := Kd.R_slice HO142.out; subst eo56) | (go_at_call 16; (with_reducible refine (weigh_Heavy.calls _ _ y140 t143 _ ?side1 ?side2 A35.out).mono ?_); (case side1 => repeat (first | exact (Kd.R_reads' HO142.out).2.2 | (with_reducible refine Kd.C_alloc ?_ _) | (with_reducible refine Kd.C_drewN ?_ _) | (with_reducible refine Kd.C_drew ?_))); (case side2 => exact (Kd.R_reads' HO142.out).2.1); rintro e w57 ⟨rfl, hb⟩; have n0_ := Aside0.mk (Kd.R_below (by (with_reducible repeat (first | apply Kd.R_alloc | apply Kd.R_drewN | apply Kd.R_drew)); exact HO127.out) hb); have n1_ := Aside0.mk (Kd.R_below (by (with_reducible repeat (first | apply Kd.R_alloc | apply Kd.R_drewN | apply Kd.R_drew)); exact HO131.out) hb); have n2_ := Aside0.mk (Kd.R_below (by (with_reducible repeat (first | apply Kd.R_alloc | apply Kd.R_drewN | apply Kd.R_drew)); exact HO142.out) hb); have n3_ := Aside0.mk (below_step (by repeat (first | (with_reducible first | exact HB.out | apply below_alloc | apply pw_below_drewN | apply below_drew1) | exact HB.out)) hb); clear HO127; clear HO131; clear HO142; clear HB; have HO127 := n0_; have HO131 := n1_; have HO142 := n2_; have HB := n3_; clear n0_ n1_ n2_ n3_; (try clear hb); (try clear hb2); (try clear hk); (try clear hi)) | (go_at_call 16; refine calls_of_args (args' := #[.slice none ([] : List Nat).length 0]) (by rfl) ?_; (with_reducible refine (weigh_Heavy.calls _ _ ([] : List Nat) t144 _ ?side1 ?side2 A37.out).mono ?_); (case side1 => exact Kd.C_nil _ _); (case side2 => exact Nat.le_refl _); rintro e w58 ⟨rfl, hb⟩; have n0_ := Aside0.mk (Kd.R_below (by (with_reducible repeat (first | apply Kd.R_alloc | apply Kd.R_drewN | apply Kd.R_drew)); exact HO127.out) hb); have n1_ := Aside0.mk (Kd.R_below (by (with_reducible repeat (first | apply Kd.R_alloc | apply Kd.R_drewN | apply Kd.R_drew)); exact HO131.out) hb); have n2_ := Aside0.mk (Kd.R_below (by (with_reducible repeat (first | apply Kd.R_alloc | apply Kd.R_drewN | apply Kd.R_drew)); exact HO142.out) hb); have n3_ := Aside0.mk (below_step (by repeat (first | (with_reducible first | exact HB.out | apply below_alloc | apply pw_below_drewN | apply below_drew1) | exact HB.out)) hb); clear HO127; clear HO131; clear HO142; clear HB; have HO127 := n0_; have HO131 := n1_; have HO142 := n2_; have HB := n3_; clear n0_ n1_ n2_ n3_; (try clear hb); (try clear hb2); (try clear hk); (try clear hi)))
                            go_ret
                            exact ⟨by first | rfl | (simp [errW_none, errW_some] <;> rfl) | (simp [*, errW_none, errW_some] <;> rfl), by repeat (first | (with_reducible first | exact HB.out | apply below_alloc | apply pw_below_drewN | apply below_drew1) | exact HB.out)⟩
                        · rw [if_neg c36] at H
                          have c36b0 : (t143 == 2) = false := beq_eq_false_iff_ne.mpr c36
                          have c36b1 : (t143 != 2) = true := bne_iff_ne.mpr c36
                          obtain rfl := Option.some.inj H
                          go_enter Try.func12, Try.ntmps12
                          go_wp2_with (first | ((with_reducible refine gate_callee (f := 24) rfl ?_); refine goesL_ (some 6) rfl rfl Try.func24 (by kernel_rfl) rfl #[] rfl (by (try simp only [List.map_toArray, List.map_cons, List.map_nil]); first | done | rfl | (simp only [List.length_drop, List.length_take]; rfl)) ?_; (with_reducible refine (math_NaN.calls  t122 _ A1.out).mono ?_); rintro e w' ⟨rfl, ⟨nd, rfl⟩⟩; refine ⟨_, rfl, ?_⟩) | ((with_reducible refine gate_callee (f := 33) rfl ?_); refine goesL_ (some 7) rfl rfl Try.func33 (by kernel_rfl) rfl #[.int .i64 1] rfl (by (try simp only [List.map_toArray, List.map_cons, List.map_nil]); first | done | rfl | (simp only [List.length_drop, List.length_take]; rfl)) ?_; (with_reducible refine (math_Inf.calls 1 t123 _ A2.out).mono ?_); rintro e w' ⟨rfl, ⟨nd, rfl⟩⟩; refine ⟨_, rfl, ?_⟩) | ((with_reducible refine gate_callee (f := 34) rfl ?_); refine goesL_ (some 8) rfl rfl Try.func34 (by kernel_rfl) rfl #[.float .f64 0, .float .f64 13830554455654793216] rfl (by (try simp only [List.map_toArray, List.map_cons, List.map_nil]); first | done | rfl | (simp only [List.length_drop, List.length_take]; rfl)) ?_; (with_reducible refine (math_Copysign.calls 0 13830554455654793216 t124 _ A3.out).mono ?_); rintro e w' ⟨rfl, ⟨nd, rfl⟩⟩; refine ⟨_, rfl, ?_⟩) | ((with_reducible refine gate_dst (N := 10) rfl ?_); (try (refine gate_guard (by rfl) ?_; dsimp only)); refine Kd.R_lit Kd.f64 _ 30 ?hg (N := 10) ?hd (xs := ([4607182418800017408, 7598952565167317594] : List Nat)) (inner := [.float .f64 4607182418800017408, .float .f64 7598952565167317594]) (ok := fun _ => True) (okp := fun _ => True) ?hr ?hp (fun _ hk => hk) trivial (Below.refl _ _) (Nat.le_refl _) (by simp) ?_; (case hd => rfl); (case hg => rfl); (case hr => first | (go_simp; done) | (go_simp; rfl)); (case hp => exact (Reps.one (show Kd.M Kd.f64 _ _ _ 4607182418800017408 [.float .f64 4607182418800017408] from rfl) (Reps.one (show Kd.M Kd.f64 _ _ _ 7598952565167317594 [.float .f64 7598952565167317594] from rfl) (Reps.none _ _)))); intro v126 w59 ho60 hb hg_ hnew_; clear hg_ hnew_; (first | rw [← Ny125.out] at ho60 | (simp only [Int.reduceToNat] at ho60; rw [← Ny125.out] at ho60)); have n0_ := Aside0.mk (Kd.R_lower ho60 (below_size (by repeat (first | (with_reducible first | exact HB.out | apply below_alloc | apply pw_below_drewN | apply below_drew1) | exact HB.out)))); have n1_ := Aside0.mk (below_step (by repeat (first | (with_reducible first | exact HB.out | apply below_alloc | apply pw_below_drewN | apply below_drew1) | exact HB.out)) hb); clear HB; have HO127 := n0_; have HB := n1_; clear n0_ n1_; clear hb ho60; obtain ⟨Ao61, co61, eo61⟩ := Kd.R_slice HO127.out; subst eo61) | ((with_reducible refine gate_callee (f := 14) rfl ?_); refine goesL_ (some 11) rfl rfl Try.func14 (by kernel_rfl) rfl #[.slice Ao61 y125.length co61] rfl (by (try simp only [List.map_toArray, List.map_cons, List.map_nil]); first | done | rfl | (simp only [List.length_drop, List.length_take]; rfl)) ?_; (with_reducible refine (weigh_Rescale.calls k _ _ y125 t128 true _ ?side1 ?side2 A4.out).mono ?_); (case side1 => repeat (first | exact (Kd.R_reads' HO127.out).2.2 | (with_reducible refine Kd.C_alloc ?_ _) | (with_reducible refine Kd.C_drewN ?_ _) | (with_reducible refine Kd.C_drew ?_))); (case side2 => exact (Kd.R_reads' HO127.out).2.1); rintro e w62 ⟨v130, rfl, ho0, hb⟩; refine ⟨_, rfl, ?_⟩; have n0_ := Aside0.mk (Kd.R_elder' (by (with_reducible repeat (first | apply Kd.R_alloc | apply Kd.R_drewN | apply Kd.R_drew)); exact HO127.out) (Kd.R_base ho0) hb); have n1_ := Aside0.mk (Kd.R_lower (Kd.R_new' ho0 (Kd.R_lt (by (with_reducible repeat (first | apply Kd.R_alloc | apply Kd.R_drewN | apply Kd.R_drew)); exact HO127.out))) (below_size (by repeat (first | (with_reducible first | exact HB.out | apply below_alloc | apply pw_below_drewN | apply below_drew1) | exact HB.out)))); have n2_ := Aside0.mk (below_step (by repeat (first | (with_reducible first | exact HB.out | apply below_alloc | apply pw_below_drewN | apply below_drew1) | exact HB.out)) hb); clear HO127; clear HB; have HO127 := n0_; have HO131 := n1_; have HB := n2_; clear n0_ n1_ n2_; (try clear hb); (try clear hb2); (try clear hk); (try clear hi); (try clear ho0)) | ((with_reducible refine gate_callee (f := 21) rfl ?_); refine goesL_ (some 15) rfl rfl Try.func21 (by kernel_rfl) rfl #[.float .f64 t124, .float .f64 0] rfl (by (try simp only [List.map_toArray, List.map_cons, List.map_nil]); first | done | rfl | (simp only [List.length_drop, List.length_take]; rfl)) ?_; (with_reducible refine (weigh_Less.calls k t124 0 true _ A5.out).mono ?_); rintro e w' ⟨rfl, ⟨nd, rfl⟩⟩; refine ⟨_, rfl, ?_⟩) | (go_at_call 21; (with_reducible refine (weigh_Less.calls k 0 t124 false _ A7.out).mono ?_); rintro e w' ⟨rfl, ⟨nd, rfl⟩⟩) | (go_at_call 21; (with_reducible refine (weigh_Less.calls k t122 (fNeg t123) true _ A13.out).mono ?_); rintro e w' ⟨rfl, ⟨nd, rfl⟩⟩) | (go_at_call 21; (with_reducible refine (weigh_Less.calls k t122 t122 false _ A15.out).mono ?_); rintro e w' ⟨rfl, ⟨nd, rfl⟩⟩) | (go_at_call 21; (with_reducible refine (weigh_Less.calls k t123 t122 false _ A21.out).mono ?_); rintro e w' ⟨rfl, ⟨nd, rfl⟩⟩) | (go_at_call 23; (with_reducible refine (weigh_Bump.calls t123 4607182418800017408 t137 _ A27.out).mono ?_); rintro e w' ⟨rfl, ⟨nd, rfl⟩⟩) | (go_at_call 22; (with_reducible refine (weigh_Tame.calls t122 t138 _ A29.out).mono ?_); rintro e w' ⟨rfl, ⟨nd, rfl⟩⟩; obtain ⟨Ao63, co63, eo63⟩ := Kd.R_slice HO131.out; subst eo63; have p139 : 0 ≤ (0 : Int) := (by omega); have q139 : 0 < (t128.length : Int) := of_decide_eq_true (by first | (with_reducible assumption) | assumption); obtain ⟨ad139, e139, hx139_0⟩ := Kd.at_f64 (Kd.R_reads' HO131.out).2.2 0 p139 q139; cases e139; have qi139 : (0 < t128.length) = True := eq_true (by omega); (try rw [show ((0 : Int)).toNat = 0 from rfl] at hx139_0); (try rw [Addr.add_zero'] at hx139_0); replace p139 := eq_true p139; replace q139 := eq_true q139) | ((with_reducible refine gate_dst (N := 66) rfl ?_); (try (refine gate_guard (by rfl) ?_; dsimp only)); refine Kd.R_lit Kd.f64 _ 30 ?hg (N := 66) ?hd (xs := ([t122, t124, 0, 0] : List Nat)) (inner := [.float .f64 t122, .float .f64 t124, .float .f64 0, .float .f64 0]) (ok := fun _ => True) (okp := fun _ => True) ?hr ?hp (fun _ hk => hk) trivial (Below.refl _ _) (Nat.le_refl _) (by simp) ?_; (case hd => rfl); (case hg => rfl); (case hr => first | (go_simp; done) | (go_simp; rfl)); (case hp => exact (Reps.one (show Kd.M Kd.f64 _ _ _ t122 [.float .f64 t122] from rfl) (Reps.one (show Kd.M Kd.f64 _ _ _ t124 [.float .f64 t124] from rfl) (Reps.one (show Kd.M Kd.f64 _ _ _ 0 [.float .f64 0] from rfl) (Reps.one (show Kd.M Kd.f64 _ _ _ 0 [.float .f64 0] from rfl) (Reps.none _ _)))))); intro v141 w64 ho65 hb hg_ hnew_; clear hg_ hnew_; (first | rw [← Ny140.out] at ho65 | (simp only [Int.reduceToNat] at ho65; rw [← Ny140.out] at ho65)); have n0_ := Aside0.mk (Kd.R_elder' (by (with_reducible repeat (first | apply Kd.R_alloc | apply Kd.R_drewN | apply Kd.R_drew)); exact HO127.out) (Kd.R_base ho65) hb); have n1_ := Aside0.mk (Kd.R_elder' (by (with_reducible repeat (first | apply Kd.R_alloc | apply Kd.R_drewN | apply Kd.R_drew)); exact HO131.out) (Kd.R_base ho65) hb); have n2_ := Aside0.mk (Kd.R_lower (Kd.R_new' (Kd.R_new' ho65 (Kd.R_lt (by (with_reducible repeat (first | apply Kd.R_alloc | apply Kd.R_drewN | apply Kd.R_drew)); exact HO127.out))) (Kd.R_lt (by (with_reducible repeat (first | apply Kd.R_alloc | apply Kd.R_drewN | apply Kd.R_drew)); exact HO131.out))) (below_size (by repeat (first | (with_reducible first | exact HB.out | apply below_alloc | apply pw_below_drewN | apply below_drew1) | exact HB.out)))); have n3_ := Aside0.mk (below_step (by repeat (first | (with_reducible first | exact HB.out | apply below_alloc | apply pw_below_drewN | apply below_drew1) | exact HB.out)) hb); clear HO127; clear HO131; clear HB; have HO127 := n0_; have HO131 := n1_; have HO142 := n2_; have HB := n3_; clear n0_ n1_ n2_ n3_; clear hb ho65; obtain ⟨Ao66, co66, eo66⟩ := Kd.R_slice HO142.out; subst eo66) | (go_at_call 16; (with_reducible refine (weigh_Heavy.calls _ _ y140 t143 _ ?side1 ?side2 A35.out).mono ?_); (case side1 => repeat (first | exact (Kd.R_reads' HO142.out).2.2 | (with_reducible refine Kd.C_alloc ?_ _) | (with_reducible refine Kd.C_drewN ?_ _) | (with_reducible refine Kd.C_drew ?_))); (case side2 => exact (Kd.R_reads' HO142.out).2.1); rintro e w67 ⟨rfl, hb⟩; have n0_ := Aside0.mk (Kd.R_below (by (with_reducible repeat (first | apply Kd.R_alloc | apply Kd.R_drewN | apply Kd.R_drew)); exact HO127.out) hb); have n1_ := Aside0.mk (Kd.R_below (by (with_reducible repeat (first | apply Kd.R_alloc | apply Kd.R_drewN | apply Kd.R_drew)); exact HO131.out) hb); have n2_ := Aside0.mk (Kd.R_below (by (with_reducible repeat (first | apply Kd.R_alloc | apply Kd.R_drewN | apply Kd.R_drew)); exact HO142.out) hb); have n3_ := Aside0.mk (below_step (by repeat (first | (with_reducible first | exact HB.out | apply below_alloc | apply pw_below_drewN | apply below_drew1) | exact HB.out)) hb); clear HO127; clear HO131; clear HO142; clear HB; have HO127 := n0_; have HO131 := n1_; have HO142 := n2_; have HB := n3_; clear n0_ n1_ n2_ n3_; (try clear hb); (try clear hb2); (try clear hk); (try clear hi)))
                          go_ret
                          exact ⟨by first | rfl | (simp [errW_none, errW_some] <;> rfl) | (simp [*, errW_none, errW_some] <;> rfl), by repeat (first | (with_reducible first | exact HB.out | apply below_alloc | apply pw_below_drewN | apply below_drew1) | exact HB.out)⟩
                      · rw [if_neg c34] at H
                        have c34b0 : fEq (rdOf (0 : Nat) t128 0) 3110860544497550640 = false := by simpa using c34
                        clear c34
                        obtain rfl := Option.some.inj H
                        go_enter Try.func12, Try.ntmps12
                        go_wp2_with (first | ((with_reducible refine gate_callee (f := 24) rfl ?_); refine goesL_ (some 6) rfl rfl Try.func24 (by kernel_rfl) rfl #[] rfl (by (try simp only [List.map_toArray, List.map_cons, List.map_nil]); first | done | rfl | (simp only [List.length_drop, List.length_take]; rfl)) ?_; (with_reducible refine (math_NaN.calls  t122 _ A1.out).mono ?_); rintro e w' ⟨rfl, ⟨nd, rfl⟩⟩; refine ⟨_, rfl, ?_⟩) | ((with_reducible refine gate_callee (f := 33) rfl ?_); refine goesL_ (some 7) rfl rfl Try.func33 (by kernel_rfl) rfl #[.int .i64 1] rfl (by (try simp only [List.map_toArray, List.map_cons, List.map_nil]); first | done | rfl | (simp only [List.length_drop, List.length_take]; rfl)) ?_; (with_reducible refine (math_Inf.calls 1 t123 _ A2.out).mono ?_); rintro e w' ⟨rfl, ⟨nd, rfl⟩⟩; refine ⟨_, rfl, ?_⟩) | ((with_reducible refine gate_callee (f := 34) rfl ?_); refine goesL_ (some 8) rfl rfl Try.func34 (by kernel_rfl) rfl #[.float .f64 0, .float .f64 13830554455654793216] rfl (by (try simp only [List.map_toArray, List.map_cons, List.map_nil]); first | done | rfl | (simp only [List.length_drop, List.length_take]; rfl)) ?_; (with_reducible refine (math_Copysign.calls 0 13830554455654793216 t124 _ A3.out).mono ?_); rintro e w' ⟨rfl, ⟨nd, rfl⟩⟩; refine ⟨_, rfl, ?_⟩) | ((with_reducible refine gate_dst (N := 10) rfl ?_); (try (refine gate_guard (by rfl) ?_; dsimp only)); refine Kd.R_lit Kd.f64 _ 30 ?hg (N := 10) ?hd (xs := ([4607182418800017408, 7598952565167317594] : List Nat)) (inner := [.float .f64 4607182418800017408, .float .f64 7598952565167317594]) (ok := fun _ => True) (okp := fun _ => True) ?hr ?hp (fun _ hk => hk) trivial (Below.refl _ _) (Nat.le_refl _) (by simp) ?_; (case hd => rfl); (case hg => rfl); (case hr => first | (go_simp; done) | (go_simp; rfl)); (case hp => exact (Reps.one (show Kd.M Kd.f64 _ _ _ 4607182418800017408 [.float .f64 4607182418800017408] from rfl) (Reps.one (show Kd.M Kd.f64 _ _ _ 7598952565167317594 [.float .f64 7598952565167317594] from rfl) (Reps.none _ _)))); intro v126 w68 ho69 hb hg_ hnew_; clear hg_ hnew_; (first | rw [← Ny125.out] at ho69 | (simp only [Int.reduceToNat] at ho69; rw [← Ny125.out] at ho69)); have n0_ := Aside0.mk (Kd.R_lower ho69 (below_size (by repeat (first | (with_reducible first | exact HB.out | apply below_alloc | apply pw_below_drewN | apply below_drew1) | exact HB.out)))); have n1_ := Aside0.mk (below_step (by repeat (first | (with_reducible first | exact HB.out | apply below_alloc | apply pw_below_drewN | apply below_drew1) | exact HB.out)) hb); clear HB; have HO127 := n0_; have HB := n1_; clear n0_ n1_; clear hb ho69; obtain ⟨Ao70, co70, eo70⟩ := Kd.R_slice HO127.out; subst eo70) | ((with_reducible refine gate_callee (f := 14) rfl ?_); refine goesL_ (some 11) rfl rfl Try.func14 (by kernel_rfl) rfl #[.slice Ao70 y125.length co70] rfl (by (try simp only [List.map_toArray, List.map_cons, List.map_nil]); first | done | rfl | (simp only [List.length_drop, List.length_take]; rfl)) ?_; (with_reducible refine (weigh_Rescale.calls k _ _ y125 t128 true _ ?side1 ?side2 A4.out).mono ?_); (case side1 => repeat (first | exact (Kd.R_reads' HO127.out).2.2 | (with_reducible refine Kd.C_alloc ?_ _) | (with_reducible refine Kd.C_drewN ?_ _) | (with_reducible refine Kd.C_drew ?_))); (case side2 => exact (Kd.R_reads' HO127.out).2.1); rintro e w71 ⟨v130, rfl, ho0, hb⟩; refine ⟨_, rfl, ?_⟩; have n0_ := Aside0.mk (Kd.R_elder' (by (with_reducible repeat (first | apply Kd.R_alloc | apply Kd.R_drewN | apply Kd.R_drew)); exact HO127.out) (Kd.R_base ho0) hb); have n1_ := Aside0.mk (Kd.R_lower (Kd.R_new' ho0 (Kd.R_lt (by (with_reducible repeat (first | apply Kd.R_alloc | apply Kd.R_drewN | apply Kd.R_drew)); exact HO127.out))) (below_size (by repeat (first | (with_reducible first | exact HB.out | apply below_alloc | apply pw_below_drewN | apply below_drew1) | exact HB.out)))); have n2_ := Aside0.mk (below_step (by repeat (first | (with_reducible first | exact HB.out | apply below_alloc | apply pw_below_drewN | apply below_drew1) | exact HB.out)) hb); clear HO127; clear HB; have HO127 := n0_; have HO131 := n1_; have HB := n2_; clear n0_ n1_ n2_; (try clear hb); (try clear hb2); (try clear hk); (try clear hi); (try clear ho0)) | ((with_reducible refine gate_callee (f := 21) rfl ?_); refine goesL_ (some 15) rfl rfl Try.func21 (by kernel_rfl) rfl #[.float .f64 t124, .float .f64 0] rfl (by (try simp only [List.map_toArray, List.map_cons, List.map_nil]); first | done | rfl | (simp only [List.length_drop, List.length_take]; rfl)) ?_; (with_reducible refine (weigh_Less.calls k t124 0 true _ A5.out).mono ?_); rintro e w' ⟨rfl, ⟨nd, rfl⟩⟩; refine ⟨_, rfl, ?_⟩) | (go_at_call 21; (with_reducible refine (weigh_Less.calls k 0 t124 false _ A7.out).mono ?_); rintro e w' ⟨rfl, ⟨nd, rfl⟩⟩) | (go_at_call 21; (with_reducible refine (weigh_Less.calls k t122 (fNeg t123) true _ A13.out).mono ?_); rintro e w' ⟨rfl, ⟨nd, rfl⟩⟩) | (go_at_call 21; (with_reducible refine (weigh_Less.calls k t122 t122 false _ A15.out).mono ?_); rintro e w' ⟨rfl, ⟨nd, rfl⟩⟩) | (go_at_call 21; (with_reducible refine (weigh_Less.calls k t123 t122 false _ A21.out).mono ?_); rintro e w' ⟨rfl, ⟨nd, rfl⟩⟩) | (go_at_call 23; (with_reducible refine (weigh_Bump.calls t123 4607182418800017408 t137 _ A27.out).mono ?_); rintro e w' ⟨rfl, ⟨nd, rfl⟩⟩) | (go_at_call 22; (with_reducible refine (weigh_Tame.calls t122 t138 _ A29.out).mono ?_); rintro e w' ⟨rfl, ⟨nd, rfl⟩⟩; obtain ⟨Ao72, co72, eo72⟩ := Kd.R_slice HO131.out; subst eo72; have p139 : 0 ≤ (0 : Int) := (by omega); have q139 : 0 < (t128.length : Int) := of_decide_eq_true (by first | (with_reducible assumption) | assumption); obtain ⟨ad139, e139, hx139_0⟩ := Kd.at_f64 (Kd.R_reads' HO131.out).2.2 0 p139 q139; cases e139; have qi139 : (0 < t128.length) = True := eq_true (by omega); (try rw [show ((0 : Int)).toNat = 0 from rfl] at hx139_0); (try rw [Addr.add_zero'] at hx139_0); replace p139 := eq_true p139; replace q139 := eq_true q139))
                        go_ret
                        exact ⟨by first | rfl | (simp [errW_none, errW_some] <;> rfl) | (simp [*, errW_none, errW_some] <;> rfl), by repeat (first | (with_reducible first | exact HB.out | apply below_alloc | apply pw_below_drewN | apply below_drew1) | exact HB.out)⟩
                    · rw [if_neg c33] at H
                      exact absurd H (by simp)
                  · rw [if_neg c32] at H
                    have c32b0 : ((t128.length : Int) == 2) = false := beq_eq_false_iff_ne.mpr c32
                    have c32b1 : ((t128.length : Int) != 2) = true := bne_iff_ne.mpr c32
                    obtain rfl := Option.some.inj H
                    go_enter Try.func12, Try.ntmps12
                    go_wp2_with (first | ((with_reducible refine gate_callee (f := 24) rfl ?_); refine goesL_ (some 6) rfl rfl Try.func24 (by kernel_rfl) rfl #[] rfl (by (try simp only [List.map_toArray, List.map_cons, List.map_nil]); first | done | rfl | (simp only [List.length_drop, List.length_take]; rfl)) ?_; (with_reducible refine (math_NaN.calls  t122 _ A1.out).mono ?_); rintro e w' ⟨rfl, ⟨nd, rfl⟩⟩; refine ⟨_, rfl, ?_⟩) | ((with_reducible refine gate_callee (f := 33) rfl ?_); refine goesL_ (some 7) rfl rfl Try.func33 (by kernel_rfl) rfl #[.int .i64 1] rfl (by (try simp only [List.map_toArray, List.map_cons, List.map_nil]); first | done | rfl | (simp only [List.length_drop, List.length_take]; rfl)) ?_; (with_reducible refine (math_Inf.calls 1 t123 _ A2.out).mono ?_); rintro e w' ⟨rfl, ⟨nd, rfl⟩⟩; refine ⟨_, rfl, ?_⟩) | ((with_reducible refine gate_callee (f := 34) rfl ?_); refine goesL_ (some 8) rfl rfl Try.func34 (by kernel_rfl) rfl #[.float .f64 0, .float .f64 13830554455654793216] rfl (by (try simp only [List.map_toArray, List.map_cons, List.map_nil]); first | done | rfl | (simp only [List.length_drop, List.length_take]; rfl)) ?_; (with_reducible refine (math_Copysign.calls 0 13830554455654793216 t124 _ A3.out).mono ?_); rintro e w' ⟨rfl, ⟨nd, rfl⟩⟩; refine ⟨_, rfl, ?_⟩) | ((with_reducible refine gate_dst (N := 10) rfl ?_); (try (refine gate_guard (by rfl) ?_; dsimp only)); refine Kd.R_lit Kd.f64 _ 30 ?hg (N := 10) ?hd (xs := ([4607182418800017408, 7598952565167317594] : List Nat)) (inner := [.float .f64 4607182418800017408, .float .f64 7598952565167317594]) (ok := fun _ => True) (okp := fun _ => True) ?hr ?hp (fun _ hk => hk) trivial (Below.refl _ _) (Nat.le_refl _) (by simp) ?_; (case hd => rfl); (case hg => rfl); (case hr => first | (go_simp; done) | (go_simp; rfl)); (case hp => exact (Reps.one (show Kd.M Kd.f64 _ _ _ 4607182418800017408 [.float .f64 4607182418800017408] from rfl) (Reps.one (show Kd.M Kd.f64 _ _ _ 7598952565167317594 [.float .f64 7598952565167317594] from rfl) (Reps.none _ _)))); intro v126 w73 ho74 hb hg_ hnew_; clear hg_ hnew_; (first | rw [← Ny125.out] at ho74 | (simp only [Int.reduceToNat] at ho74; rw [← Ny125.out] at ho74)); have n0_ := Aside0.mk (Kd.R_lower ho74 (below_size (by repeat (first | (with_reducible first | exact HB.out | apply below_alloc | apply pw_below_drewN | apply below_drew1) | exact HB.out)))); have n1_ := Aside0.mk (below_step (by repeat (first | (with_reducible first | exact HB.out | apply below_alloc | apply pw_below_drewN | apply below_drew1) | exact HB.out)) hb); clear HB; have HO127 := n0_; have HB := n1_; clear n0_ n1_; clear hb ho74; obtain ⟨Ao75, co75, eo75⟩ := Kd.R_slice HO127.out; subst eo75) | ((with_reducible refine gate_callee (f := 14) rfl ?_); refine goesL_ (some 11) rfl rfl Try.func14 (by kernel_rfl) rfl #[.slice Ao75 y125.length co75] rfl (by (try simp only [List.map_toArray, List.map_cons, List.map_nil]); first | done | rfl | (simp only [List.length_drop, List.length_take]; rfl)) ?_; (with_reducible refine (weigh_Rescale.calls k _ _ y125 t128 true _ ?side1 ?side2 A4.out).mono ?_); (case side1 => repeat (first | exact (Kd.R_reads' HO127.out).2.2 | (with_reducible refine Kd.C_alloc ?_ _) | (with_reducible refine Kd.C_drewN ?_ _) | (with_reducible refine Kd.C_drew ?_))); (case side2 => exact (Kd.R_reads' HO127.out).2.1); rintro e w76 ⟨v130, rfl, ho0, hb⟩; refine ⟨_, rfl, ?_⟩; have n0_ := Aside0.mk (Kd.R_elder' (by (with_reducible repeat (first | apply Kd.R_alloc | apply Kd.R_drewN | apply Kd.R_drew)); exact HO127.out) (Kd.R_base ho0) hb); have n1_ := Aside0.mk (Kd.R_lower (Kd.R_new' ho0 (Kd.R_lt (by (with_reducible repeat (first | apply Kd.R_alloc | apply Kd.R_drewN | apply Kd.R_drew)); exact HO127.out))) (below_size (by repeat (first | (with_reducible first | exact HB.out | apply below_alloc | apply pw_below_drewN | apply below_drew1) | exact HB.out)))); have n2_ := Aside0.mk (below_step (by repeat (first | (with_reducible first | exact HB.out | apply below_alloc | apply pw_below_drewN | apply below_drew1) | exact HB.out)) hb); clear HO127; clear HB; have HO127 := n0_; have HO131 := n1_; have HB := n2_; clear n0_ n1_ n2_; (try clear hb); (try clear hb2); (try clear hk); (try clear hi); (try clear ho0)) | ((with_reducible refine gate_callee (f := 21) rfl ?_); refine goesL_ (some 15) rfl rfl Try.func21 (by kernel_rfl) rfl #[.float .f64 t124, .float .f64 0] rfl (by (try simp only [List.map_toArray, List.map_cons, List.map_nil]); first | done | rfl | (simp only [List.length_drop, List.length_take]; rfl)) ?_; (with_reducible refine (weigh_Less.calls k t124 0 true _ A5.out).mono ?_); rintro e w' ⟨rfl, ⟨nd, rfl⟩⟩; refine ⟨_, rfl, ?_⟩) | (go_at_call 21; (with_reducible refine (weigh_Less.calls k 0 t124 false _ A7.out).mono ?_); rintro e w' ⟨rfl, ⟨nd, rfl⟩⟩) | (go_at_call 21; (with_reducible refine (weigh_Less.calls k t122 (fNeg t123) true _ A13.out).mono ?_); rintro e w' ⟨rfl, ⟨nd, rfl⟩⟩) | (go_at_call 21; (with_reducible refine (weigh_Less.calls k t122 t122 false _ A15.out).mono ?_); rintro e w' ⟨rfl, ⟨nd, rfl⟩⟩) | (go_at_call 21; (with_reducible refine (weigh_Less.calls k t123 t122 false _ A21.out).mono ?_); rintro e w' ⟨rfl, ⟨nd, rfl⟩⟩) | (go_at_call 23; (with_reducible refine (weigh_Bump.calls t123 4607182418800017408 t137 _ A27.out).mono ?_); rintro e w' ⟨rfl, ⟨nd, rfl⟩⟩) | (go_at_call 22; (with_reducible refine (weigh_Tame.calls t122 t138 _ A29.out).mono ?_); rintro e w' ⟨rfl, ⟨nd, rfl⟩⟩; obtain ⟨Ao77, co77, eo77⟩ := Kd.R_slice HO131.out; subst eo77))
                    go_ret
                    exact ⟨by first | rfl | (simp [errW_none, errW_some] <;> rfl) | (simp [*, errW_none, errW_some] <;> rfl), by repeat (first | (with_reducible first | exact HB.out | apply below_alloc | apply pw_below_drewN | apply below_drew1) | exact HB.out)⟩
                · replace c31 := Bool.eq_false_iff.mpr c31
                  subst c31
                  have H1 : (some false) = some r := by rw [if_neg (show ¬ (false = true) by decide)] at H; exact H
                  clear H
                  have H := H1
                  clear H1
                  obtain rfl := Option.some.inj H
                  go_enter Try.func12, Try.ntmps12
                  go_wp2_with (first | ((with_reducible refine gate_callee (f := 24) rfl ?_); refine goesL_ (some 6) rfl rfl Try.func24 (by kernel_rfl) rfl #[] rfl (by (try simp only [List.map_toArray, List.map_cons, List.map_nil]); first | done | rfl | (simp only [List.length_drop, List.length_take]; rfl)) ?_; (with_reducible refine (math_NaN.calls  t122 _ A1.out).mono ?_); rintro e w' ⟨rfl, ⟨nd, rfl⟩⟩; refine ⟨_, rfl, ?_⟩) | ((with_reducible refine gate_callee (f := 33) rfl ?_); refine goesL_ (some 7) rfl rfl Try.func33 (by kernel_rfl) rfl #[.int .i64 1] rfl (by (try simp only [List.map_toArray, List.map_cons, List.map_nil]); first | done | rfl | (simp only [List.length_drop, List.length_take]; rfl)) ?_; (with_reducible refine (math_Inf.calls 1 t123 _ A2.out).mono ?_); rintro e w' ⟨rfl, ⟨nd, rfl⟩⟩; refine ⟨_, rfl, ?_⟩) | ((with_reducible refine gate_callee (f := 34) rfl ?_); refine goesL_ (some 8) rfl rfl Try.func34 (by kernel_rfl) rfl #[.float .f64 0, .float .f64 13830554455654793216] rfl (by (try simp only [List.map_toArray, List.map_cons, List.map_nil]); first | done | rfl | (simp only [List.length_drop, List.length_take]; rfl)) ?_; (with_reducible refine (math_Copysign.calls 0 13830554455654793216 t124 _ A3.out).mono ?_); rintro e w' ⟨rfl, ⟨nd, rfl⟩⟩; refine ⟨_, rfl, ?_⟩) | ((with_reducible refine gate_dst (N := 10) rfl ?_); (try (refine gate_guard (by rfl) ?_; dsimp only)); refine Kd.R_lit Kd.f64 _ 30 ?hg (N := 10) ?hd (xs := ([4607182418800017408, 7598952565167317594] : List Nat)) (inner := [.float .f64 4607182418800017408, .float .f64 7598952565167317594]) (ok := fun _ => True) (okp := fun _ => True) ?hr ?hp (fun _ hk => hk) trivial (Below.refl _ _) (Nat.le_refl _) (by simp) ?_; (case hd => rfl); (case hg => rfl); (case hr => first | (go_simp; done) | (go_simp; rfl)); (case hp => exact (Reps.one (show Kd.M Kd.f64 _ _ _ 4607182418800017408 [.float .f64 4607182418800017408] from rfl) (Reps.one (show Kd.M Kd.f64 _ _ _ 7598952565167317594 [.float .f64 7598952565167317594] from rfl) (Reps.none _ _)))); intro v126 w78 ho79 hb hg_ hnew_; clear hg_ hnew_; (first | rw [← Ny125.out] at ho79 | (simp only [Int.reduceToNat] at ho79; rw [← Ny125.out] at ho79)); have n0_ := Aside0.mk (Kd.R_lower ho79 (below_size (by repeat (first | (with_reducible first | exact HB.out | apply below_alloc | apply pw_below_drewN | apply below_drew1) | exact HB.out)))); have n1_ := Aside0.mk (below_step (by repeat (first | (with_reducible first | exact HB.out | apply below_alloc | apply pw_below_drewN | apply below_drew1) | exact HB.out)) hb); clear HB; have HO127 := n0_; have HB := n1_; clear n0_ n1_; clear hb ho79; obtain ⟨Ao80, co80, eo80⟩ := Kd.R_slice HO127.out; subst eo80) | ((with_reducible refine gate_callee (f := 14) rfl ?_); refine goesL_ (some 11) rfl rfl Try.func14 (by kernel_rfl) rfl #[.slice Ao80 y125.length co80] rfl (by (try simp only [List.map_toArray, List.map_cons, List.map_nil]); first | done | rfl | (simp only [List.length_drop, List.length_take]; rfl)) ?_; (with_reducible refine (weigh_Rescale.calls k _ _ y125 t128 false _ ?side1 ?side2 A4.out).mono ?_); (case side1 => repeat (first | exact (Kd.R_reads' HO127.out).2.2 | (with_reducible refine Kd.C_alloc ?_ _) | (with_reducible refine Kd.C_drewN ?_ _) | (with_reducible refine Kd.C_drew ?_))); (case side2 => exact (Kd.R_reads' HO127.out).2.1); rintro e w81 ⟨v130, rfl, ho0, hb⟩; refine ⟨_, rfl, ?_⟩; have n0_ := Aside0.mk (Kd.R_elder' (by (with_reducible repeat (first | apply Kd.R_alloc | apply Kd.R_drewN | apply Kd.R_drew)); exact HO127.out) (Kd.R_base ho0) hb); have n1_ := Aside0.mk (Kd.R_lower (Kd.R_new' ho0 (Kd.R_lt (by (with_reducible repeat (first | apply Kd.R_alloc | apply Kd.R_drewN | apply Kd.R_drew)); exact HO127.out))) (below_size (by repeat (first | (with_reducible first | exact HB.out | apply below_alloc | apply pw_below_drewN | apply below_drew1) | exact HB.out)))); have n2_ := Aside0.mk (below_step (by repeat (first | (with_reducible first | exact HB.out | apply below_alloc | apply pw_below_drewN | apply below_drew1) | exact HB.out)) hb); clear HO127; clear HB; have HO127 := n0_; have HO131 := n1_; have HB := n2_; clear n0_ n1_ n2_; (try clear hb); (try clear hb2); (try clear hk); (try clear hi); (try clear ho0)) | ((with_reducible refine gate_callee (f := 21) rfl ?_); refine goesL_ (some 15) rfl rfl Try.func21 (by kernel_rfl) rfl #[.float .f64 t124, .float .f64 0] rfl (by (try simp only [List.map_toArray, List.map_cons, List.map_nil]); first | done | rfl | (simp only [List.length_drop, List.length_take]; rfl)) ?_; (with_reducible refine (weigh_Less.calls k t124 0 true _ A5.out).mono ?_); rintro e w' ⟨rfl, ⟨nd, rfl⟩⟩; refine ⟨_, rfl, ?_⟩) | (go_at_call 21; (with_reducible refine (weigh_Less.calls k 0 t124 false _ A7.out).mono ?_); rintro e w' ⟨rfl, ⟨nd, rfl⟩⟩) | (go_at_call 21; (with_reducible refine (weigh_Less.calls k t122 (fNeg t123) true _ A13.out).mono ?_); rintro e w' ⟨rfl, ⟨nd, rfl⟩⟩) | (go_at_call 21; (with_reducible refine (weigh_Less.calls k t122 t122 false _ A15.out).mono ?_); rintro e w' ⟨rfl, ⟨nd, rfl⟩⟩) | (go_at_call 21; (with_reducible refine (weigh_Less.calls k t123 t122 false _ A21.out).mono ?_); rintro e w' ⟨rfl, ⟨nd, rfl⟩⟩) | (go_at_call 23; (with_reducible refine (weigh_Bump.calls t123 4607182418800017408 t137 _ A27.out).mono ?_); rintro e w' ⟨rfl, ⟨nd, rfl⟩⟩) | (go_at_call 22; (with_reducible refine (weigh_Tame.calls t122 t138 _ A29.out).mono ?_); rintro e w' ⟨rfl, ⟨nd, rfl⟩⟩))
                  go_ret
                  exact ⟨by first | rfl | (simp [errW_none, errW_some] <;> rfl) | (simp [*, errW_none, errW_some] <;> rfl), by repeat (first | (with_reducible first | exact HB.out | apply below_alloc | apply pw_below_drewN | apply below_drew1) | exact HB.out)⟩
              · rw [if_neg c30] at H
                have c30b0 : fEq t138 0 = false := by simpa using c30
                clear c30
                obtain rfl := Option.some.inj H
                go_enter Try.func12, Try.ntmps12
                go_wp2_with (first | ((with_reducible refine gate_callee (f := 24) rfl ?_); refine goesL_ (some 6) rfl rfl Try.func24 (by kernel_rfl) rfl #[] rfl (by (try simp only [List.map_toArray, List.map_cons, List.map_nil]); first | done | rfl | (simp only [List.length_drop, List.length_take]; rfl)) ?_; (with_reducible refine (math_NaN.calls  t122 _ A1.out).mono ?_); rintro e w' ⟨rfl, ⟨nd, rfl⟩⟩; refine ⟨_, rfl, ?_⟩) | ((with_reducible refine gate_callee (f := 33) rfl ?_); refine goesL_ (some 7) rfl rfl Try.func33 (by kernel_rfl) rfl #[.int .i64 1] rfl (by (try simp only [List.map_toArray, List.map_cons, List.map_nil]); first | done | rfl | (simp only [List.length_drop, List.length_take]; rfl)) ?_; (with_reducible refine (math_Inf.calls 1 t123 _ A2.out).mono ?_); rintro e w' ⟨rfl, ⟨nd, rfl⟩⟩; refine ⟨_, rfl, ?_⟩) | ((with_reducible refine gate_callee (f := 34) rfl ?_); refine goesL_ (some 8) rfl rfl Try.func34 (by kernel_rfl) rfl #[.float .f64 0, .float .f64 13830554455654793216] rfl (by (try simp only [List.map_toArray, List.map_cons, List.map_nil]); first | done | rfl | (simp only [List.length_drop, List.length_take]; rfl)) ?_; (with_reducible refine (math_Copysign.calls 0 13830554455654793216 t124 _ A3.out).mono ?_); rintro e w' ⟨rfl, ⟨nd, rfl⟩⟩; refine ⟨_, rfl, ?_⟩) | ((with_reducible refine gate_dst (N := 10) rfl ?_); (try (refine gate_guard (by rfl) ?_; dsimp only)); refine Kd.R_lit Kd.f64 _ 30 ?hg (N := 10) ?hd (xs := ([4607182418800017408, 7598952565167317594] : List Nat)) (inner := [.float .f64 4607182418800017408, .float .f64 7598952565167317594]) (ok := fun _ => True) (okp := fun _ => True) ?hr ?hp (fun _ hk => hk) trivial (Below.refl _ _) (Nat.le_refl _) (by simp) ?_; (case hd => rfl); (case hg => rfl); (case hr => first | (go_simp; done) | (go_simp; rfl)); (case hp => exact (Reps.one (show Kd.M Kd.f64 _ _ _ 4607182418800017408 [.float .f64 4607182418800017408] from rfl) (Reps.one (show Kd.M Kd.f64 _ _ _ 7598952565167317594 [.float .f64 7598952565167317594] from rfl) (Reps.none _ _)))); intro v126 w82 ho83 hb hg_ hnew_; clear hg_ hnew_; (first | rw [← Ny125.out] at ho83 | (simp only [Int.reduceToNat] at ho83; rw [← Ny125.out] at ho83)); have n0_ := Aside0.mk (Kd.R_lower ho83 (below_size (by repeat (first | (with_reducible first | exact HB.out | apply below_alloc | apply pw_below_drewN | apply below_drew1) | exact HB.out)))); have n1_ := Aside0.mk (below_step (by repeat (first | (with_reducible first | exact HB.out | apply below_alloc | apply pw_below_drewN | apply below_drew1) | exact HB.out)) hb); clear HB; have HO127 := n0_; have HB := n1_; clear n0_ n1_; clear hb ho83; obtain ⟨Ao84, co84, eo84⟩ := Kd.R_slice HO127.out; subst eo84) | ((with_reducible refine gate_callee (f := 14) rfl ?_); refine goesL_ (some 11) rfl rfl Try.func14 (by kernel_rfl) rfl #[.slice Ao84 y125.length co84] rfl (by (try simp only [List.map_toArray, List.map_cons, List.map_nil]); first | done | rfl | (simp only [List.length_drop, List.length_take]; rfl)) ?_; (with_reducible refine (weigh_Rescale.calls k _ _ y125 t128 t129 _ ?side1 ?side2 A4.out).mono ?_); (case side1 => repeat (first | exact (Kd.R_reads' HO127.out).2.2 | (with_reducible refine Kd.C_alloc ?_ _) | (with_reducible refine Kd.C_drewN ?_ _) | (with_reducible refine Kd.C_drew ?_))); (case side2 => exact (Kd.R_reads' HO127.out).2.1); rintro e w85 ⟨v130, rfl, ho0, hb⟩; refine ⟨_, rfl, ?_⟩; have n0_ := Aside0.mk (Kd.R_elder' (by (with_reducible repeat (first | apply Kd.R_alloc | apply Kd.R_drewN | apply Kd.R_drew)); exact HO127.out) (Kd.R_base ho0) hb); have n1_ := Aside0.mk (Kd.R_lower (Kd.R_new' ho0 (Kd.R_lt (by (with_reducible repeat (first | apply Kd.R_alloc | apply Kd.R_drewN | apply Kd.R_drew)); exact HO127.out))) (below_size (by repeat (first | (with_reducible first | exact HB.out | apply below_alloc | apply pw_below_drewN | apply below_drew1) | exact HB.out)))); have n2_ := Aside0.mk (below_step (by repeat (first | (with_reducible first | exact HB.out | apply below_alloc | apply pw_below_drewN | apply below_drew1) | exact HB.out)) hb); clear HO127; clear HB; have HO127 := n0_; have HO131 := n1_; have HB := n2_; clear n0_ n1_ n2_; (try clear hb); (try clear hb2); (try clear hk); (try clear hi); (try clear ho0)) | ((with_reducible refine gate_callee (f := 21) rfl ?_); refine goesL_ (some 15) rfl rfl Try.func21 (by kernel_rfl) rfl #[.float .f64 t124, .float .f64 0] rfl (by (try simp only [List.map_toArray, List.map_cons, List.map_nil]); first | done | rfl | (simp only [List.length_drop, List.length_take]; rfl)) ?_; (with_reducible refine (weigh_Less.calls k t124 0 true _ A5.out).mono ?_); rintro e w' ⟨rfl, ⟨nd, rfl⟩⟩; refine ⟨_, rfl, ?_⟩) | (go_at_call 21; (with_reducible refine (weigh_Less.calls k 0 t124 false _ A7.out).mono ?_); rintro e w' ⟨rfl, ⟨nd, rfl⟩⟩) | (go_at_call 21; (with_reducible refine (weigh_Less.calls k t122 (fNeg t123) true _ A13.out).mono ?_); rintro e w' ⟨rfl, ⟨nd, rfl⟩⟩) | (go_at_call 21; (with_reducible refine (weigh_Less.calls k t122 t122 false _ A15.out).mono ?_); rintro e w' ⟨rfl, ⟨nd, rfl⟩⟩) | (go_at_call 21; (with_reducible refine (weigh_Less.calls k t123 t122 false _ A21.out).mono ?_); rintro e w' ⟨rfl, ⟨nd, rfl⟩⟩) | (go_at_call 23; (with_reducible refine (weigh_Bump.calls t123 4607182418800017408 t137 _ A27.out).mono ?_); rintro e w' ⟨rfl, ⟨nd, rfl⟩⟩) | (go_at_call 22; (with_reducible refine (weigh_Tame.calls t122 t138 _ A29.out).mono ?_); rintro e w' ⟨rfl, ⟨nd, rfl⟩⟩))
                go_ret
                exact ⟨by first | rfl | (simp [errW_none, errW_some] <;> rfl) | (simp [*, errW_none, errW_some] <;> rfl), by repeat (first | (with_reducible first | exact HB.out | apply below_alloc | apply pw_below_drewN | apply below_drew1) | exact HB.out)⟩
            · rw [if_neg c28] at H
              have c28b0 : fEq t137 9218868437227405311 = false := by simpa using c28
              clear c28
              obtain rfl := Option.some.inj H
              go_enter Try.func12, Try.ntmps12
              go_wp2_with (first | ((with_reducible refine gate_callee (f := 24) rfl ?_); refine goesL_ (some 6) rfl rfl Try.func24 (by kernel_rfl) rfl #[] rfl (by (try simp only [List.map_toArray, List.map_cons, List.map_nil]); first | done | rfl | (simp only [List.length_drop, List.length_take]; rfl)) ?_; (with_reducible refine (math_NaN.calls  t122 _ A1.out).mono ?_); rintro e w' ⟨rfl, ⟨nd, rfl⟩⟩; refine ⟨_, rfl, ?_⟩) | ((with_reducible refine gate_callee (f := 33) rfl ?_); refine goesL_ (some 7) rfl rfl Try.func33 (by kernel_rfl) rfl #[.int .i64 1] rfl (by (try simp only [List.map_toArray, List.map_cons, List.map_nil]); first | done | rfl | (simp only [List.length_drop, List.length_take]; rfl)) ?_; (with_reducible refine (math_Inf.calls 1 t123 _ A2.out).mono ?_); rintro e w' ⟨rfl, ⟨nd, rfl⟩⟩; refine ⟨_, rfl, ?_⟩) | ((with_reducible refine gate_callee (f := 34) rfl ?_); refine goesL_ (some 8) rfl rfl Try.func34 (by kernel_rfl) rfl #[.float .f64 0, .float .f64 13830554455654793216] rfl (by (try simp only [List.map_toArray, List.map_cons, List.map_nil]); first | done | rfl | (simp only [List.length_drop, List.length_take]; rfl)) ?_; (with_reducible refine (math_Copysign.calls 0 13830554455654793216 t124 _ A3.out).mono ?_); rintro e w' ⟨rfl, ⟨nd, rfl⟩⟩; refine ⟨_, rfl, ?_⟩) | ((with_reducible refine gate_dst (N := 10) rfl ?_); (try (refine gate_guard (by rfl) ?_; dsimp only)); refine Kd.R_lit Kd.f64 _ 30 ?hg (N := 10) ?hd (xs := ([4607182418800017408, 7598952565167317594] : List Nat)) (inner := [.float .f64 4607182418800017408, .float .f64 7598952565167317594]) (ok := fun _ => True) (okp := fun _ => True) ?hr ?hp (fun _ hk => hk) trivial (Below.refl _ _) (Nat.le_refl _) (by simp) ?_; (case hd => rfl); (case hg => rfl); (case hr => first | (go_simp; done) | (go_simp; rfl)); (case hp => exact (Reps.one (show Kd.M Kd.f64 _ _ _ 4607182418800017408 [.float .f64 4607182418800017408] from rfl) (Reps.one (show Kd.M Kd.f64 _ _ _ 7598952565167317594 [.float .f64 7598952565167317594] from rfl) (Reps.none _ _)))); intro v126 w86 ho87 hb hg_ hnew_; clear hg_ hnew_; (first | rw [← Ny125.out] at ho87 | (simp only [Int.reduceToNat] at ho87; rw [← Ny125.out] at ho87)); have n0_ := Aside0.mk (Kd.R_lower ho87 (below_size (by repeat (first | (with_reducible first | exact HB.out | apply below_alloc | apply pw_below_drewN | apply below_drew1) | exact HB.out)))); have n1_ := Aside0.mk (below_step (by repeat (first | (with_reducible first | exact HB.out | apply below_alloc | apply pw_below_drewN | apply below_drew1) | exact HB.out)) hb); clear HB; have HO127 := n0_; have HB := n1_; clear n0_ n1_; clear hb ho87; obtain ⟨Ao88, co88, eo88⟩ := Kd.R_slice HO127.out; subst eo88) | ((with_reducible refine gate_callee (f := 14) rfl ?_); refine goesL_ (some 11) rfl rfl Try.func14 (by kernel_rfl) rfl #[.slice Ao88 y125.length co88] rfl (by (try simp only [List.map_toArray, List.map_cons, List.map_nil]); first | done | rfl | (simp only [List.length_drop, List.length_take]; rfl)) ?_; (with_reducible refine (weigh_Rescale.calls k _ _ y125 t128 t129 _ ?side1 ?side2 A4.out).mono ?_); (case side1 => repeat (first | exact (Kd.R_reads' HO127.out).2.2 | (with_reducible refine Kd.C_alloc ?_ _) | (with_reducible refine Kd.C_drewN ?_ _) | (with_reducible refine Kd.C_drew ?_))); (case side2 => exact (Kd.R_reads' HO127.out).2.1); rintro e w89 ⟨v130, rfl, ho0, hb⟩; refine ⟨_, rfl, ?_⟩; have n0_ := Aside0.mk (Kd.R_elder' (by (with_reducible repeat (first | apply Kd.R_alloc | apply Kd.R_drewN | apply Kd.R_drew)); exact HO127.out) (Kd.R_base ho0) hb); have n1_ := Aside0.mk (Kd.R_lower (Kd.R_new' ho0 (Kd.R_lt (by (with_reducible repeat (first | apply Kd.R_alloc | apply Kd.R_drewN | apply Kd.R_drew)); exact HO127.out))) (below_size (by repeat (first | (with_reducible first | exact HB.out | apply below_alloc | apply pw_below_drewN | apply below_drew1) | exact HB.out)))); have n2_ := Aside0.mk (below_step (by repeat (first | (with_reducible first | exact HB.out | apply below_alloc | apply pw_below_drewN | apply below_drew1) | exact HB.out)) hb); clear HO127; clear HB; have HO127 := n0_; have HO131 := n1_; have HB := n2_; clear n0_ n1_ n2_; (try clear hb); (try clear hb2); (try clear hk); (try clear hi); (try clear ho0)) | ((with_reducible refine gate_callee (f := 21) rfl ?_); refine goesL_ (some 15) rfl rfl Try.func21 (by kernel_rfl) rfl #[.float .f64 t124, .float .f64 0] rfl (by (try simp only [List.map_toArray, List.map_cons, List.map_nil]); first | done | rfl | (simp only [List.length_drop, List.length_take]; rfl)) ?_; (with_reducible refine (weigh_Less.calls k t124 0 true _ A5.out).mono ?_); rintro e w' ⟨rfl, ⟨nd, rfl⟩⟩; refine ⟨_, rfl, ?_⟩) | (go_at_call 21; (with_reducible refine (weigh_Less.calls k 0 t124 false _ A7.out).mono ?_); rintro e w' ⟨rfl, ⟨nd, rfl⟩⟩) | (go_at_call 21; (with_reducible refine (weigh_Less.calls k t122 (fNeg t123) true _ A13.out).mono ?_); rintro e w' ⟨rfl, ⟨nd, rfl⟩⟩) | (go_at_call 21; (with_reducible refine (weigh_Less.calls k t122 t122 false _ A15.out).mono ?_); rintro e w' ⟨rfl, ⟨nd, rfl⟩⟩) | (go_at_call 21; (with_reducible refine (weigh_Less.calls k t123 t122 false _ A21.out).mono ?_); rintro e w' ⟨rfl, ⟨nd, rfl⟩⟩) | (go_at_call 23; (with_reducible refine (weigh_Bump.calls t123 4607182418800017408 t137 _ A27.out).mono ?_); rintro e w' ⟨rfl, ⟨nd, rfl⟩⟩))
              go_ret
              exact ⟨by first | rfl | (simp [errW_none, errW_some] <;> rfl) | (simp [*, errW_none, errW_some] <;> rfl), by repeat (first | (with_reducible first | exact HB.out | apply below_alloc | apply pw_below_drewN | apply below_drew1) | exact HB.out)⟩
      · replace c14 := Bool.eq_false_iff.mpr c14
        subst c14
        have H1 : (some false) = some r := by rw [if_neg (show ¬ (false = true) by decide)] at H; exact H
        clear H
        have H := H1
        clear H1
        obtain rfl := Option.some.inj H
        go_enter Try.func12, Try.ntmps12
        go_wp2_with (first | ((with_reducible refine gate_callee (f := 24) rfl ?_); refine goesL_ (some 6) rfl rfl Try.func24 (by kernel_rfl) rfl #[] rfl (by (try simp only [List.map_toArray, List.map_cons, List.map_nil]); first | done | rfl | (simp only [List.length_drop, List.length_take]; rfl)) ?_; (with_reducible refine (math_NaN.calls  t122 _ A1.out).mono ?_); rintro e w' ⟨rfl, ⟨nd, rfl⟩⟩; refine ⟨_, rfl, ?_⟩) | ((with_reducible refine gate_callee (f := 33) rfl ?_); refine goesL_ (some 7) rfl rfl Try.func33 (by kernel_rfl) rfl #[.int .i64 1] rfl (by (try simp only [List.map_toArray, List.map_cons, List.map_nil]); first | done | rfl | (simp only [List.length_drop, List.length_take]; rfl)) ?_; (with_reducible refine (math_Inf.calls 1 t123 _ A2.out).mono ?_); rintro e w' ⟨rfl, ⟨nd, rfl⟩⟩; refine ⟨_, rfl, ?_⟩) | ((with_reducible refine gate_callee (f := 34) rfl ?_); refine goesL_ (some 8) rfl rfl Try.func34 (by kernel_rfl) rfl #[.float .f64 0, .float .f64 13830554455654793216] rfl (by (try simp only [List.map_toArray, List.map_cons, List.map_nil]); first | done | rfl | (simp only [List.length_drop, List.length_take]; rfl)) ?_; (with_reducible refine (math_Copysign.calls 0 13830554455654793216 t124 _ A3.out).mono ?_); rintro e w' ⟨rfl, ⟨nd, rfl⟩⟩; refine ⟨_, rfl, ?_⟩) | ((with_reducible refine gate_dst (N := 10) rfl ?_); (try (refine gate_guard (by rfl) ?_; dsimp only)); refine Kd.R_lit Kd.f64 _ 30 ?hg (N := 10) ?hd (xs := ([4607182418800017408, 7598952565167317594] : List Nat)) (inner := [.float .f64 4607182418800017408, .float .f64 7598952565167317594]) (ok := fun _ => True) (okp := fun _ => True) ?hr ?hp (fun _ hk => hk) trivial (Below.refl _ _) (Nat.le_refl _) (by simp) ?_; (case hd => rfl); (case hg => rfl); (case hr => first | (go_simp; done) | (go_simp; rfl)); (case hp => exact (Reps.one (show Kd.M Kd.f64 _ _ _ 4607182418800017408 [.float .f64 4607182418800017408] from rfl) (Reps.one (show Kd.M Kd.f64 _ _ _ 7598952565167317594 [.float .f64 7598952565167317594] from rfl) (Reps.none _ _)))); intro v126 w90 ho91 hb hg_ hnew_; clear hg_ hnew_; (first | rw [← Ny125.out] at ho91 | (simp only [Int.reduceToNat] at ho91; rw [← Ny125.out] at ho91)); have n0_ := Aside0.mk (Kd.R_lower ho91 (below_size (by repeat (first | (with_reducible first | exact HB.out | apply below_alloc | apply pw_below_drewN | apply below_drew1) | exact HB.out)))); have n1_ := Aside0.mk (below_step (by repeat (first | (with_reducible first | exact HB.out | apply below_alloc | apply pw_below_drewN | apply below_drew1) | exact HB.out)) hb); clear HB; have HO127 := n0_; have HB := n1_; clear n0_ n1_; clear hb ho91; obtain ⟨Ao92, co92, eo92⟩ := Kd.R_slice HO127.out; subst eo92) | ((with_reducible refine gate_callee (f := 14) rfl ?_); refine goesL_ (some 11) rfl rfl Try.func14 (by kernel_rfl) rfl #[.slice Ao92 y125.length co92] rfl (by (try simp only [List.map_toArray, List.map_cons, List.map_nil]); first | done | rfl | (simp only [List.length_drop, List.length_take]; rfl)) ?_; (with_reducible refine (weigh_Rescale.calls k _ _ y125 t128 t129 _ ?side1 ?side2 A4.out).mono ?_); (case side1 => repeat (first | exact (Kd.R_reads' HO127.out).2.2 | (with_reducible refine Kd.C_alloc ?_ _) | (with_reducible refine Kd.C_drewN ?_ _) | (with_reducible refine Kd.C_drew ?_))); (case side2 => exact (Kd.R_reads' HO127.out).2.1); rintro e w93 ⟨v130, rfl, ho0, hb⟩; refine ⟨_, rfl, ?_⟩; have n0_ := Aside0.mk (Kd.R_elder' (by (with_reducible repeat (first | apply Kd.R_alloc | apply Kd.R_drewN | apply Kd.R_drew)); exact HO127.out) (Kd.R_base ho0) hb); have n1_ := Aside0.mk (Kd.R_lower (Kd.R_new' ho0 (Kd.R_lt (by (with_reducible repeat (first | apply Kd.R_alloc | apply Kd.R_drewN | apply Kd.R_drew)); exact HO127.out))) (below_size (by repeat (first | (with_reducible first | exact HB.out | apply below_alloc | apply pw_below_drewN | apply below_drew1) | exact HB.out)))); have n2_ := Aside0.mk (below_step (by repeat (first | (with_reducible first | exact HB.out | apply below_alloc | apply pw_below_drewN | apply below_drew1) | exact HB.out)) hb); clear HO127; clear HB; have HO127 := n0_; have HO131 := n1_; have HB := n2_; clear n0_ n1_ n2_; (try clear hb); (try clear hb2); (try clear hk); (try clear hi); (try clear ho0)) | ((with_reducible refine gate_callee (f := 21) rfl ?_); refine goesL_ (some 15) rfl rfl Try.func21 (by kernel_rfl) rfl #[.float .f64 t124, .float .f64 0] rfl (by (try simp only [List.map_toArray, List.map_cons, List.map_nil]); first | done | rfl | (simp only [List.length_drop, List.length_take]; rfl)) ?_; (with_reducible refine (weigh_Less.calls k t124 0 true _ A5.out).mono ?_); rintro e w' ⟨rfl, ⟨nd, rfl⟩⟩; refine ⟨_, rfl, ?_⟩) | (go_at_call 21; (with_reducible refine (weigh_Less.calls k 0 t124 false _ A7.out).mono ?_); rintro e w' ⟨rfl, ⟨nd, rfl⟩⟩) | (go_at_call 21; (with_reducible refine (weigh_Less.calls k t122 (fNeg t123) false _ A13.out).mono ?_); rintro e w' ⟨rfl, ⟨nd, rfl⟩⟩))
        go_ret
        exact ⟨by first | rfl | (simp [errW_none, errW_some] <;> rfl) | (simp [*, errW_none, errW_some] <;> rfl), by repeat (first | (with_reducible first | exact HB.out | apply below_alloc | apply pw_below_drewN | apply below_drew1) | exact HB.out)⟩
  · replace c6 := Bool.eq_false_iff.mpr c6
    subst c6
    have H1 : (some false) = some r := by rw [if_neg (show ¬ (false = true) by decide)] at H; exact H
    clear H
    have H := H1
    clear H1
    obtain rfl := Option.some.inj H
    go_enter Try.func12, Try.ntmps12
    go_wp2_with (first | ((with_reducible refine gate_callee (f := 24) rfl ?_); refine goesL_ (some 6) rfl rfl Try.func24 (by kernel_rfl) rfl #[] rfl (by (try simp only [List.map_toArray, List.map_cons, List.map_nil]); first | done | rfl | (simp only [List.length_drop, List.length_take]; rfl)) ?_; (with_reducible refine (math_NaN.calls  t122 _ A1.out).mono ?_); rintro e w' ⟨rfl, ⟨nd, rfl⟩⟩; refine ⟨_, rfl, ?_⟩) | ((with_reducible refine gate_callee (f := 33) rfl ?_); refine goesL_ (some 7) rfl rfl Try.func33 (by kernel_rfl) rfl #[.int .i64 1] rfl (by (try simp only [List.map_toArray, List.map_cons, List.map_nil]); first | done | rfl | (simp only [List.length_drop, List.length_take]; rfl)) ?_; (with_reducible refine (math_Inf.calls 1 t123 _ A2.out).mono ?_); rintro e w' ⟨rfl, ⟨nd, rfl⟩⟩; refine ⟨_, rfl, ?_⟩) | ((with_reducible refine gate_callee (f := 34) rfl ?_); refine goesL_ (some 8) rfl rfl Try.func34 (by kernel_rfl) rfl #[.float .f64 0, .float .f64 13830554455654793216] rfl (by (try simp only [List.map_toArray, List.map_cons, List.map_nil]); first | done | rfl | (simp only [List.length_drop, List.length_take]; rfl)) ?_; (with_reducible refine (math_Copysign.calls 0 13830554455654793216 t124 _ A3.out).mono ?_); rintro e w' ⟨rfl, ⟨nd, rfl⟩⟩; refine ⟨_, rfl, ?_⟩) | ((with_reducible refine gate_dst (N := 10) rfl ?_); (try (refine gate_guard (by rfl) ?_; dsimp only)); refine Kd.R_lit Kd.f64 _ 30 ?hg (N := 10) ?hd (xs := ([4607182418800017408, 7598952565167317594] : List Nat)) (inner := [.float .f64 4607182418800017408, .float .f64 7598952565167317594]) (ok := fun _ => True) (okp := fun _ => True) ?hr ?hp (fun _ hk => hk) trivial (Below.refl _ _) (Nat.le_refl _) (by simp) ?_; (case hd => rfl); (case hg => rfl); (case hr => first | (go_simp; done) | (go_simp; rfl)); (case hp => exact (Reps.one (show Kd.M Kd.f64 _ _ _ 4607182418800017408 [.float .f64 4607182418800017408] from rfl) (Reps.one (show Kd.M Kd.f64 _ _ _ 7598952565167317594 [.float .f64 7598952565167317594] from rfl) (Reps.none _ _)))); intro v126 w94 ho95 hb hg_ hnew_; clear hg_ hnew_; (first | rw [← Ny125.out] at ho95 | (simp only [Int.reduceToNat] at ho95; rw [← Ny125.out] at ho95)); have n0_ := Aside0.mk (Kd.R_lower ho95 (below_size (by repeat (first | (with_reducible first | exact HB.out | apply below_alloc | apply pw_below_drewN | apply below_drew1) | exact HB.out)))); have n1_ := Aside0.mk (below_step (by repeat (first | (with_reducible first | exact HB.out | apply below_alloc | apply pw_below_drewN | apply below_drew1) | exact HB.out)) hb); clear HB; have HO127 := n0_; have HB := n1_; clear n0_ n1_; clear hb ho95; obtain ⟨Ao96, co96, eo96⟩ := Kd.R_slice HO127.out; subst eo96) | ((with_reducible refine gate_callee (f := 14) rfl ?_); refine goesL_ (some 11) rfl rfl Try.func14 (by kernel_rfl) rfl #[.slice Ao96 y125.length co96] rfl (by (try simp only [List.map_toArray, List.map_cons, List.map_nil]); first | done | rfl | (simp only [List.length_drop, List.length_take]; rfl)) ?_; (with_reducible refine (weigh_Rescale.calls k _ _ y125 t128 t129 _ ?side1 ?side2 A4.out).mono ?_); (case side1 => repeat (first | exact (Kd.R_reads' HO127.out).2.2 | (with_reducible refine Kd.C_alloc ?_ _) | (with_reducible refine Kd.C_drewN ?_ _) | (with_reducible refine Kd.C_drew ?_))); (case side2 => exact (Kd.R_reads' HO127.out).2.1); rintro e w97 ⟨v130, rfl, ho0, hb⟩; refine ⟨_, rfl, ?_⟩; have n0_ := Aside0.mk (Kd.R_elder' (by (with_reducible repeat (first | apply Kd.R_alloc | apply Kd.R_drewN | apply Kd.R_drew)); exact HO127.out) (Kd.R_base ho0) hb); have n1_ := Aside0.mk (Kd.R_lower (Kd.R_new' ho0 (Kd.R_lt (by (with_reducible repeat (first | apply Kd.R_alloc | apply Kd.R_drewN | apply Kd.R_drew)); exact HO127.out))) (below_size (by repeat (first | (with_reducible first | exact HB.out | apply below_alloc | apply pw_below_drewN | apply below_drew1) | exact HB.out)))); have n2_ := Aside0.mk (below_step (by repeat (first | (with_reducible first | exact HB.out | apply below_alloc | apply pw_below_drewN | apply below_drew1) | exact HB.out)) hb); clear HO127; clear HB; have HO127 := n0_; have HO131 := n1_; have HB := n2_; clear n0_ n1_ n2_; (try clear hb); (try clear hb2); (try clear hk); (try clear hi); (try clear ho0)) | ((with_reducible refine gate_callee (f := 21) rfl ?_); refine goesL_ (some 15) rfl rfl Try.func21 (by kernel_rfl) rfl #[.float .f64 t124, .float .f64 0] rfl (by (try simp only [List.map_toArray, List.map_cons, List.map_nil]); first | done | rfl | (simp only [List.length_drop, List.length_take]; rfl)) ?_; (with_reducible refine (weigh_Less.calls k t124 0 false _ A5.out).mono ?_); rintro e w' ⟨rfl, ⟨nd, rfl⟩⟩; refine ⟨_, rfl, ?_⟩))
    go_ret
    exact ⟨by first | rfl | (simp [errW_none, errW_some] <;> rfl) | (simp [*, errW_none, errW_some] <;> rfl), by repeat (first | (with_reducible first | exact HB.out | apply below_alloc | apply pw_below_drewN | apply below_drew1) | exact HB.out)⟩

/-! ### ashlarlaw02_floats: function 13 -/
def ashlarlaw02_floats.l0 : Nat → List Int → List Nat → Int → Option (List Nat)
  | 0, _, _, _ => none
  | k + 1, x0, x3, x4 => if x4 < (x0.length : Int) then (if x4 < 100 then (if 0 ≤ x4 then (if x3.length < 17592186044416 then (ashlarlaw02_floats.l0 k x0 (x3 ++ [(rd x0 x4).toNat]) (wrap64 (x4 + 1))) else (none)) else (none)) else (some x3)) else (some x3)
def ashlarlaw02_floats.f (k : Nat) (l0 : List Int) : Option (List Nat) := ashlarlaw02_floats.l0 k l0 (([] : List Nat)) 0
theorem ashlarlaw02_floats.mono_l : ∀ k, (∀ y0 y1 y2, LeO (ashlarlaw02_floats.l0 k y0 y1 y2) (ashlarlaw02_floats.l0 (k + 1) y0 y1 y2))
  | 0 => fun _ _ _ r h => by simp [ashlarlaw02_floats.l0] at h
  | k + 1 => by
    have ih0 := ashlarlaw02_floats.mono_l k
    · intro y0 y1 y2
      unfold ashlarlaw02_floats.l0
      repeat' first
      | (with_reducible exact ih0 _ _ _)
      | (with_reducible exact LeO.refl _)
      | (with_reducible exact LeO.none _)
      | (with_reducible refine LeO.ite ?_ ?_)
      | (with_reducible refine LeO.bind ?_ (fun _ => ?_))
      | exact ih0 _ _ _
      | exact LeO.none _
      | refine LeO.ite ?_ ?_
      | refine LeO.bind ?_ (fun _ => ?_)
theorem ashlarlaw02_floats.mono : ∀ a0 k, LeO (ashlarlaw02_floats.f k a0) (ashlarlaw02_floats.f (k + 1) a0) := by
  intro a0 k
  have ih0 := ashlarlaw02_floats.mono_l k
  unfold ashlarlaw02_floats.f
  repeat' first
      | (with_reducible exact ih0 _ _ _)
      | (with_reducible exact LeO.refl _)
      | (with_reducible exact LeO.none _)
      | (with_reducible refine LeO.ite ?_ ?_)
      | (with_reducible refine LeO.bind ?_ (fun _ => ?_))
      | exact ih0 _ _ _
      | exact LeO.none _
      | refine LeO.ite ?_ ?_
      | refine LeO.bind ?_ (fun _ => ?_)
set_option maxHeartbeats 8000000 in
set_option maxRecDepth 100000 in
theorem ashlarlaw02_floats.calls (k : Nat) (A0 : Option Addr) (c0 : Nat) (l0 : List Int) (r : List Nat) (w : World) (hr0 : Kd.C (Kd.int .u64) w A0 l0.length l0) (hc0 : l0.length ≤ c0) (h : ashlarlaw02_floats.f k l0 = some r) :
    Calls Try.prog 13 #[.slice A0 l0.length c0] w fun e w' => ∃ v0_ : Value, e = .returned (v0_) ∧ Kd.R Kd.f64 30 w' w.heap.size (fun _ => True) v0_ r ∧ Below w.heap.size w w' := by
  have HR0 := Aside0.mk hr0
  have HC0 := Aside0.mk hc0
  clear hr0 hc0
  have HB := Aside0.mk (Below.refl w.heap.size w)
  have H : (ashlarlaw02_floats.l0 k l0 (([] : List Nat)) 0) = some r := h
  clear h
  obtain ⟨y145, hy145⟩ : ∃ y_ : List Nat, y_ = (([] : List Nat)) := ⟨_, rfl⟩
  replace H : (ashlarlaw02_floats.l0 k l0 y145 0) = some r := by first | (rw [hy145]; with_reducible exact H) | (have H2_ := (Option.bind_some _ _).symm.trans H; rw [hy145]; with_reducible exact H2_) | (have H2_ := (Option.bind_some _ _).symm.trans H; with_reducible exact H2_) | with_reducible exact H | (rw [hy145]; exact H) | exact H
  have Ny145 := Aside0.mk hy145
  clear hy145
  have H' := Aside0.mk H
  clear H
  go_enter Try.func13, Try.ntmps13
  go_wp2_with (first | ((with_reducible refine gate_dst (N := 5) rfl ?_); refine Kd.R_lit Kd.f64 _ 30 ?hg (N := 5) ?hd (xs := ([] : List Nat)) (inner := []) (ok := fun _ => True) (okp := fun _ => True) ?hr ?hp (fun _ hk => hk) trivial (Below.refl _ _) (Nat.le_refl _) (by simp) ?_; (case hd => rfl); (case hg => rfl); (case hr => first | (go_simp; done) | (go_simp; rfl)); (case hp => exact (Reps.none _ _)); intro v146 w2 ho3 hb hg_ hnew_; clear hg_ hnew_; (first | rw [← Ny145.out] at ho3 | (simp only [Int.reduceToNat] at ho3; rw [← Ny145.out] at ho3)); have n0_ := Aside0.mk (Kd.R_lower ho3 (below_size (by repeat (first | (with_reducible first | exact HB.out | apply below_alloc | apply pw_below_drewN | apply below_drew1) | exact HB.out)))); have n1_ := Aside0.mk (below_step (by repeat (first | (with_reducible first | exact HB.out | apply below_alloc | apply pw_below_drewN | apply below_drew1) | exact HB.out)) hb); clear HB; have HO147 := n0_; have HB := n1_; clear n0_ n1_; clear hb ho3))
  go_loopg [3, 4] k (fun kq v3 v4 w' => ∃ (x3_1 : List Nat) (x4_1 : Int), v4 = .int .i64 x4_1 ∧ Aside0 (ashlarlaw02_floats.l0 kq l0 x3_1 x4_1 = some r) ∧ Aside0 (kq ≤ k) ∧ Aside0 (Kd.R Kd.f64 30 w' w.heap.size (fun _ => True) v3 x3_1) ∧ Aside0 (Below w.heap.size w w'))
  case atStart => exact ⟨(y145), (0), (by first | rfl | (simp; done) | (simp [*]; done)), H', ⟨Nat.le_refl _⟩, ⟨by (with_reducible repeat (first | apply Kd.R_alloc | apply Kd.R_drewN | apply Kd.R_drew)); exact HO147.out⟩, ⟨by repeat (first | (with_reducible first | exact HB.out | apply below_alloc | apply pw_below_drewN | apply below_drew1) | exact HB.out)⟩⟩
  case round =>
    clear H'
    try clear c1
    try clear p2
    obtain ⟨x3_1, x4_1, rfl, HA, HK1, HO_3, HB⟩ := hrel
    cases gk with
    | zero => exact absurd HA.out (by simp [ashlarlaw02_floats.l0])
    | succ k1 =>
      have H := HA.out
      clear HA
      simp only [ashlarlaw02_floats.l0] at H
      by_cases c4 : x4_1 < (l0.length : Int)
      · rw [if_pos c4] at H
        have c4b0 : decide (x4_1 < (l0.length : Int)) = true := decide_eq_true c4
        clear c4
        by_cases c5 : x4_1 < 100
        · rw [if_pos c5] at H
          have c5b0 : decide (x4_1 < 100) = true := decide_eq_true c5
          clear c5
          by_cases c6 : 0 ≤ x4_1
          · rw [if_pos c6] at H
            have c6b0 : decide (0 ≤ x4_1) = true := decide_eq_true c6
            clear c6
            by_cases c7 : x3_1.length < 17592186044416
            · rw [if_pos c7] at H
              have LMc7 := Aside0.mk c7
              clear c7
              obtain ⟨y149, hy149⟩ : ∃ y_ : List Nat, y_ = (x3_1 ++ [(rd l0 x4_1).toNat]) := ⟨_, rfl⟩
              replace H : (ashlarlaw02_floats.l0 k1 l0 y149 (wrap64 (x4_1 + 1))) = some r := by first | (rw [hy149]; with_reducible exact H) | (have H2_ := (Option.bind_some _ _).symm.trans H; rw [hy149]; with_reducible exact H2_) | (have H2_ := (Option.bind_some _ _).symm.trans H; with_reducible exact H2_) | with_reducible exact H | (rw [hy149]; exact H) | exact H
              have Ny149 := Aside0.mk hy149
              clear hy149
              have H' := Aside0.mk H
              clear H
              have p148 : 0 ≤ (x4_1 : Int) := of_decide_eq_true (by first | (with_reducible assumption) | assumption)
              have q148 : x4_1 < (l0.length : Int) := of_decide_eq_true (by first | (with_reducible assumption) | assumption)
              obtain ⟨ad148, e148, hx148_0⟩ := Kd.at_int HR0.out x4_1 p148 q148
              cases e148
              replace hx148_0 := (HB.out.cell (World.block_lt_of_cell? w _ hx148_0)).trans hx148_0
              replace p148 := eq_true p148
              replace q148 := eq_true q148
              go_wp2_with (first | ((with_reducible refine gate_builtin (b := .append) (xs := #[.tmp 16, .tmp 22]) rfl ?_); at_builtin; refine Kd.R_append Kd.f64 (w0 := w) w.heap.size rfl (.tmp 16) (.tmp 22) 24 30 (.float .f64 0) 8 rfl Try.underlying24 info30 rfl (by decide) (by omega) u3 x3_1 ((rd l0 x4_1).toNat) [.float .f64 ((rd l0 x4_1).toNat)] (fun _ => True) (fun _ => False) rfl rfl ?aP (fun _ hk => hk.elim) ?aF ?aO ?aB ?aS ?aL ?_; (case aP => exact rfl); (case aB => exact (by repeat (first | (with_reducible first | exact HB.out | apply below_alloc | apply pw_below_drewN | apply below_drew1) | exact HB.out))); (case aF => exact (fun _ _ => trivial)); (case aO => exact (by (with_reducible repeat (first | apply Kd.R_alloc | apply Kd.R_drewN | apply Kd.R_drew)); exact HO_3.out)); (case aS => exact (below_size (by repeat (first | (with_reducible first | exact HB.out | apply below_alloc | apply pw_below_drewN | apply below_drew1) | exact HB.out)))); (case aL => have := LMc7.out; omega); intro v150 w8 ho hb hg hat; rw [← Ny149.out] at ho; have n0_ := Aside0.mk (hb); have n1_ := Aside0.mk (ho); clear HB; clear HO_3; have HB := n0_; have HO151 := n1_; clear n0_ n1_; clear ho hb hg hat))
              go_roundg k1
              case measure => have := HK1.out; omega
              case rel => exact ⟨(y149), (wrap64 (x4_1 + 1)), (by first | rfl | (simp; done) | (simp [*]; done)), H', ⟨by have := HK1.out; omega⟩, ⟨by (with_reducible repeat (first | apply Kd.R_alloc | apply Kd.R_drewN | apply Kd.R_drew)); exact HO151.out⟩, ⟨by repeat (first | (with_reducible first | exact HB.out | apply below_alloc | apply pw_below_drewN | apply below_drew1) | exact HB.out)⟩⟩
            · rw [if_neg c7] at H
              exact absurd H (by simp)
          · rw [if_neg c6] at H
            exact absurd H (by simp)
        · rw [if_neg c5] at H
          have c5b0 : decide (x4_1 < 100) = false := decide_eq_false c5
          clear c5
          obtain rfl := Option.some.inj H
          go_wp2
          go_ret
          exact ⟨_, by first | rfl | (simp [errW_none, errW_some] <;> rfl) | (simp [*, errW_none, errW_some] <;> rfl), by (with_reducible repeat (first | apply Kd.R_alloc | apply Kd.R_drewN | apply Kd.R_drew)); exact HO_3.out, by repeat (first | (with_reducible first | exact HB.out | apply below_alloc | apply pw_below_drewN | apply below_drew1) | exact HB.out)⟩
      · rw [if_neg c4] at H
        have c4b0 : decide (x4_1 < (l0.length : Int)) = false := decide_eq_false c4
        clear c4
        obtain rfl := Option.some.inj H
        go_wp2
        go_ret
        exact ⟨_, by first | rfl | (simp [errW_none, errW_some] <;> rfl) | (simp [*, errW_none, errW_some] <;> rfl), by (with_reducible repeat (first | apply Kd.R_alloc | apply Kd.R_drewN | apply Kd.R_drew)); exact HO_3.out, by repeat (first | (with_reducible first | exact HB.out | apply below_alloc | apply pw_below_drewN | apply below_drew1) | exact HB.out)⟩

/-! ### ashlarref02_Tame: function 26 -/
def ashlarref02_Tame.f (a0 : Nat) : Option (Nat) := if fNe a0 a0 = true then (some 0) else (if fGt a0 9218868437227405311 = true then (some 9218868437227405311) else (if fLt a0 18442240474082181119 = true then (some 18442240474082181119) else (some a0)))
set_option maxHeartbeats 8000000 in
set_option maxRecDepth 100000 in
theorem ashlarref02_Tame.calls (a0 : Nat) (r : Nat) (w : World) (h : ashlarref02_Tame.f a0 = some r) :
    Calls Try.prog 26 #[.float .f64 a0] w fun e w' => e = .returned (.float .f64 r) ∧ Drawn0 w w' := by
  have H : (if fNe a0 a0 = true then (some 0) else (if fGt a0 9218868437227405311 = true then (some 9218868437227405311) else (if fLt a0 18442240474082181119 = true then (some 18442240474082181119) else (some a0)))) = some r := h
  clear h
  by_cases c2 : fNe a0 a0 = true
  · rw [if_pos c2] at H
    have c2b0 : fNe a0 a0 = true := c2
    clear c2
    obtain rfl := Option.some.inj H
    go_enter Try.func26, Try.ntmps26
    go_wp2
    go_ret
    exact ⟨by first | rfl | (simp; done) | (simp [*]; done), by repeat (first | exact Drawn0.refl _ | apply Drawn0.step)⟩
  · rw [if_neg c2] at H
    have c2b0 : fNe a0 a0 = false := by simpa using c2
    clear c2
    by_cases c3 : fGt a0 9218868437227405311 = true
    · rw [if_pos c3] at H
      have c3b0 : fGt a0 9218868437227405311 = true := c3
      clear c3
      obtain rfl := Option.some.inj H
      go_enter Try.func26, Try.ntmps26
      go_wp2
      go_ret
      exact ⟨by first | rfl | (simp; done) | (simp [*]; done), by repeat (first | exact Drawn0.refl _ | apply Drawn0.step)⟩
    · rw [if_neg c3] at H
      have c3b0 : fGt a0 9218868437227405311 = false := by simpa using c3
      clear c3
      by_cases c4 : fLt a0 18442240474082181119 = true
      · rw [if_pos c4] at H
        have c4b0 : fLt a0 18442240474082181119 = true := c4
        clear c4
        obtain rfl := Option.some.inj H
        go_enter Try.func26, Try.ntmps26
        go_wp2
        go_ret
        exact ⟨by first | rfl | (simp; done) | (simp [*]; done), by repeat (first | exact Drawn0.refl _ | apply Drawn0.step)⟩
      · rw [if_neg c4] at H
        have c4b0 : fLt a0 18442240474082181119 = false := by simpa using c4
        clear c4
        obtain rfl := Option.some.inj H
        go_enter Try.func26, Try.ntmps26
        go_wp2
        go_ret
        exact ⟨by first | rfl | (simp; done) | (simp [*]; done), by repeat (first | exact Drawn0.refl _ | apply Drawn0.step)⟩

/-! ### ashlarref02_Rescale: function 15 -/
mutual
def ashlarref02_Rescale.l0 : Nat → List Nat → List Nat → Bool → Int → Option (List Nat × Bool)
  | 0, _, _, _, _ => none
  | k + 1, x0, x4, x5, x6 => if x6 < (x0.length : Int) then (if 0 ≤ x6 then ((ashlarref02_Tame.f (rdOf (0 : Nat) x0 x6)).bind fun t156 => (if x5 = true then (if x4.length < 17592186044416 then (ashlarref02_Rescale.l0 k x0 (x4 ++ [t156]) true (wrap64 (x6 + 1))) else (none)) else (if fGt t156 6103021453049119613 = true then (if x4.length < 17592186044416 then (ashlarref02_Rescale.l0 k x0 (x4 ++ [t156]) true (wrap64 (x6 + 1))) else (none)) else (if x4.length < 17592186044416 then (ashlarref02_Rescale.l0 k x0 (x4 ++ [t156]) (fLt t156 15326393489903895421) (wrap64 (x6 + 1))) else (none))))) else (none)) else (ashlarref02_Rescale.l1 k x4 x5 0)
def ashlarref02_Rescale.l1 : Nat → List Nat → Bool → Int → Option (List Nat × Bool)
  | 0, _, _, _ => none
  | k + 1, x4, x5, x8 => if x8 < (x4.length : Int) then (if x5 = true then (if 0 ≤ x8 then (if fMulOk (rdOf (0 : Nat) x4 x8) 3110860544497550640 = true then (ashlarref02_Rescale.l1 k (x4.set (x8 : Int).toNat (fMul (rdOf (0 : Nat) x4 x8) 3110860544497550640)) x5 (wrap64 (x8 + 1))) else (none)) else (none)) else (some (x4, x5))) else (some (x4, x5))
end
def ashlarref02_Rescale.f (k : Nat) (l0 : List Nat) : Option (List Nat × Bool) := ashlarref02_Rescale.l0 k l0 (([] : List Nat)) false 0
theorem ashlarref02_Rescale.mono_l : ∀ k, (∀ y0 y1 y2 y3, LeO (ashlarref02_Rescale.l0 k y0 y1 y2 y3) (ashlarref02_Rescale.l0 (k + 1) y0 y1 y2 y3)) ∧ (∀ y0 y1 y2, LeO (ashlarref02_Rescale.l1 k y0 y1 y2) (ashlarref02_Rescale.l1 (k + 1) y0 y1 y2))
  | 0 => ⟨fun _ _ _ _ r h => by simp [ashlarref02_Rescale.l0] at h, fun _ _ _ r h => by simp [ashlarref02_Rescale.l1] at h⟩
  | k + 1 => by
    obtain ⟨ih0, ih1⟩ := ashlarref02_Rescale.mono_l k
    refine ⟨?_, ?_⟩
    · intro y0 y1 y2 y3
      unfold ashlarref02_Rescale.l0
      repeat' first
      | (with_reducible exact ih0 _ _ _ _)
      | (with_reducible exact ih1 _ _ _)
      | (with_reducible exact LeO.refl _)
      | (with_reducible exact LeO.none _)
      | (with_reducible refine LeO.ite ?_ ?_)
      | (with_reducible refine LeO.bind ?_ (fun _ => ?_))
      | exact ih0 _ _ _ _
      | exact ih1 _ _ _
      | exact LeO.none _
      | refine LeO.ite ?_ ?_
      | refine LeO.bind ?_ (fun _ => ?_)
    · intro y0 y1 y2
      unfold ashlarref02_Rescale.l1
      repeat' first
      | (with_reducible exact ih0 _ _ _ _)
      | (with_reducible exact ih1 _ _ _)
      | (with_reducible exact LeO.refl _)
      | (with_reducible exact LeO.none _)
      | (with_reducible refine LeO.ite ?_ ?_)
      | (with_reducible refine LeO.bind ?_ (fun _ => ?_))
      | exact ih0 _ _ _ _
      | exact ih1 _ _ _
      | exact LeO.none _
      | refine LeO.ite ?_ ?_
      | refine LeO.bind ?_ (fun _ => ?_)
theorem ashlarref02_Rescale.mono : ∀ a0 k, LeO (ashlarref02_Rescale.f k a0) (ashlarref02_Rescale.f (k + 1) a0) := by
  intro a0 k
  obtain ⟨ih0, ih1⟩ := ashlarref02_Rescale.mono_l k
  unfold ashlarref02_Rescale.f
  repeat' first
      | (with_reducible exact ih0 _ _ _ _)
      | (with_reducible exact ih1 _ _ _)
      | (with_reducible exact LeO.refl _)
      | (with_reducible exact LeO.none _)
      | (with_reducible refine LeO.ite ?_ ?_)
      | (with_reducible refine LeO.bind ?_ (fun _ => ?_))
      | exact ih0 _ _ _ _
      | exact ih1 _ _ _
      | exact LeO.none _
      | refine LeO.ite ?_ ?_
      | refine LeO.bind ?_ (fun _ => ?_)
set_option maxHeartbeats 8000000 in
set_option maxRecDepth 100000 in
theorem ashlarref02_Rescale.calls (k : Nat) (A0 : Option Addr) (c0 : Nat) (l0 : List Nat) (r1 : List Nat) (r2 : Bool) (w : World) (hr0 : Kd.C Kd.f64 w A0 l0.length l0) (hc0 : l0.length ≤ c0) (h : ashlarref02_Rescale.f k l0 = some (r1, r2)) :
    Calls Try.prog 15 #[.slice A0 l0.length c0] w fun e w' => ∃ v0_ : Value, e = .returned (.tuple #[v0_, .bool r2]) ∧ Kd.R Kd.f64 30 w' w.heap.size (fun _ => True) v0_ r1 ∧ Below w.heap.size w w' := by
  have HR0 := Aside0.mk hr0
  have HC0 := Aside0.mk hc0
  clear hr0 hc0
  have HB := Aside0.mk (Below.refl w.heap.size w)
  have H : (ashlarref02_Rescale.l0 k l0 (([] : List Nat)) false 0) = some (r1, r2) := h
  clear h
  obtain ⟨y152, hy152⟩ : ∃ y_ : List Nat, y_ = (([] : List Nat)) := ⟨_, rfl⟩
  replace H : (ashlarref02_Rescale.l0 k l0 y152 false 0) = some (r1, r2) := by first | (rw [hy152]; with_reducible exact H) | (have H2_ := (Option.bind_some _ _).symm.trans H; rw [hy152]; with_reducible exact H2_) | (have H2_ := (Option.bind_some _ _).symm.trans H; with_reducible exact H2_) | with_reducible exact H | (rw [hy152]; exact H) | exact H
  have Ny152 := Aside0.mk hy152
  clear hy152
  have H' := Aside0.mk H
  clear H
  go_enter Try.func15, Try.ntmps15
  go_wp2_with (first | ((with_reducible refine gate_dst (N := 9) rfl ?_); refine Kd.R_lit Kd.f64 _ 30 ?hg (N := 9) ?hd (xs := ([] : List Nat)) (inner := []) (ok := fun _ => True) (okp := fun _ => True) ?hr ?hp (fun _ hk => hk) trivial (Below.refl _ _) (Nat.le_refl _) (by simp) ?_; (case hd => rfl); (case hg => rfl); (case hr => first | (go_simp; done) | (go_simp; rfl)); (case hp => exact (Reps.none _ _)); intro v153 w2 ho3 hb hg_ hnew_; clear hg_ hnew_; (first | rw [← Ny152.out] at ho3 | (simp only [Int.reduceToNat] at ho3; rw [← Ny152.out] at ho3)); have n0_ := Aside0.mk (Kd.R_lower ho3 (below_size (by repeat (first | (with_reducible first | exact HB.out | apply below_alloc | apply pw_below_drewN | apply below_drew1) | exact HB.out)))); have n1_ := Aside0.mk (below_step (by repeat (first | (with_reducible first | exact HB.out | apply below_alloc | apply pw_below_drewN | apply below_drew1) | exact HB.out)) hb); clear HB; have HO154 := n0_; have HB := n1_; clear n0_ n1_; clear hb ho3))
  go_loopg [4, 5, 6] k (fun kq v4 v5 v6 w' => ∃ (x4_1 : List Nat) (x5_1 : Bool) (x6_1 : Int), v5 = .bool x5_1 ∧ v6 = .int .i64 x6_1 ∧ Aside0 (ashlarref02_Rescale.l0 kq l0 x4_1 x5_1 x6_1 = some (r1, r2)) ∧ Aside0 (kq ≤ k) ∧ Aside0 (Kd.R Kd.f64 30 w' w.heap.size (fun _ => True) v4 x4_1) ∧ Aside0 (Below w.heap.size w w'))
  case atStart => exact ⟨(y152), (false), (0), (by first | rfl | (simp; done) | (simp [*]; done)), (by first | rfl | (simp; done) | (simp [*]; done)), H', ⟨Nat.le_refl _⟩, ⟨by (with_reducible repeat (first | apply Kd.R_alloc | apply Kd.R_drewN | apply Kd.R_drew)); exact HO154.out⟩, ⟨by repeat (first | (with_reducible first | exact HB.out | apply below_alloc | apply pw_below_drewN | apply below_drew1) | exact HB.out)⟩⟩
  case round =>
    clear H'
    try clear c1
    try clear p2
    obtain ⟨x4_1, x5_1, x6_1, rfl, rfl, HA, HK1, HO_4, HB⟩ := hrel
    cases gk with
    | zero => exact absurd HA.out (by simp [ashlarref02_Rescale.l0])
    | succ k1 =>
      have H := HA.out
      clear HA
      simp only [ashlarref02_Rescale.l0] at H
      by_cases c4 : x6_1 < (l0.length : Int)
      · rw [if_pos c4] at H
        have c4b0 : decide (x6_1 < (l0.length : Int)) = true := decide_eq_true c4
        clear c4
        by_cases c5 : 0 ≤ x6_1
        · rw [if_pos c5] at H
          have c5b0 : decide (0 ≤ x6_1) = true := decide_eq_true c5
          clear c5
          replace H := Option.bind_eq_some_iff.mp H
          obtain ⟨t156, A60, H⟩ := H
          replace H : (if x5_1 = true then (if x4_1.length < 17592186044416 then (ashlarref02_Rescale.l0 k1 l0 (x4_1 ++ [t156]) true (wrap64 (x6_1 + 1))) else (none)) else (if fGt t156 6103021453049119613 = true then (if x4_1.length < 17592186044416 then (ashlarref02_Rescale.l0 k1 l0 (x4_1 ++ [t156]) true (wrap64 (x6_1 + 1))) else (none)) else (if x4_1.length < 17592186044416 then (ashlarref02_Rescale.l0 k1 l0 (x4_1 ++ [t156]) (fLt t156 15326393489903895421) (wrap64 (x6_1 + 1))) else (none)))) = some (r1, r2) := H
          have A6 := Aside0.mk A60
          clear A60
          by_cases c7 : x5_1 = true
          · subst c7
            have H1 : (if x4_1.length < 17592186044416 then (ashlarref02_Rescale.l0 k1 l0 (x4_1 ++ [t156]) true (wrap64 (x6_1 + 1))) else (none)) = some (r1, r2) := by rw [if_pos rfl] at H; exact H
            clear H
            have H := H1
            clear H1
            by_cases c8 : x4_1.length < 17592186044416
            · rw [if_pos c8] at H
              have LMc8 := Aside0.mk c8
              clear c8
              obtain ⟨y157, hy157⟩ : ∃ y_ : List Nat, y_ = (x4_1 ++ [t156]) := ⟨_, rfl⟩
              replace H : (ashlarref02_Rescale.l0 k1 l0 y157 true (wrap64 (x6_1 + 1))) = some (r1, r2) := by first | (rw [hy157]; with_reducible exact H) | (have H2_ := (Option.bind_some _ _).symm.trans H; rw [hy157]; with_reducible exact H2_) | (have H2_ := (Option.bind_some _ _).symm.trans H; with_reducible exact H2_) | with_reducible exact H | (rw [hy157]; exact H) | exact H
              have Ny157 := Aside0.mk hy157
              clear hy157
              have H' := Aside0.mk H
              clear H
              have p155 : 0 ≤ (x6_1 : Int) := of_decide_eq_true (by first | (with_reducible assumption) | assumption)
              have q155 : x6_1 < (l0.length : Int) := of_decide_eq_true (by first | (with_reducible assumption) | assumption)
              obtain ⟨ad155, e155, hx155_0⟩ := Kd.at_f64 HR0.out x6_1 p155 q155
              cases e155
              replace hx155_0 := (HB.out.cell (World.block_lt_of_cell? w _ hx155_0)).trans hx155_0
              replace p155 := eq_true p155
              replace q155 := eq_true q155
              go_wp2_with (first | ((with_reducible refine gate_callee (f := 26) rfl ?_); refine goesL_ (some 20) rfl rfl Try.func26 (by kernel_rfl) rfl #[.float .f64 (rdOf (0 : Nat) l0 x6_1)] rfl (by (try simp only [List.map_toArray, List.map_cons, List.map_nil]); first | done | rfl | (simp only [List.length_drop, List.length_take]; rfl)) ?_; (with_reducible refine (ashlarref02_Tame.calls (rdOf (0 : Nat) l0 x6_1) t156 _ A6.out).mono ?_); rintro e w' ⟨rfl, ⟨nd, rfl⟩⟩; refine ⟨_, rfl, ?_⟩) | ((with_reducible refine gate_builtin (b := .append) (xs := #[.tmp 30, .tmp 32]) rfl ?_); at_builtin; refine Kd.R_append Kd.f64 (w0 := w) w.heap.size rfl (.tmp 30) (.tmp 32) 24 30 (.float .f64 0) 8 rfl Try.underlying24 info30 rfl (by decide) (by omega) u4 x4_1 t156 [.float .f64 t156] (fun _ => True) (fun _ => False) rfl rfl ?aP (fun _ hk => hk.elim) ?aF ?aO ?aB ?aS ?aL ?_; (case aP => exact rfl); (case aB => exact (by repeat (first | (with_reducible first | exact HB.out | apply below_alloc | apply pw_below_drewN | apply below_drew1) | exact HB.out))); (case aF => exact (fun _ _ => trivial)); (case aO => exact (by (with_reducible repeat (first | apply Kd.R_alloc | apply Kd.R_drewN | apply Kd.R_drew)); exact HO_4.out)); (case aS => exact (below_size (by repeat (first | (with_reducible first | exact HB.out | apply below_alloc | apply pw_below_drewN | apply below_drew1) | exact HB.out)))); (case aL => have := LMc8.out; omega); intro v158 w9 ho hb hg hat; rw [← Ny157.out] at ho; have n0_ := Aside0.mk (hb); have n1_ := Aside0.mk (ho); clear HB; clear HO_4; have HB := n0_; have HO159 := n1_; clear n0_ n1_; clear ho hb hg hat))
              go_roundg k1
              case measure => have := HK1.out; omega
              case rel => exact ⟨(y157), (true), (wrap64 (x6_1 + 1)), (by first | rfl | (simp; done) | (simp [*]; done)), (by first | rfl | (simp; done) | (simp [*]; done)), H', ⟨by have := HK1.out; omega⟩, ⟨by (with_reducible repeat (first | apply Kd.R_alloc | apply Kd.R_drewN | apply Kd.R_drew)); exact HO159.out⟩, ⟨by repeat (first | (with_reducible first | exact HB.out | apply below_alloc | apply pw_below_drewN | apply below_drew1) | exact HB.out)⟩⟩
            · rw [if_neg c8] at H
              exact absurd H (by simp)
          · replace c7 := Bool.eq_false_iff.mpr c7
            subst c7
            have H1 : (if fGt t156 6103021453049119613 = true then (if x4_1.length < 17592186044416 then (ashlarref02_Rescale.l0 k1 l0 (x4_1 ++ [t156]) true (wrap64 (x6_1 + 1))) else (none)) else (if x4_1.length < 17592186044416 then (ashlarref02_Rescale.l0 k1 l0 (x4_1 ++ [t156]) (fLt t156 15326393489903895421) (wrap64 (x6_1 + 1))) else (none))) = some (r1, r2) := by rw [if_neg (show ¬ (false = true) by decide)] at H; exact H
            clear H
            have H := H1
            clear H1
            by_cases c10 : fGt t156 6103021453049119613 = true
            · rw [if_pos c10] at H
              have c10b0 : fGt t156 6103021453049119613 = true := c10
              clear c10
              by_cases c11 : x4_1.length < 17592186044416
              · rw [if_pos c11] at H
                have LMc11 := Aside0.mk c11
                clear c11
                obtain ⟨y160, hy160⟩ : ∃ y_ : List Nat, y_ = (x4_1 ++ [t156]) := ⟨_, rfl⟩
                replace H : (ashlarref02_Rescale.l0 k1 l0 y160 true (wrap64 (x6_1 + 1))) = some (r1, r2) := by first | (rw [hy160]; with_reducible exact H) | (have H2_ := (Option.bind_some _ _).symm.trans H; rw [hy160]; with_reducible exact H2_) | (have H2_ := (Option.bind_some _ _).symm.trans H; with_reducible exact H2_) | with_reducible exact H | (rw [hy160]; exact H) | exact H
                have Ny160 := Aside0.mk hy160
                clear hy160
                have H' := Aside0.mk H
                clear H
                have p155 : 0 ≤ (x6_1 : Int) := of_decide_eq_true (by first | (with_reducible assumption) | assumption)
                have q155 : x6_1 < (l0.length : Int) := of_decide_eq_true (by first | (with_reducible assumption) | assumption)
                obtain ⟨ad155, e155, hx155_0⟩ := Kd.at_f64 HR0.out x6_1 p155 q155
                cases e155
                replace hx155_0 := (HB.out.cell (World.block_lt_of_cell? w _ hx155_0)).trans hx155_0
                replace p155 := eq_true p155
                replace q155 := eq_true q155
                go_wp2_with (first | ((with_reducible refine gate_callee (f := 26) rfl ?_); refine goesL_ (some 20) rfl rfl Try.func26 (by kernel_rfl) rfl #[.float .f64 (rdOf (0 : Nat) l0 x6_1)] rfl (by (try simp only [List.map_toArray, List.map_cons, List.map_nil]); first | done | rfl | (simp only [List.length_drop, List.length_take]; rfl)) ?_; (with_reducible refine (ashlarref02_Tame.calls (rdOf (0 : Nat) l0 x6_1) t156 _ A6.out).mono ?_); rintro e w' ⟨rfl, ⟨nd, rfl⟩⟩; refine ⟨_, rfl, ?_⟩) | ((with_reducible refine gate_builtin (b := .append) (xs := #[.tmp 30, .tmp 32]) rfl ?_); at_builtin; refine Kd.R_append Kd.f64 (w0 := w) w.heap.size rfl (.tmp 30) (.tmp 32) 24 30 (.float .f64 0) 8 rfl Try.underlying24 info30 rfl (by decide) (by omega) u4 x4_1 t156 [.float .f64 t156] (fun _ => True) (fun _ => False) rfl rfl ?aP (fun _ hk => hk.elim) ?aF ?aO ?aB ?aS ?aL ?_; (case aP => exact rfl); (case aB => exact (by repeat (first | (with_reducible first | exact HB.out | apply below_alloc | apply pw_below_drewN | apply below_drew1) | exact HB.out))); (case aF => exact (fun _ _ => trivial)); (case aO => exact (by (with_reducible repeat (first | apply Kd.R_alloc | apply Kd.R_drewN | apply Kd.R_drew)); exact HO_4.out)); (case aS => exact (below_size (by repeat (first | (with_reducible first | exact HB.out | apply below_alloc | apply pw_below_drewN | apply below_drew1) | exact HB.out)))); (case aL => have := LMc11.out; omega); intro v161 w12 ho hb hg hat; rw [← Ny160.out] at ho; have n0_ := Aside0.mk (hb); have n1_ := Aside0.mk (ho); clear HB; clear HO_4; have HB := n0_; have HO162 := n1_; clear n0_ n1_; clear ho hb hg hat))
                go_roundg k1
                case measure => have := HK1.out; omega
                case rel => exact ⟨(y160), (true), (wrap64 (x6_1 + 1)), (by first | rfl | (simp; done) | (simp [*]; done)), (by first | rfl | (simp; done) | (simp [*]; done)), H', ⟨by have := HK1.out; omega⟩, ⟨by (with_reducible repeat (first | apply Kd.R_alloc | apply Kd.R_drewN | apply Kd.R_drew)); exact HO162.out⟩, ⟨by repeat (first | (with_reducible first | exact HB.out | apply below_alloc | apply pw_below_drewN | apply below_drew1) | exact HB.out)⟩⟩
              · rw [if_neg c11] at H
                exact absurd H (by simp)
            · rw [if_neg c10] at H
              have c10b0 : fGt t156 6103021453049119613 = false := by simpa using c10
              clear c10
              by_cases c13 : x4_1.length < 17592186044416
              · rw [if_pos c13] at H
                have LMc13 := Aside0.mk c13
                clear c13
                obtain ⟨y163, hy163⟩ : ∃ y_ : List Nat, y_ = (x4_1 ++ [t156]) := ⟨_, rfl⟩
                replace H : (ashlarref02_Rescale.l0 k1 l0 y163 (fLt t156 15326393489903895421) (wrap64 (x6_1 + 1))) = some (r1, r2) := by first | (rw [hy163]; with_reducible exact H) | (have H2_ := (Option.bind_some _ _).symm.trans H; rw [hy163]; with_reducible exact H2_) | (have H2_ := (Option.bind_some _ _).symm.trans H; with_reducible exact H2_) | with_reducible exact H | (rw [hy163]; exact H) | exact H
                have Ny163 := Aside0.mk hy163
                clear hy163
                have H' := Aside0.mk H
                clear H
                have p155 : 0 ≤ (x6_1 : Int) := of_decide_eq_true (by first | (with_reducible assumption) | assumption)
                have q155 : x6_1 < (l0.length : Int) := of_decide_eq_true (by first | (with_reducible assumption) | assumption)
                obtain ⟨ad155, e155, hx155_0⟩ := Kd.at_f64 HR0.out x6_1 p155 q155
                cases e155
                replace hx155_0 := (HB.out.cell (World.block_lt_of_cell? w _ hx155_0)).trans hx155_0
                replace p155 := eq_true p155
                replace q155 := eq_true q155
                go_wp2_with (first | ((with_reducible refine gate_callee (f := 26) rfl ?_); refine goesL_ (some 20) rfl rfl Try.func26 (by kernel_rfl) rfl #[.float .f64 (rdOf (0 : Nat) l0 x6_1)] rfl (by (try simp only [List.map_toArray, List.map_cons, List.map_nil]); first | done | rfl | (simp only [List.length_drop, List.length_take]; rfl)) ?_; (with_reducible refine (ashlarref02_Tame.calls (rdOf (0 : Nat) l0 x6_1) t156 _ A6.out).mono ?_); rintro e w' ⟨rfl, ⟨nd, rfl⟩⟩; refine ⟨_, rfl, ?_⟩) | ((with_reducible refine gate_builtin (b := .append) (xs := #[.tmp 30, .tmp 32]) rfl ?_); at_builtin; refine Kd.R_append Kd.f64 (w0 := w) w.heap.size rfl (.tmp 30) (.tmp 32) 24 30 (.float .f64 0) 8 rfl Try.underlying24 info30 rfl (by decide) (by omega) u4 x4_1 t156 [.float .f64 t156] (fun _ => True) (fun _ => False) rfl rfl ?aP (fun _ hk => hk.elim) ?aF ?aO ?aB ?aS ?aL ?_; (case aP => exact rfl); (case aB => exact (by repeat (first | (with_reducible first | exact HB.out | apply below_alloc | apply pw_below_drewN | apply below_drew1) | exact HB.out))); (case aF => exact (fun _ _ => trivial)); (case aO => exact (by (with_reducible repeat (first | apply Kd.R_alloc | apply Kd.R_drewN | apply Kd.R_drew)); exact HO_4.out)); (case aS => exact (below_size (by repeat (first | (with_reducible first | exact HB.out | apply below_alloc | apply pw_below_drewN | apply below_drew1) | exact HB.out)))); (case aL => have := LMc13.out; omega); intro v164 w14 ho hb hg hat; rw [← Ny163.out] at ho; have n0_ := Aside0.mk (hb); have n1_ := Aside0.mk (ho); clear HB; clear HO_4; have HB := n0_; have HO165 := n1_; clear n0_ n1_; clear ho hb hg hat))
                go_roundg k1
                case measure => have := HK1.out; omega
                case rel => exact ⟨(y163), (fLt t156 15326393489903895421), (wrap64 (x6_1 + 1)), (by first | rfl | (simp; done) | (simp [*]; done)), (by first | rfl | (simp; done) | (simp [*]; done)), H', ⟨by have := HK1.out; omega⟩, ⟨by (with_reducible repeat (first | apply Kd.R_alloc | apply Kd.R_drewN | apply Kd.R_drew)); exact HO165.out⟩, ⟨by repeat (first | (with_reducible first | exact HB.out | apply below_alloc | apply pw_below_drewN | apply below_drew1) | exact HB.out)⟩⟩
              · rw [if_neg c13] at H
                exact absurd H (by simp)
        · rw [if_neg c5] at H
          exact absurd H (by simp)
      · rw [if_neg c4] at H
        have c4b0 : decide (x6_1 < (l0.length : Int)) = false := decide_eq_false c4
        clear c4
        have H' := Aside0.mk H
        clear H
        go_wp2
        go_loopg [8] k1 (fun kq v8 w' => ∃ (x4_2 : List Nat) (x8_2 : Int), v8 = .int .i64 x8_2 ∧ Aside0 (ashlarref02_Rescale.l1 kq x4_2 x5_1 x8_2 = some (r1, r2)) ∧ Aside0 (kq ≤ k1) ∧ Aside0 (Kd.R Kd.f64 30 w' w.heap.size (fun _ => True) u4 x4_2) ∧ Aside0 (Below w.heap.size w w'))
        case atStart => exact ⟨(x4_1), (0), (by first | rfl | (simp; done) | (simp [*]; done)), H', ⟨Nat.le_refl _⟩, ⟨by (with_reducible repeat (first | apply Kd.R_alloc | apply Kd.R_drewN | apply Kd.R_drew)); exact HO_4.out⟩, ⟨by repeat (first | (with_reducible first | exact HB.out | apply below_alloc | apply pw_below_drewN | apply below_drew1) | exact HB.out)⟩⟩
        case round =>
          clear H'
          try clear c1
          try clear p1
          try clear q1
          try clear hx1
          try clear c2
          try clear p2
          try clear c4
          try clear c4b0
          try clear c5
          try clear c5b0
          try clear p6
          try clear c7
          try clear c8
          try clear c10
          try clear c10b0
          try clear c11
          try clear c13
          try clear hx155_0
          try clear p155
          try clear p2
          try clear q155
          obtain ⟨x4_2, x8_2, rfl, HA, HK2, HO_4, HB⟩ := hrel
          cases gk with
          | zero => exact absurd HA.out (by simp [ashlarref02_Rescale.l1])
          | succ k2 =>
            have H := HA.out
            clear HA
            simp only [ashlarref02_Rescale.l1] at H
            by_cases c15 : x8_2 < (x4_2.length : Int)
            · rw [if_pos c15] at H
              have c15b0 : decide (x8_2 < (x4_2.length : Int)) = true := decide_eq_true c15
              clear c15
              by_cases c16 : x5_1 = true
              · subst c16
                have H1 : (if 0 ≤ x8_2 then (if fMulOk (rdOf (0 : Nat) x4_2 x8_2) 3110860544497550640 = true then (ashlarref02_Rescale.l1 k2 (x4_2.set (x8_2 : Int).toNat (fMul (rdOf (0 : Nat) x4_2 x8_2) 3110860544497550640)) true (wrap64 (x8_2 + 1))) else (none)) else (none)) = some (r1, r2) := by rw [if_pos rfl] at H; exact H
                clear H
                have H := H1
                clear H1
                by_cases c17 : 0 ≤ x8_2
                · rw [if_pos c17] at H
                  have c17b0 : decide (0 ≤ x8_2) = true := decide_eq_true c17
                  clear c17
                  by_cases c18 : fMulOk (rdOf (0 : Nat) x4_2 x8_2) 3110860544497550640 = true
                  · rw [if_pos c18] at H
                    have c18b0 := eq_true c18
                    have c18b1 : decide (fMulOk (rdOf (0 : Nat) x4_2 x8_2) 3110860544497550640 = true) = true := decide_eq_true c18
                    clear c18
                    obtain ⟨y167, hy167⟩ : ∃ y_ : List Nat, y_ = (x4_2.set (x8_2 : Int).toNat (fMul (rdOf (0 : Nat) x4_2 x8_2) 3110860544497550640)) := ⟨_, rfl⟩
                    replace H : (ashlarref02_Rescale.l1 k2 y167 true (wrap64 (x8_2 + 1))) = some (r1, r2) := by first | (rw [hy167]; with_reducible exact H) | (have H2_ := (Option.bind_some _ _).symm.trans H; rw [hy167]; with_reducible exact H2_) | (have H2_ := (Option.bind_some _ _).symm.trans H; with_reducible exact H2_) | with_reducible exact H | (rw [hy167]; exact H) | exact H
                    have Ny167 := Aside0.mk hy167
                    clear hy167
                    have H' := Aside0.mk H
                    clear H
                    obtain ⟨Ao20, co20, eo20⟩ := Kd.R_slice HO_4.out
                    subst eo20
                    have p166 : 0 ≤ (x8_2 : Int) := of_decide_eq_true (by first | (with_reducible assumption) | assumption)
                    have q166 : x8_2 < (x4_2.length : Int) := of_decide_eq_true (by first | (with_reducible assumption) | assumption)
                    obtain ⟨ad166, e166, hx166_0⟩ := Kd.at_f64 (Kd.R_reads' HO_4.out).2.2 x8_2 p166 q166
                    cases e166
                    replace p166 := eq_true p166
                    replace q166 := eq_true q166
                    have p19 : 0 ≤ (x8_2 : Int) := of_decide_eq_true (by first | (with_reducible assumption) | assumption)
                    have q19 : (x8_2 : Int) < ((x4_2.length : Int) : Int) := of_decide_eq_true (by first | (with_reducible assumption) | assumption)
                    obtain ⟨go19, co19, eo19, gb19, gl19, cl19, HG19⟩ := Kd.R_form HO_4.out (by omega)
                    (first | cases eo19 | (injection eo19 with ea_ en_ ec_; (first | subst ea_ | (injection ea_ with ea_; subst ea_)); subst ec_; clear en_))
                    have GB19 := Aside0.mk gb19
                    have GG19 := Aside0.mk HG19
                    clear gb19 gl19 HG19
                    (first | simp only [add_plain] at hx166_0 | skip)
                    obtain ⟨hx19_0, hf19_0⟩ := Kd.R_celln (0 : Nat) HO_4.out (x8_2 : Int) p19 q19
                    replace p19 := eq_true p19
                    replace q19 := eq_true q19
                    have HP21 := Kd.R_putg HO_4.out (x8_2 : Int) (fMul (rdOf (0 : Nat) x4_2 x8_2) 3110860544497550640)
                    go_wp2_with (first | ((with_reducible refine gate_store (t := 30) (p := 50) rfl ?_); refine store_event (t := 30) (p := 50) (v := ?vo_w22) (w1 := (wr.setCell ⟨go19, (x8_2 : Int).toNat, none⟩ (.float .f64 (fMul (rdOf (0 : Nat) x4_2 x8_2) 3110860544497550640)))) ?hg ?ho ?hn ?hr ?_; (case ho => rfl); (case hg => rfl); (case hn => rfl); (case hr => first | (go_simp; done) | (go_simp; rfl)); intro w22 hw; have hg : wr.grownBy w22 (some go19) := (by rw [hw]; exact HP21.2); have hp_ : Kd.R Kd.f64 30 w22 w.heap.size (fun _ => True) (.slice (some ⟨go19, 0, none⟩) x4_2.length co20) y167 := (by rw [hw, Ny167.out]; exact HP21.1); clear HP21; have n0_ := Aside0.mk (hp_); have n1_ := Aside0.mk ((by rw [hw]; exact below_set (HB.out) GB19.out : Below w.heap.size w w22)); clear HO_4; clear HB; have HO_4 := n0_; have HB := n1_; clear n0_ n1_; clear hg hw hp_))
                    go_roundg k2
                    case measure => have := HK1.out; have := HK2.out; omega
                    case rel => exact ⟨(y167), (wrap64 (x8_2 + 1)), (by first | rfl | (simp; done) | (simp [*]; done)), H', ⟨by have := HK1.out; have := HK2.out; omega⟩, ⟨by (with_reducible repeat (first | apply Kd.R_alloc | apply Kd.R_drewN | apply Kd.R_drew)); exact HO_4.out⟩, ⟨by repeat (first | (with_reducible first | exact HB.out | apply below_alloc | apply pw_below_drewN | apply below_drew1) | exact HB.out)⟩⟩
                  · rw [if_neg c18] at H
                    exact absurd H (by simp)
                · rw [if_neg c17] at H
                  exact absurd H (by simp)
              · replace c16 := Bool.eq_false_iff.mpr c16
                subst c16
                have H1 : (some (x4_2, false)) = some (r1, r2) := by rw [if_neg (show ¬ (false = true) by decide)] at H; exact H
                clear H
                have H := H1
                clear H1
                simp only [Option.some.injEq, Prod.mk.injEq] at H
                obtain ⟨rfl, rfl⟩ := H
                obtain ⟨Ao23, co23, eo23⟩ := Kd.R_slice HO_4.out
                subst eo23
                go_wp2
                go_ret2
                exact ⟨_, by first | rfl | (simp [errW_none, errW_some] <;> rfl) | (simp [*, errW_none, errW_some] <;> rfl), by (with_reducible repeat (first | apply Kd.R_alloc | apply Kd.R_drewN | apply Kd.R_drew)); exact HO_4.out, by repeat (first | (with_reducible first | exact HB.out | apply below_alloc | apply pw_below_drewN | apply below_drew1) | exact HB.out)⟩
            · rw [if_neg c15] at H
              have c15b0 : decide (x8_2 < (x4_2.length : Int)) = false := decide_eq_false c15
              clear c15
              simp only [Option.some.injEq, Prod.mk.injEq] at H
              obtain ⟨rfl, rfl⟩ := H
              obtain ⟨Ao24, co24, eo24⟩ := Kd.R_slice HO_4.out
              subst eo24
              go_wp2
              go_ret2
              exact ⟨_, by first | rfl | (simp [errW_none, errW_some] <;> rfl) | (simp [*, errW_none, errW_some] <;> rfl), by (with_reducible repeat (first | apply Kd.R_alloc | apply Kd.R_drewN | apply Kd.R_drew)); exact HO_4.out, by repeat (first | (with_reducible first | exact HB.out | apply below_alloc | apply pw_below_drewN | apply below_drew1) | exact HB.out)⟩

/-! ### ashlarref02_Place: function 27 -/
def ashlarref02_Place.f (a0 : Nat) : Option (Int) := if fNe a0 a0 = true then (some 0) else (if (((a0 : Nat) : Int) / 9223372036854775808) = 1 then (some (IntKind.u64.wrap ((IntKind.u64.wrap (9223372036854775807 - (IntKind.u64.wrap (((a0 : Nat) : Int) - 9223372036854775808)))) + 1))) else (some (IntKind.u64.wrap ((IntKind.u64.wrap (((a0 : Nat) : Int) + 9223372036854775808)) + 1))))
set_option maxHeartbeats 8000000 in
set_option maxRecDepth 100000 in
theorem ashlarref02_Place.calls (a0 : Nat) (r : Int) (w : World) (h : ashlarref02_Place.f a0 = some r) :
    Calls Try.prog 27 #[.float .f64 a0] w fun e w' => e = .returned (.int .u64 r) ∧ Drawn0 w w' := by
  have H : (if fNe a0 a0 = true then (some 0) else (if (((a0 : Nat) : Int) / 9223372036854775808) = 1 then (some (IntKind.u64.wrap ((IntKind.u64.wrap (9223372036854775807 - (IntKind.u64.wrap (((a0 : Nat) : Int) - 9223372036854775808)))) + 1))) else (some (IntKind.u64.wrap ((IntKind.u64.wrap (((a0 : Nat) : Int) + 9223372036854775808)) + 1))))) = some r := h
  clear h
  by_cases c2 : fNe a0 a0 = true
  · rw [if_pos c2] at H
    have c2b0 : fNe a0 a0 = true := c2
    clear c2
    obtain rfl := Option.some.inj H
    go_enter Try.func27, Try.ntmps27
    go_wp2
    go_ret
    exact ⟨by first | rfl | (simp; done) | (simp [*]; done), by repeat (first | exact Drawn0.refl _ | apply Drawn0.step)⟩
  · rw [if_neg c2] at H
    have c2b0 : fNe a0 a0 = false := by simpa using c2
    clear c2
    by_cases c3 : (((a0 : Nat) : Int) / 9223372036854775808) = 1
    · rw [if_pos c3] at H
      have c3b0 : ((((a0 : Nat) : Int) / 9223372036854775808) == 1) = true := beq_iff_eq.mpr c3
      have c3b1 : ((((a0 : Nat) : Int) / 9223372036854775808) != 1) = false := bne_eq_false_iff_eq.mpr c3
      clear c3
      obtain rfl := Option.some.inj H
      go_enter Try.func27, Try.ntmps27
      go_wp2
      go_ret
      exact ⟨by first | rfl | (simp; done) | (simp [*]; done), by repeat (first | exact Drawn0.refl _ | apply Drawn0.step)⟩
    · rw [if_neg c3] at H
      have c3b0 : ((((a0 : Nat) : Int) / 9223372036854775808) == 1) = false := beq_eq_false_iff_ne.mpr c3
      have c3b1 : ((((a0 : Nat) : Int) / 9223372036854775808) != 1) = true := bne_iff_ne.mpr c3
      obtain rfl := Option.some.inj H
      go_enter Try.func27, Try.ntmps27
      go_wp2
      go_ret
      exact ⟨by first | rfl | (simp; done) | (simp [*]; done), by repeat (first | exact Drawn0.refl _ | apply Drawn0.step)⟩

end Go.Proofs.Ytglpafflpcgnpaa.Q
