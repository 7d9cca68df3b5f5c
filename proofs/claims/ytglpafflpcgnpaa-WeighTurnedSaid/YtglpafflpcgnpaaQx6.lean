/- written by a program of this session (wip/tools/printx.py, over the kit's printing program) out of the translation -/
import Derived.Test.YtglpafflpcgnpaaQx0
import Derived.Test.YtglpafflpcgnpaaQx1
import Derived.Test.YtglpafflpcgnpaaQx2
import Derived.Test.YtglpafflpcgnpaaQx3
namespace Go.Proofs.Ytglpafflpcgnpaa.Q
open Go.RowKit Go.Proofs.YtglpafflpcgnpaaW.PrintWords Go.Proofs.YtglpafflpcgnpaaW.PrintLast Go.Proofs.YtglpafflpcgnpaaW.PrintMore
attribute [local go_sem] max2_int min2_int max_two min_two max_three min_three max_four min_four   -- for this text's walks alone
set_option linter.unusedVariables false
set_option linter.unusedSimpArgs false

/-! ### ashlarlaw02_WeighTurned: function 6 -/
def ashlarlaw02_WeighTurned.f (k : Nat) (a0 : Int) (a1 : Int) : Option (Bool) := (ashlarlaw02_shown.f k).bind fun t222 => ((weigh_Tame.f a0.toNat).bind fun t223 => (if t222 = true then ((weigh_Bump.f a0.toNat a1.toNat).bind fun t224 => ((weigh_Bump.f a1.toNat a0.toNat).bind fun t225 => ((ashlarlaw02_same.f t224 t225).bind fun t226 => (if t226 = true then ((math_NaN.f).bind fun t227 => ((weigh_Bump.f a0.toNat t227).bind fun t228 => ((weigh_Bump.f a0.toNat 0).bind fun t229 => ((ashlarlaw02_same.f t228 t229).bind fun t230 => (if t230 = true then ((weigh_Bump.f a0.toNat 0).bind fun t229 => (if fEq t229 t223 = true then ((weigh_Bump.f t223 (fNeg t223)).bind fun t232 => (if fEq t232 0 = true then ((weigh_Bump.f a0.toNat a1.toNat).bind fun t224 => ((weigh_Tame.f a1.toNat).bind fun t234 => ((weigh_Bump.f t223 t234).bind fun t235 => ((ashlarlaw02_same.f t224 t235).bind fun t236 => (some t236))))) else (some false))) else (some false))) else (some false)))))) else (some false))))) else (some false)))
theorem ashlarlaw02_WeighTurned.mono : ∀ a0 a1 k, LeO (ashlarlaw02_WeighTurned.f k a0 a1) (ashlarlaw02_WeighTurned.f (k + 1) a0 a1) := by
  intro a0 a1 k
  unfold ashlarlaw02_WeighTurned.f
  repeat' first
      | (with_reducible exact ashlarlaw02_shown.mono _)
      | (with_reducible exact LeO.refl _)
      | (with_reducible exact LeO.none _)
      | (with_reducible refine LeO.ite ?_ ?_)
      | (with_reducible refine LeO.bind ?_ (fun _ => ?_))
      | exact ashlarlaw02_shown.mono _
      | exact LeO.none _
      | refine LeO.ite ?_ ?_
      | refine LeO.bind ?_ (fun _ => ?_)
set_option maxHeartbeats 8000000 in
set_option maxRecDepth 100000 in
theorem ashlarlaw02_WeighTurned.calls (k : Nat) (a0 : Int) (a1 : Int) (r : Bool) (w : World) (h : ashlarlaw02_WeighTurned.f k a0 a1 = some r) :
    Calls Try.prog 6 #[.int .u64 a0, .int .u64 a1] w fun e w' => e = .returned (.bool r) ∧ Below w.heap.size w w' := by
  have HB := Aside0.mk (Below.refl w.heap.size w)
  have H : ((ashlarlaw02_shown.f k).bind fun t222 => ((weigh_Tame.f a0.toNat).bind fun t223 => (if t222 = true then ((weigh_Bump.f a0.toNat a1.toNat).bind fun t224 => ((weigh_Bump.f a1.toNat a0.toNat).bind fun t225 => ((ashlarlaw02_same.f t224 t225).bind fun t226 => (if t226 = true then ((math_NaN.f).bind fun t227 => ((weigh_Bump.f a0.toNat t227).bind fun t228 => ((weigh_Bump.f a0.toNat 0).bind fun t229 => ((ashlarlaw02_same.f t228 t229).bind fun t230 => (if t230 = true then ((weigh_Bump.f a0.toNat 0).bind fun t229 => (if fEq t229 t223 = true then ((weigh_Bump.f t223 (fNeg t223)).bind fun t232 => (if fEq t232 0 = true then ((weigh_Bump.f a0.toNat a1.toNat).bind fun t224 => ((weigh_Tame.f a1.toNat).bind fun t234 => ((weigh_Bump.f t223 t234).bind fun t235 => ((ashlarlaw02_same.f t224 t235).bind fun t236 => (some t236))))) else (some false))) else (some false))) else (some false)))))) else (some false))))) else (some false)))) = some r := h
  clear h
  replace H := Option.bind_eq_some_iff.mp H
  obtain ⟨t222, A30, H⟩ := H
  replace H : ((weigh_Tame.f a0.toNat).bind fun t223 => (if t222 = true then ((weigh_Bump.f a0.toNat a1.toNat).bind fun t224 => ((weigh_Bump.f a1.toNat a0.toNat).bind fun t225 => ((ashlarlaw02_same.f t224 t225).bind fun t226 => (if t226 = true then ((math_NaN.f).bind fun t227 => ((weigh_Bump.f a0.toNat t227).bind fun t228 => ((weigh_Bump.f a0.toNat 0).bind fun t229 => ((ashlarlaw02_same.f t228 t229).bind fun t230 => (if t230 = true then ((weigh_Bump.f a0.toNat 0).bind fun t229 => (if fEq t229 t223 = true then ((weigh_Bump.f t223 (fNeg t223)).bind fun t232 => (if fEq t232 0 = true then ((weigh_Bump.f a0.toNat a1.toNat).bind fun t224 => ((weigh_Tame.f a1.toNat).bind fun t234 => ((weigh_Bump.f t223 t234).bind fun t235 => ((ashlarlaw02_same.f t224 t235).bind fun t236 => (some t236))))) else (some false))) else (some false))) else (some false)))))) else (some false))))) else (some false))) = some r := H
  have A3 := Aside0.mk A30
  clear A30
  replace H := Option.bind_eq_some_iff.mp H
  obtain ⟨t223, A40, H⟩ := H
  replace H : (if t222 = true then ((weigh_Bump.f a0.toNat a1.toNat).bind fun t224 => ((weigh_Bump.f a1.toNat a0.toNat).bind fun t225 => ((ashlarlaw02_same.f t224 t225).bind fun t226 => (if t226 = true then ((math_NaN.f).bind fun t227 => ((weigh_Bump.f a0.toNat t227).bind fun t228 => ((weigh_Bump.f a0.toNat 0).bind fun t229 => ((ashlarlaw02_same.f t228 t229).bind fun t230 => (if t230 = true then ((weigh_Bump.f a0.toNat 0).bind fun t229 => (if fEq t229 t223 = true then ((weigh_Bump.f t223 (fNeg t223)).bind fun t232 => (if fEq t232 0 = true then ((weigh_Bump.f a0.toNat a1.toNat).bind fun t224 => ((weigh_Tame.f a1.toNat).bind fun t234 => ((weigh_Bump.f t223 t234).bind fun t235 => ((ashlarlaw02_same.f t224 t235).bind fun t236 => (some t236))))) else (some false))) else (some false))) else (some false)))))) else (some false))))) else (some false)) = some r := H
  have A4 := Aside0.mk A40
  clear A40
  by_cases c5 : t222 = true
  · subst c5
    have H1 : ((weigh_Bump.f a0.toNat a1.toNat).bind fun t224 => ((weigh_Bump.f a1.toNat a0.toNat).bind fun t225 => ((ashlarlaw02_same.f t224 t225).bind fun t226 => (if t226 = true then ((math_NaN.f).bind fun t227 => ((weigh_Bump.f a0.toNat t227).bind fun t228 => ((weigh_Bump.f a0.toNat 0).bind fun t229 => ((ashlarlaw02_same.f t228 t229).bind fun t230 => (if t230 = true then ((weigh_Bump.f a0.toNat 0).bind fun t229 => (if fEq t229 t223 = true then ((weigh_Bump.f t223 (fNeg t223)).bind fun t232 => (if fEq t232 0 = true then ((weigh_Bump.f a0.toNat a1.toNat).bind fun t224 => ((weigh_Tame.f a1.toNat).bind fun t234 => ((weigh_Bump.f t223 t234).bind fun t235 => ((ashlarlaw02_same.f t224 t235).bind fun t236 => (some t236))))) else (some false))) else (some false))) else (some false)))))) else (some false))))) = some r := by rw [if_pos rfl] at H; exact H
    clear H
    have H := H1
    clear H1
    replace H := Option.bind_eq_some_iff.mp H
    obtain ⟨t224, A60, H⟩ := H
    replace H : ((weigh_Bump.f a1.toNat a0.toNat).bind fun t225 => ((ashlarlaw02_same.f t224 t225).bind fun t226 => (if t226 = true then ((math_NaN.f).bind fun t227 => ((weigh_Bump.f a0.toNat t227).bind fun t228 => ((weigh_Bump.f a0.toNat 0).bind fun t229 => ((ashlarlaw02_same.f t228 t229).bind fun t230 => (if t230 = true then ((weigh_Bump.f a0.toNat 0).bind fun t229 => (if fEq t229 t223 = true then ((weigh_Bump.f t223 (fNeg t223)).bind fun t232 => (if fEq t232 0 = true then ((weigh_Bump.f a0.toNat a1.toNat).bind fun t224 => ((weigh_Tame.f a1.toNat).bind fun t234 => ((weigh_Bump.f t223 t234).bind fun t235 => ((ashlarlaw02_same.f t224 t235).bind fun t236 => (some t236))))) else (some false))) else (some false))) else (some false)))))) else (some false)))) = some r := H
    have A6 := Aside0.mk A60
    clear A60
    replace H := Option.bind_eq_some_iff.mp H
    obtain ⟨t225, A70, H⟩ := H
    replace H : ((ashlarlaw02_same.f t224 t225).bind fun t226 => (if t226 = true then ((math_NaN.f).bind fun t227 => ((weigh_Bump.f a0.toNat t227).bind fun t228 => ((weigh_Bump.f a0.toNat 0).bind fun t229 => ((ashlarlaw02_same.f t228 t229).bind fun t230 => (if t230 = true then ((weigh_Bump.f a0.toNat 0).bind fun t229 => (if fEq t229 t223 = true then ((weigh_Bump.f t223 (fNeg t223)).bind fun t232 => (if fEq t232 0 = true then ((weigh_Bump.f a0.toNat a1.toNat).bind fun t224 => ((weigh_Tame.f a1.toNat).bind fun t234 => ((weigh_Bump.f t223 t234).bind fun t235 => ((ashlarlaw02_same.f t224 t235).bind fun t236 => (some t236))))) else (some false))) else (some false))) else (some false)))))) else (some false))) = some r := H
    have A7 := Aside0.mk A70
    clear A70
    replace H := Option.bind_eq_some_iff.mp H
    obtain ⟨t226, A80, H⟩ := H
    replace H : (if t226 = true then ((math_NaN.f).bind fun t227 => ((weigh_Bump.f a0.toNat t227).bind fun t228 => ((weigh_Bump.f a0.toNat 0).bind fun t229 => ((ashlarlaw02_same.f t228 t229).bind fun t230 => (if t230 = true then ((weigh_Bump.f a0.toNat 0).bind fun t229 => (if fEq t229 t223 = true then ((weigh_Bump.f t223 (fNeg t223)).bind fun t232 => (if fEq t232 0 = true then ((weigh_Bump.f a0.toNat a1.toNat).bind fun t224 => ((weigh_Tame.f a1.toNat).bind fun t234 => ((weigh_Bump.f t223 t234).bind fun t235 => ((ashlarlaw02_same.f t224 t235).bind fun t236 => (some t236))))) else (some false))) else (some false))) else (some false)))))) else (some false)) = some r := H
    have A8 := Aside0.mk A80
    clear A80
    by_cases c9 : t226 = true
    · subst c9
      have H1 : ((math_NaN.f).bind fun t227 => ((weigh_Bump.f a0.toNat t227).bind fun t228 => ((weigh_Bump.f a0.toNat 0).bind fun t229 => ((ashlarlaw02_same.f t228 t229).bind fun t230 => (if t230 = true then ((weigh_Bump.f a0.toNat 0).bind fun t229 => (if fEq t229 t223 = true then ((weigh_Bump.f t223 (fNeg t223)).bind fun t232 => (if fEq t232 0 = true then ((weigh_Bump.f a0.toNat a1.toNat).bind fun t224 => ((weigh_Tame.f a1.toNat).bind fun t234 => ((weigh_Bump.f t223 t234).bind fun t235 => ((ashlarlaw02_same.f t224 t235).bind fun t236 => (some t236))))) else (some false))) else (some false))) else (some false)))))) = some r := by rw [if_pos rfl] at H; exact H
      clear H
      have H := H1
      clear H1
      replace H := Option.bind_eq_some_iff.mp H
      obtain ⟨t227, A100, H⟩ := H
      replace H : ((weigh_Bump.f a0.toNat t227).bind fun t228 => ((weigh_Bump.f a0.toNat 0).bind fun t229 => ((ashlarlaw02_same.f t228 t229).bind fun t230 => (if t230 = true then ((weigh_Bump.f a0.toNat 0).bind fun t229 => (if fEq t229 t223 = true then ((weigh_Bump.f t223 (fNeg t223)).bind fun t232 => (if fEq t232 0 = true then ((weigh_Bump.f a0.toNat a1.toNat).bind fun t224 => ((weigh_Tame.f a1.toNat).bind fun t234 => ((weigh_Bump.f t223 t234).bind fun t235 => ((ashlarlaw02_same.f t224 t235).bind fun t236 => (some t236))))) else (some false))) else (some false))) else (some false))))) = some r := H
      have A10 := Aside0.mk A100
      clear A100
      replace H := Option.bind_eq_some_iff.mp H
      obtain ⟨t228, A110, H⟩ := H
      replace H : ((weigh_Bump.f a0.toNat 0).bind fun t229 => ((ashlarlaw02_same.f t228 t229).bind fun t230 => (if t230 = true then ((weigh_Bump.f a0.toNat 0).bind fun t229 => (if fEq t229 t223 = true then ((weigh_Bump.f t223 (fNeg t223)).bind fun t232 => (if fEq t232 0 = true then ((weigh_Bump.f a0.toNat a1.toNat).bind fun t224 => ((weigh_Tame.f a1.toNat).bind fun t234 => ((weigh_Bump.f t223 t234).bind fun t235 => ((ashlarlaw02_same.f t224 t235).bind fun t236 => (some t236))))) else (some false))) else (some false))) else (some false)))) = some r := H
      have A11 := Aside0.mk A110
      clear A110
      replace H := Option.bind_eq_some_iff.mp H
      obtain ⟨t229, A120, H⟩ := H
      replace H : ((ashlarlaw02_same.f t228 t229).bind fun t230 => (if t230 = true then ((weigh_Bump.f a0.toNat 0).bind fun t229 => (if fEq t229 t223 = true then ((weigh_Bump.f t223 (fNeg t223)).bind fun t232 => (if fEq t232 0 = true then ((weigh_Bump.f a0.toNat a1.toNat).bind fun t224 => ((weigh_Tame.f a1.toNat).bind fun t234 => ((weigh_Bump.f t223 t234).bind fun t235 => ((ashlarlaw02_same.f t224 t235).bind fun t236 => (some t236))))) else (some false))) else (some false))) else (some false))) = some r := H
      have A12 := Aside0.mk A120
      clear A120
      replace H := Option.bind_eq_some_iff.mp H
      obtain ⟨t230, A130, H⟩ := H
      replace H : (if t230 = true then ((weigh_Bump.f a0.toNat 0).bind fun t229 => (if fEq t229 t223 = true then ((weigh_Bump.f t223 (fNeg t223)).bind fun t232 => (if fEq t232 0 = true then ((weigh_Bump.f a0.toNat a1.toNat).bind fun t224 => ((weigh_Tame.f a1.toNat).bind fun t234 => ((weigh_Bump.f t223 t234).bind fun t235 => ((ashlarlaw02_same.f t224 t235).bind fun t236 => (some t236))))) else (some false))) else (some false))) else (some false)) = some r := H
      have A13 := Aside0.mk A130
      clear A130
      by_cases c14 : t230 = true
      · subst c14
        have H1 : ((weigh_Bump.f a0.toNat 0).bind fun t229 => (if fEq t229 t223 = true then ((weigh_Bump.f t223 (fNeg t223)).bind fun t232 => (if fEq t232 0 = true then ((weigh_Bump.f a0.toNat a1.toNat).bind fun t224 => ((weigh_Tame.f a1.toNat).bind fun t234 => ((weigh_Bump.f t223 t234).bind fun t235 => ((ashlarlaw02_same.f t224 t235).bind fun t236 => (some t236))))) else (some false))) else (some false))) = some r := by rw [if_pos rfl] at H; exact H
        clear H
        have H := H1
        clear H1
        replace H := Option.bind_eq_some_iff.mp H
        obtain ⟨t231_, A150, H⟩ := H; obtain rfl : t229 = t231_ := Option.some.inj (A12.out.symm.trans A150)
        replace H : (if fEq t229 t223 = true then ((weigh_Bump.f t223 (fNeg t223)).bind fun t232 => (if fEq t232 0 = true then ((weigh_Bump.f a0.toNat a1.toNat).bind fun t224 => ((weigh_Tame.f a1.toNat).bind fun t234 => ((weigh_Bump.f t223 t234).bind fun t235 => ((ashlarlaw02_same.f t224 t235).bind fun t236 => (some t236))))) else (some false))) else (some false)) = some r := H
        have A15 := Aside0.mk A150
        clear A150
        by_cases c16 : fEq t229 t223 = true
        · rw [if_pos c16] at H
          have c16b0 : fEq t229 t223 = true := c16
          clear c16
          replace H := Option.bind_eq_some_iff.mp H
          obtain ⟨t232, A170, H⟩ := H
          replace H : (if fEq t232 0 = true then ((weigh_Bump.f a0.toNat a1.toNat).bind fun t224 => ((weigh_Tame.f a1.toNat).bind fun t234 => ((weigh_Bump.f t223 t234).bind fun t235 => ((ashlarlaw02_same.f t224 t235).bind fun t236 => (some t236))))) else (some false)) = some r := H
          have A17 := Aside0.mk A170
          clear A170
          by_cases c18 : fEq t232 0 = true
          · rw [if_pos c18] at H
            have c18b0 : fEq t232 0 = true := c18
            clear c18
            replace H := Option.bind_eq_some_iff.mp H
            obtain ⟨t233_, A190, H⟩ := H; obtain rfl : t224 = t233_ := Option.some.inj (A6.out.symm.trans A190)
            replace H : ((weigh_Tame.f a1.toNat).bind fun t234 => ((weigh_Bump.f t223 t234).bind fun t235 => ((ashlarlaw02_same.f t224 t235).bind fun t236 => (some t236)))) = some r := H
            have A19 := Aside0.mk A190
            clear A190
            replace H := Option.bind_eq_some_iff.mp H
            obtain ⟨t234, A200, H⟩ := H
            replace H : ((weigh_Bump.f t223 t234).bind fun t235 => ((ashlarlaw02_same.f t224 t235).bind fun t236 => (some t236))) = some r := H
            have A20 := Aside0.mk A200
            clear A200
            replace H := Option.bind_eq_some_iff.mp H
            obtain ⟨t235, A210, H⟩ := H
            replace H : ((ashlarlaw02_same.f t224 t235).bind fun t236 => (some t236)) = some r := H
            have A21 := Aside0.mk A210
            clear A210
            replace H := Option.bind_eq_some_iff.mp H
            obtain ⟨t236, A220, H⟩ := H
            replace H : (some t236) = some r := H
            have A22 := Aside0.mk A220
            clear A220
            obtain rfl := Option.some.inj H
            go_enter Try.func6, Try.ntmps6
            go_wp2_with (first | ((with_reducible refine gate_callee (f := 12) rfl ?_); refine goesL_ (some 9) rfl rfl Try.func12 (by kernel_rfl) rfl #[] rfl (by (try simp only [List.map_toArray, List.map_cons, List.map_nil]); first | done | rfl | (simp only [List.length_drop, List.length_take]; rfl)) ?_; (with_reducible refine (ashlarlaw02_shown.calls k  true _ A3.out).mono ?_); rintro e w23 ⟨rfl, hb⟩; refine ⟨_, rfl, ?_⟩; have n0_ := Aside0.mk (below_step (by repeat (first | (with_reducible first | exact HB.out | apply below_alloc | apply pw_below_drewN | apply below_drew1) | exact HB.out)) hb); clear HB; have HB := n0_; clear n0_; (try clear hb); (try clear hb2); (try clear hk); (try clear hi)) | ((with_reducible refine gate_callee (f := 22) rfl ?_); refine goesL_ (some 15) rfl rfl Try.func22 (by kernel_rfl) rfl #[.float .f64 a0.toNat] rfl (by (try simp only [List.map_toArray, List.map_cons, List.map_nil]); first | done | rfl | (simp only [List.length_drop, List.length_take]; rfl)) ?_; (with_reducible refine (weigh_Tame.calls a0.toNat t223 _ A4.out).mono ?_); rintro e w' ⟨rfl, ⟨nd, rfl⟩⟩; refine ⟨_, rfl, ?_⟩) | (go_at_call 23; (with_reducible refine (weigh_Bump.calls a0.toNat a1.toNat t224 _ A6.out).mono ?_); rintro e w' ⟨rfl, ⟨nd, rfl⟩⟩) | (go_at_call 23; (with_reducible refine (weigh_Bump.calls a1.toNat a0.toNat t225 _ A7.out).mono ?_); rintro e w' ⟨rfl, ⟨nd, rfl⟩⟩) | (go_at_call 18; (with_reducible refine (ashlarlaw02_same.calls t224 t225 true _ A8.out).mono ?_); rintro e w' ⟨rfl, ⟨nd, rfl⟩⟩) | (go_at_call 24; (with_reducible refine (math_NaN.calls  t227 _ A10.out).mono ?_); rintro e w' ⟨rfl, ⟨nd, rfl⟩⟩) | (go_at_call 23; (with_reducible refine (weigh_Bump.calls a0.toNat t227 t228 _ A11.out).mono ?_); rintro e w' ⟨rfl, ⟨nd, rfl⟩⟩) | (go_at_call 23; (with_reducible refine (weigh_Bump.calls a0.toNat 0 t229 _ A12.out).mono ?_); rintro e w' ⟨rfl, ⟨nd, rfl⟩⟩) | (go_at_call 18; (with_reducible refine (ashlarlaw02_same.calls t228 t229 true _ A13.out).mono ?_); rintro e w' ⟨rfl, ⟨nd, rfl⟩⟩) | (go_at_call 23; (with_reducible refine (weigh_Bump.calls a0.toNat 0 t229 _ A15.out).mono ?_); rintro e w' ⟨rfl, ⟨nd, rfl⟩⟩) | (go_at_call 23; (with_reducible refine (weigh_Bump.calls t223 (fNeg t223) t232 _ A17.out).mono ?_); rintro e w' ⟨rfl, ⟨nd, rfl⟩⟩) | (go_at_call 23; (with_reducible refine (weigh_Bump.calls a0.toNat a1.toNat t224 _ A19.out).mono ?_); rintro e w' ⟨rfl, ⟨nd, rfl⟩⟩) | (go_at_call 22; (with_reducible refine (weigh_Tame.calls a1.toNat t234 _ A20.out).mono ?_); rintro e w' ⟨rfl, ⟨nd, rfl⟩⟩) | (go_at_call 23; (with_reducible refine (weigh_Bump.calls t223 t234 t235 _ A21.out).mono ?_); rintro e w' ⟨rfl, ⟨nd, rfl⟩⟩) | (go_at_call 18; (with_reducible refine (ashlarlaw02_same.calls t224 t235 t236 _ A22.out).mono ?_); rintro e w' ⟨rfl, ⟨nd, rfl⟩⟩))
            go_ret
            exact ⟨by first | rfl | (simp [errW_none, errW_some] <;> rfl) | (simp [*, errW_none, errW_some] <;> rfl), by repeat (first | (with_reducible first | exact HB.out | apply below_alloc | apply pw_below_drewN | apply below_drew1) | exact HB.out)⟩
          · rw [if_neg c18] at H
            have c18b0 : fEq t232 0 = false := by simpa using c18
            clear c18
            obtain rfl := Option.some.inj H
            go_enter Try.func6, Try.ntmps6
            go_wp2_with (first | ((with_reducible refine gate_callee (f := 12) rfl ?_); refine goesL_ (some 9) rfl rfl Try.func12 (by kernel_rfl) rfl #[] rfl (by (try simp only [List.map_toArray, List.map_cons, List.map_nil]); first | done | rfl | (simp only [List.length_drop, List.length_take]; rfl)) ?_; (with_reducible refine (ashlarlaw02_shown.calls k  true _ A3.out).mono ?_); rintro e w24 ⟨rfl, hb⟩; refine ⟨_, rfl, ?_⟩; have n0_ := Aside0.mk (below_step (by repeat (first | (with_reducible first | exact HB.out | apply below_alloc | apply pw_below_drewN | apply below_drew1) | exact HB.out)) hb); clear HB; have HB := n0_; clear n0_; (try clear hb); (try clear hb2); (try clear hk); (try clear hi)) | ((with_reducible refine gate_callee (f := 22) rfl ?_); refine goesL_ (some 15) rfl rfl Try.func22 (by kernel_rfl) rfl #[.float .f64 a0.toNat] rfl (by (try simp only [List.map_toArray, List.map_cons, List.map_nil]); first | done | rfl | (simp only [List.length_drop, List.length_take]; rfl)) ?_; (with_reducible refine (weigh_Tame.calls a0.toNat t223 _ A4.out).mono ?_); rintro e w' ⟨rfl, ⟨nd, rfl⟩⟩; refine ⟨_, rfl, ?_⟩) | (go_at_call 23; (with_reducible refine (weigh_Bump.calls a0.toNat a1.toNat t224 _ A6.out).mono ?_); rintro e w' ⟨rfl, ⟨nd, rfl⟩⟩) | (go_at_call 23; (with_reducible refine (weigh_Bump.calls a1.toNat a0.toNat t225 _ A7.out).mono ?_); rintro e w' ⟨rfl, ⟨nd, rfl⟩⟩) | (go_at_call 18; (with_reducible refine (ashlarlaw02_same.calls t224 t225 true _ A8.out).mono ?_); rintro e w' ⟨rfl, ⟨nd, rfl⟩⟩) | (go_at_call 24; (with_reducible refine (math_NaN.calls  t227 _ A10.out).mono ?_); rintro e w' ⟨rfl, ⟨nd, rfl⟩⟩) | (go_at_call 23; (with_reducible refine (weigh_Bump.calls a0.toNat t227 t228 _ A11.out).mono ?_); rintro e w' ⟨rfl, ⟨nd, rfl⟩⟩) | (go_at_call 23; (with_reducible refine (weigh_Bump.calls a0.toNat 0 t229 _ A12.out).mono ?_); rintro e w' ⟨rfl, ⟨nd, rfl⟩⟩) | (go_at_call 18; (with_reducible refine (ashlarlaw02_same.calls t228 t229 true _ A13.out).mono ?_); rintro e w' ⟨rfl, ⟨nd, rfl⟩⟩) | (go_at_call 23; (with_reducible refine (weigh_Bump.calls a0.toNat 0 t229 _ A15.out).mono ?_); rintro e w' ⟨rfl, ⟨nd, rfl⟩⟩) | (go_at_call 23; (with_reducible refine (weigh_Bump.calls t223 (fNeg t223) t232 _ A17.out).mono ?_); rintro e w' ⟨rfl, ⟨nd, rfl⟩⟩))
            go_ret
            exact ⟨by first | rfl | (simp [errW_none, errW_some] <;> rfl) | (simp [*, errW_none, errW_some] <;> rfl), by repeat (first | (with_reducible first | exact HB.out | apply below_alloc | apply pw_below_drewN | apply below_drew1) | exact HB.out)⟩
        · rw [if_neg c16] at H
          have c16b0 : fEq t229 t223 = false := by simpa using c16
          clear c16
          obtain rfl := Option.some.inj H
          go_enter Try.func6, Try.ntmps6
          go_wp2_with (first | ((with_reducible refine gate_callee (f := 12) rfl ?_); refine goesL_ (some 9) rfl rfl Try.func12 (by kernel_rfl) rfl #[] rfl (by (try simp only [List.map_toArray, List.map_cons, List.map_nil]); first | done | rfl | (simp only [List.length_drop, List.length_take]; rfl)) ?_; (with_reducible refine (ashlarlaw02_shown.calls k  true _ A3.out).mono ?_); rintro e w25 ⟨rfl, hb⟩; refine ⟨_, rfl, ?_⟩; have n0_ := Aside0.mk (below_step (by repeat (first | (with_reducible first | exact HB.out | apply below_alloc | apply pw_below_drewN | apply below_drew1) | exact HB.out)) hb); clear HB; have HB := n0_; clear n0_; (try clear hb); (try clear hb2); (try clear hk); (try clear hi)) | ((with_reducible refine gate_callee (f := 22) rfl ?_); refine goesL_ (some 15) rfl rfl Try.func22 (by kernel_rfl) rfl #[.float .f64 a0.toNat] rfl (by (try simp only [List.map_toArray, List.map_cons, List.map_nil]); first | done | rfl | (simp only [List.length_drop, List.length_take]; rfl)) ?_; (with_reducible refine (weigh_Tame.calls a0.toNat t223 _ A4.out).mono ?_); rintro e w' ⟨rfl, ⟨nd, rfl⟩⟩; refine ⟨_, rfl, ?_⟩) | (go_at_call 23; (with_reducible refine (weigh_Bump.calls a0.toNat a1.toNat t224 _ A6.out).mono ?_); rintro e w' ⟨rfl, ⟨nd, rfl⟩⟩) | (go_at_call 23; (with_reducible refine (weigh_Bump.calls a1.toNat a0.toNat t225 _ A7.out).mono ?_); rintro e w' ⟨rfl, ⟨nd, rfl⟩⟩) | (go_at_call 18; (with_reducible refine (ashlarlaw02_same.calls t224 t225 true _ A8.out).mono ?_); rintro e w' ⟨rfl, ⟨nd, rfl⟩⟩) | (go_at_call 24; (with_reducible refine (math_NaN.calls  t227 _ A10.out).mono ?_); rintro e w' ⟨rfl, ⟨nd, rfl⟩⟩) | (go_at_call 23; (with_reducible refine (weigh_Bump.calls a0.toNat t227 t228 _ A11.out).mono ?_); rintro e w' ⟨rfl, ⟨nd, rfl⟩⟩) | (go_at_call 23; (with_reducible refine (weigh_Bump.calls a0.toNat 0 t229 _ A12.out).mono ?_); rintro e w' ⟨rfl, ⟨nd, rfl⟩⟩) | (go_at_call 18; (with_reducible refine (ashlarlaw02_same.calls t228 t229 true _ A13.out).mono ?_); rintro e w' ⟨rfl, ⟨nd, rfl⟩⟩) | (go_at_call 23; (with_reducible refine (weigh_Bump.calls a0.toNat 0 t229 _ A15.out).mono ?_); rintro e w' ⟨rfl, ⟨nd, rfl⟩⟩))
          go_ret
          exact ⟨by first | rfl | (simp [errW_none, errW_some] <;> rfl) | (simp [*, errW_none, errW_some] <;> rfl), by repeat (first | (with_reducible first | exact HB.out | apply below_alloc | apply pw_below_drewN | apply below_drew1) | exact HB.out)⟩
      · replace c14 := Bool.eq_false_iff.mpr c14
        subst c14
        have H1 : (some false) = some r := by rw [if_neg (show ¬ (false = true) by decide)] at H; exact H
        clear H
        have H := H1
        clear H1
        obtain rfl := Option.some.inj H
        go_enter Try.func6, Try.ntmps6
        go_wp2_with (first | ((with_reducible refine gate_callee (f := 12) rfl ?_); refine goesL_ (some 9) rfl rfl Try.func12 (by kernel_rfl) rfl #[] rfl (by (try simp only [List.map_toArray, List.map_cons, List.map_nil]); first | done | rfl | (simp only [List.length_drop, List.length_take]; rfl)) ?_; (with_reducible refine (ashlarlaw02_shown.calls k  true _ A3.out).mono ?_); rintro e w26 ⟨rfl, hb⟩; refine ⟨_, rfl, ?_⟩; have n0_ := Aside0.mk (below_step (by repeat (first | (with_reducible first | exact HB.out | apply below_alloc | apply pw_below_drewN | apply below_drew1) | exact HB.out)) hb); clear HB; have HB := n0_; clear n0_; (try clear hb); (try clear hb2); (try clear hk); (try clear hi)) | ((with_reducible refine gate_callee (f := 22) rfl ?_); refine goesL_ (some 15) rfl rfl Try.func22 (by kernel_rfl) rfl #[.float .f64 a0.toNat] rfl (by (try simp only [List.map_toArray, List.map_cons, List.map_nil]); first | done | rfl | (simp only [List.length_drop, List.length_take]; rfl)) ?_; (with_reducible refine (weigh_Tame.calls a0.toNat t223 _ A4.out).mono ?_); rintro e w' ⟨rfl, ⟨nd, rfl⟩⟩; refine ⟨_, rfl, ?_⟩) | (go_at_call 23; (with_reducible refine (weigh_Bump.calls a0.toNat a1.toNat t224 _ A6.out).mono ?_); rintro e w' ⟨rfl, ⟨nd, rfl⟩⟩) | (go_at_call 23; (with_reducible refine (weigh_Bump.calls a1.toNat a0.toNat t225 _ A7.out).mono ?_); rintro e w' ⟨rfl, ⟨nd, rfl⟩⟩) | (go_at_call 18; (with_reducible refine (ashlarlaw02_same.calls t224 t225 true _ A8.out).mono ?_); rintro e w' ⟨rfl, ⟨nd, rfl⟩⟩) | (go_at_call 24; (with_reducible refine (math_NaN.calls  t227 _ A10.out).mono ?_); rintro e w' ⟨rfl, ⟨nd, rfl⟩⟩) | (go_at_call 23; (with_reducible refine (weigh_Bump.calls a0.toNat t227 t228 _ A11.out).mono ?_); rintro e w' ⟨rfl, ⟨nd, rfl⟩⟩) | (go_at_call 23; (with_reducible refine (weigh_Bump.calls a0.toNat 0 t229 _ A12.out).mono ?_); rintro e w' ⟨rfl, ⟨nd, rfl⟩⟩) | (go_at_call 18; (with_reducible refine (ashlarlaw02_same.calls t228 t229 false _ A13.out).mono ?_); rintro e w' ⟨rfl, ⟨nd, rfl⟩⟩))
        go_ret
        exact ⟨by first | rfl | (simp [errW_none, errW_some] <;> rfl) | (simp [*, errW_none, errW_some] <;> rfl), by repeat (first | (with_reducible first | exact HB.out | apply below_alloc | apply pw_below_drewN | apply below_drew1) | exact HB.out)⟩
    · replace c9 := Bool.eq_false_iff.mpr c9
      subst c9
      have H1 : (some false) = some r := by rw [if_neg (show ¬ (false = true) by decide)] at H; exact H
      clear H
      have H := H1
      clear H1
      obtain rfl := Option.some.inj H
      go_enter Try.func6, Try.ntmps6
      go_wp2_with (first | ((with_reducible refine gate_callee (f := 12) rfl ?_); refine goesL_ (some 9) rfl rfl Try.func12 (by kernel_rfl) rfl #[] rfl (by (try simp only [List.map_toArray, List.map_cons, List.map_nil]); first | done | rfl | (simp only [List.length_drop, List.length_take]; rfl)) ?_; (with_reducible refine (ashlarlaw02_shown.calls k  true _ A3.out).mono ?_); rintro e w27 ⟨rfl, hb⟩; refine ⟨_, rfl, ?_⟩; have n0_ := Aside0.mk (below_step (by repeat (first | (with_reducible first | exact HB.out | apply below_alloc | apply pw_below_drewN | apply below_drew1) | exact HB.out)) hb); clear HB; have HB := n0_; clear n0_; (try clear hb); (try clear hb2); (try clear hk); (try clear hi)) | ((with_reducible refine gate_callee (f := 22) rfl ?_); refine goesL_ (some 15) rfl rfl Try.func22 (by kernel_rfl) rfl #[.float .f64 a0.toNat] rfl (by (try simp only [List.map_toArray, List.map_cons, List.map_nil]); first | done | rfl | (simp only [List.length_drop, List.length_take]; rfl)) ?_; (with_reducible refine (weigh_Tame.calls a0.toNat t223 _ A4.out).mono ?_); rintro e w' ⟨rfl, ⟨nd, rfl⟩⟩; refine ⟨_, rfl, ?_⟩) | (go_at_call 23; (with_reducible refine (weigh_Bump.calls a0.toNat a1.toNat t224 _ A6.out).mono ?_); rintro e w' ⟨rfl, ⟨nd, rfl⟩⟩) | (go_at_call 23; (with_reducible refine (weigh_Bump.calls a1.toNat a0.toNat t225 _ A7.out).mono ?_); rintro e w' ⟨rfl, ⟨nd, rfl⟩⟩) | (go_at_call 18; (with_reducible refine (ashlarlaw02_same.calls t224 t225 false _ A8.out).mono ?_); rintro e w' ⟨rfl, ⟨nd, rfl⟩⟩))
      go_ret
      exact ⟨by first | rfl | (simp [errW_none, errW_some] <;> rfl) | (simp [*, errW_none, errW_some] <;> rfl), by repeat (first | (with_reducible first | exact HB.out | apply below_alloc | apply pw_below_drewN | apply below_drew1) | exact HB.out)⟩
  · replace c5 := Bool.eq_false_iff.mpr c5
    subst c5
    have H1 : (some false) = some r := by rw [if_neg (show ¬ (false = true) by decide)] at H; exact H
    clear H
    have H := H1
    clear H1
    obtain rfl := Option.some.inj H
    go_enter Try.func6, Try.ntmps6
    go_wp2_with (first | ((with_reducible refine gate_callee (f := 12) rfl ?_); refine goesL_ (some 9) rfl rfl Try.func12 (by kernel_rfl) rfl #[] rfl (by (try simp only [List.map_toArray, List.map_cons, List.map_nil]); first | done | rfl | (simp only [List.length_drop, List.length_take]; rfl)) ?_; (with_reducible refine (ashlarlaw02_shown.calls k  false _ A3.out).mono ?_); rintro e w28 ⟨rfl, hb⟩; refine ⟨_, rfl, ?_⟩; have n0_ := Aside0.mk (below_step (by repeat (first | (with_reducible first | exact HB.out | apply below_alloc | apply pw_below_drewN | apply below_drew1) | exact HB.out)) hb); clear HB; have HB := n0_; clear n0_; (try clear hb); (try clear hb2); (try clear hk); (try clear hi)) | ((with_reducible refine gate_callee (f := 22) rfl ?_); refine goesL_ (some 15) rfl rfl Try.func22 (by kernel_rfl) rfl #[.float .f64 a0.toNat] rfl (by (try simp only [List.map_toArray, List.map_cons, List.map_nil]); first | done | rfl | (simp only [List.length_drop, List.length_take]; rfl)) ?_; (with_reducible refine (weigh_Tame.calls a0.toNat t223 _ A4.out).mono ?_); rintro e w' ⟨rfl, ⟨nd, rfl⟩⟩; refine ⟨_, rfl, ?_⟩))
    go_ret
    exact ⟨by first | rfl | (simp [errW_none, errW_some] <;> rfl) | (simp [*, errW_none, errW_some] <;> rfl), by repeat (first | (with_reducible first | exact HB.out | apply below_alloc | apply pw_below_drewN | apply below_drew1) | exact HB.out)⟩

/-- THE ONE PURE STATEMENT of ashlarlaw02_WeighTurned: yours. -/
def ashlarlaw02_WeighTurned.Pure : Prop := ∀ (a0 : Int) (a1 : Int), (Lit.int .u64 a0).wf = true → (Lit.int .u64 a1).wf = true → ∃ k, ashlarlaw02_WeighTurned.f k a0 a1 = some true
theorem ashlarlaw02_WeighTurned.walk (P : ashlarlaw02_WeighTurned.Pure) (a0 : Int) (a1 : Int) (w : World) (w0 : (Lit.int .u64 a0).wf = true) (w1 : (Lit.int .u64 a1).wf = true) :
    Calls Try.prog 6 #[.int .u64 a0, .int .u64 a1] w fun e w' => e = .returned (.bool true) ∧ Below w.heap.size w w' := by
  obtain ⟨k, h⟩ := P a0 a1 w0 w1
  refine (ashlarlaw02_WeighTurned.calls k a0 a1 true w h).mono ?_
  rintro e w' ⟨rfl, hd⟩
  exact ⟨rfl, hd⟩

end Go.Proofs.Ytglpafflpcgnpaa.Q
