/- The plain law of WeighTurned: what the printed functions compute answers true. -/
import Derived.Test.YtglpafflpcgnpaaWeigh2
import Derived.Test.YtglpafflpcgnpaaQx6
namespace Go.Proofs.Ytglpafflpcgnpaa.Pure
set_option linter.unusedVariables false
open Go.RowKit Go.Proofs.Ytglpafflpcgnpaa.Q Go.Proofs.YtglpafflpcgnpaaW.PrintWords Go.Proofs.YtglpafflpcgnpaaW.PrintLast Go.Proofs.Ytglpafflpcgnpaa.Fl

theorem same_bump (x y : Nat) : ashlarlaw02_same.f (bump x y) (bump x y) = some true := same_self _ (by have := bump_fin x y; omega)
theorem WeighTurned : ∀ (a0 : Int) (a1 : Int), (Lit.int .u64 a0).wf = true → (Lit.int .u64 a1).wf = true → ∃ k, ashlarlaw02_WeighTurned.f k a0 a1 = some true := by
  intro a0 a1 h0 h1
  obtain ⟨n, hn⟩ : ∃ n, n = 8 := ⟨8, rfl⟩
  refine ⟨n + 1, ?_⟩
  have w0 := uW h0
  have w1 := uW h1
  unfold ashlarlaw02_WeighTurned.f
  rw [shown_f (n + 1) (by omega), Option.bind_some]
  generalize a0.toNat = x at *
  generalize a1.toNat = y at *
  have wt := tame_W x w0
  have wn : W (fNeg (tame x)) := (rung_neg _ wt).2.2.2
  have nan : math_NaN.f = some 9221120237041090561 := rfl
  have wnan : W 9221120237041090561 := by unfold W; omega
  have wz : W 0 := by unfold W; omega
  have e1 : bump y x = bump x y := by unfold bump; rw [addW_comm]
  have tn : tame 9221120237041090561 = tame 0 := by decide
  have e2 : bump x 9221120237041090561 = bump x 0 := by unfold bump; rw [tn]
  have z : sv (tame 0) = 0 := by decide
  have e3 : fEq (bump x 0) (tame x) = true := by
    rw [eq_eq (by have := bump_fin x 0; omega) (by have := tame_fin x; omega), sv_bump, z, Int.add_zero, R_sv _ (tame_fin x)]
    simp
  have fn : rung (fNeg (tame x)) < inf := by rw [(rung_neg _ wt).1]; exact tame_fin x
  have e4 : fEq (bump (tame x) (fNeg (tame x))) 0 = true := by
    rw [eq_eq (by have := bump_fin (tame x) (fNeg (tame x)); omega) (by decide), sv_bump, tame_tame, tame_of _ fn, (rung_neg _ wt).2.2.1, Int.add_right_neg]
    decide
  have e5 : bump (tame x) (tame y) = bump x y := by unfold bump; rw [tame_tame, tame_tame]
  rw [tame_f x w0, Option.bind_some, if_pos rfl, bump_f x y w0 w1, Option.bind_some, bump_f y x w1 w0, Option.bind_some, e1, same_bump, Option.bind_some, if_pos rfl, nan, Option.bind_some,
    bump_f x _ w0 wnan, Option.bind_some, bump_f x 0 w0 wz, Option.bind_some, e2, same_bump, Option.bind_some, if_pos rfl, Option.bind_some, if_pos e3, bump_f (tame x) _ wt wn, Option.bind_some, if_pos e4,
    Option.bind_some, tame_f y w1, Option.bind_some, bump_f (tame x) (tame y) wt (tame_W y w1), Option.bind_some, e5, same_bump]
  rfl

end Go.Proofs.Ytglpafflpcgnpaa.Pure
