/- The plain law of WeighTells: what the printed functions compute answers true. -/
import Derived.Test.YtglpafflpcgnpaaWeigh3
import Derived.Test.YtglpafflpcgnpaaQx8
namespace Go.Proofs.Ytglpafflpcgnpaa.Pure
set_option linter.unusedVariables false
open Go.RowKit Go.Proofs.Ytglpafflpcgnpaa.Q Go.Proofs.YtglpafflpcgnpaaW.PrintWords Go.Proofs.YtglpafflpcgnpaaW.PrintLast Go.Proofs.Ytglpafflpcgnpaa.Fl

theorem WeighTells : ∀ (a0 : Int) (a1 : Int), (Lit.int .u64 a0).wf = true → (Lit.int .u64 a1).wf = true → ∃ k, ashlarlaw02_WeighTells.f k a0 a1 = some true := by
  intro a0 a1 h0 h1
  obtain ⟨n, hn⟩ : ∃ n, n = 8 := ⟨8, rfl⟩
  refine ⟨n + 1, ?_⟩
  have w0 := uW h0
  have w1 := uW h1
  unfold ashlarlaw02_WeighTells.f
  rw [shown_f (n + 1) (by omega), Option.bind_some, if_pos rfl]
  generalize a0.toNat = x at *
  generalize a1.toNat = y at *
  have s1 : ashlarlaw02_same.f (tame x) (tame x) = some true := same_self _ (by have := tame_fin x; omega)
  have s2 : ashlarlaw02_same.f (bump x y) (bump x y) = some true := same_self _ (by have := bump_fin x y; omega)
  have s3 : ashlarlaw02_same.f (decay x) (decay x) = some true := same_self _ (by have := decay_fin x; omega)
  have e : decide (K x + 9223372036854775809 < K y + 9223372036854775809) = decide (K x < K y) := by
    rw [Bool.eq_iff_iff]; simp only [decide_eq_true_eq]; omega
  simp only [tame_f x w0, rtame_f x w0, Option.bind_some, s1, if_true, less_k (n + 1) (by omega) x y w0 w1, place_f x w0, place_f y w1, e, bump_f x y w0 w1, rbump_f x y w0 w1, s2, decay_f x w0, rdecay_f x w0, s3, beq_self_eq_true]

end Go.Proofs.Ytglpafflpcgnpaa.Pure
