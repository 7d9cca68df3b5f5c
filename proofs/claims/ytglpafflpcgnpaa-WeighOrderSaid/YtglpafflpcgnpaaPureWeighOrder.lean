/- The plain law of WeighOrder: what the printed functions compute answers true. -/
import Derived.Test.YtglpafflpcgnpaaWeigh2
import Derived.Test.YtglpafflpcgnpaaQx5
namespace Go.Proofs.Ytglpafflpcgnpaa.Pure
set_option linter.unusedVariables false
open Go.RowKit Go.Proofs.Ytglpafflpcgnpaa.Q Go.Proofs.YtglpafflpcgnpaaW.PrintWords Go.Proofs.YtglpafflpcgnpaaW.PrintLast Go.Proofs.Ytglpafflpcgnpaa.Fl

theorem order_tail (x y : Nat) : (if fNe x x = true then some true else if fNe y y = true then some true else if fEq x y = true then some true else some (decide (K x < K y) == fLt x y)) = some true := by
  by_cases h1 : fNe x x = true
  · rw [if_pos h1]
  · rw [if_neg h1]
    by_cases h2 : fNe y y = true
    · rw [if_pos h2]
    · rw [if_neg h2]
      by_cases h3 : fEq x y = true
      · rw [if_pos h3]
      · rw [if_neg h3]
        rw [ne_self] at h1 h2
        have hx : rung x ≤ inf := by simp at h1; omega
        have hy : rung y ≤ inf := by simp at h2; omega
        rw [eq_eq hx hy] at h3
        rw [lt_eq hx hy]
        have e : decide (K x < K y) = decide (sv x < sv y) := by
          rw [Bool.eq_iff_iff]
          simp only [decide_eq_true_eq] at h3 ⊢
          refine ⟨fun hk => ?_, sv_lt_K x y hx hy⟩
          rcases Int.lt_trichotomy (sv x) (sv y) with h | h | h
          · exact h
          · exact absurd h h3
          · have := sv_lt_K y x hy hx h; omega
        rw [e]; simp
theorem WeighOrder : ∀ (a0 : Int) (a1 : Int) (a2 : Int), (Lit.int .u64 a0).wf = true → (Lit.int .u64 a1).wf = true → (Lit.int .u64 a2).wf = true → ∃ k, ashlarlaw02_WeighOrder.f k a0 a1 a2 = some true := by
  intro a0 a1 a2 h0 h1 h2
  obtain ⟨n, hn⟩ : ∃ n, n = 8 := ⟨8, rfl⟩
  refine ⟨n + 1, ?_⟩
  have w0 := uW h0
  have w1 := uW h1
  have w2 := uW h2
  unfold ashlarlaw02_WeighOrder.f
  rw [shown_f (n + 1) (by omega), Option.bind_some]
  generalize a0.toNat = x at *
  generalize a1.toNat = y at *
  generalize a2.toNat = z at *
  have L := less_k (n + 1) (by omega)
  rw [L x y w0 w1, L y x w1 w0, L y z w1 w2, L z y w2 w1, L x z w0 w2, L z x w2 w0, L x x w0 w0]
  simp only [Option.bind_some, ashlarlaw02_WeighOrder.j0]
  have ht := order_tail x y
  generalize K x = p at *
  generalize K y = q at *
  generalize K z = r at *
  rw [if_neg (by simp)]
  by_cases c1 : p < q
  · rw [if_pos (decide_eq_true c1), if_neg (by simp; omega)]
    have et : decide (p < q) = true := decide_eq_true c1
    rw [et] at ht ⊢
    by_cases c2 : q < r
    · rw [if_pos (decide_eq_true c2), decide_eq_true (show p < r by omega)]
      simpa using ht
    · rw [if_neg (by simpa using c2)]
      simpa using ht
  · rw [if_neg (by simpa using c1), if_neg (by decide), if_neg (by simpa using c1)]
    by_cases c2 : q < p
    · rw [if_pos (decide_eq_true c2), if_pos trivial]; exact ht
    · rw [if_neg (by simpa using c2)]
      have e1 : decide (q < r) = decide (p < r) := by rw [Bool.eq_iff_iff]; simp only [decide_eq_true_eq]; omega
      have e2 : decide (r < q) = decide (r < p) := by rw [Bool.eq_iff_iff]; simp only [decide_eq_true_eq]; omega
      rw [if_neg (by rw [e1]; simp), if_neg (by rw [e2]; simp), if_pos trivial]; exact ht

end Go.Proofs.Ytglpafflpcgnpaa.Pure
