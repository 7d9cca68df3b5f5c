/- The printed functions over single floats, told in whole numbers. -/
import Derived.Test.YtglpafflpcgnpaaFlw
import Derived.Test.YtglpafflpcgnpaaQx1
import Derived.Test.YtglpafflpcgnpaaQx2
namespace Go.Proofs.Ytglpafflpcgnpaa.Fl
set_option linter.unusedVariables false
open Ieee Go.Proofs.YtglpafflpcgnpaaW.PrintWords Go.Proofs.Ytglpafflpcgnpaa.Q Go.RowKit

def top : Nat := 9218868437227405311
def W (x : Nat) : Prop := x < 18446744073709551616
/-- Tame. -/
def tame (x : Nat) : Nat := if inf < rung x then 0 else if rung x = inf then word (sgn x) top else x
theorem top_lt : top < 9223372036854775808 := by decide
theorem inf_lt : inf < 9223372036854775808 := by decide
theorem top_inf : top + 1 = inf := by decide
theorem rung_small (r : Nat) (h : r < 9223372036854775808) : rung r = r ∧ sgn r = false := ⟨rung_word false r h, sgn_word false r h⟩
theorem sv_small (r : Nat) (h : r < 9223372036854775808) : sv r = (V r : Int) := sv_word false r h

theorem abs_f (x : Nat) (hx : W x) : math_Abs.f x = some (rung x) := by
  unfold math_Abs.f
  rw [bits_abs x hx]; rfl
theorem gt_top (r : Nat) (h : r ≤ inf) : fGt r 9218868437227405311 = decide (r = inf) := by
  have hi := inf_lt
  obtain ⟨a, b⟩ := rung_small r (by omega)
  rw [gt_eq (by omega) (by decide), sv_small r (by omega)]
  have e : sv 9218868437227405311 = (V top : Int) := sv_small top top_lt
  rw [e, Bool.eq_iff_iff]
  simp only [decide_eq_true_eq]
  have := V_lt_iff top r
  have := top_inf
  omega
theorem isInf_f (x : Nat) (hx : W x) (h : rung x ≤ inf) : math_IsInf.f x 0 = some (decide (rung x = inf)) := by
  unfold math_IsInf.f
  rw [if_pos rfl, abs_f x hx, Option.bind_some, gt_top _ h]
theorem copysign_f (r x : Nat) (hr : r < 9223372036854775808) (hx : W x) : math_Copysign.f r x = some (word (sgn x) r) := by
  unfold math_Copysign.f
  rw [bits_abs r (by omega), bits_sign x hx, (rung_small r hr).1, bits_join' r (sgn x) hr]; rfl
theorem tame_f (x : Nat) (hx : W x) : weigh_Tame.f x = some (tame x) := by
  unfold weigh_Tame.f tame
  rw [ne_self]
  by_cases h : inf < rung x
  · rw [if_pos (decide_eq_true h), if_pos h]
  · rw [if_neg (by simpa using h), if_neg h, isInf_f x hx (by omega), Option.bind_some]
    have hc : math_Copysign.f 9218868437227405311 x = some (word (sgn x) top) := copysign_f top x top_lt hx
    by_cases g : rung x = inf
    · rw [if_pos (decide_eq_true g), if_pos g, hc]; rfl
    · rw [if_neg (by simpa using g), if_neg g]
theorem tame_W (x : Nat) (hx : W x) : W (tame x) := by
  unfold tame
  split
  · unfold W; omega
  · split
    · exact word_lt _ _ top_lt
    · exact hx
theorem tame_fin (x : Nat) : rung (tame x) < inf := by
  unfold tame
  split
  · decide
  · split
    · rw [rung_word _ _ top_lt]; decide
    · omega
theorem tame_of (x : Nat) (h : rung x < inf) : tame x = x := by
  unfold tame
  rw [if_neg (by omega), if_neg (by omega)]
theorem tame_tame (x : Nat) : tame (tame x) = tame x := tame_of _ (tame_fin x)
theorem tame_word (s : Bool) (r : Nat) : tame (word s (min r inf)) = word s (min r top) := by
  have hi := inf_lt
  have ht := top_inf
  have hr : rung (word s (min r inf)) = min r inf := rung_word s _ (by omega)
  unfold tame
  rw [if_neg (by omega), hr]
  by_cases h : min r inf = inf
  · rw [if_pos h, sgn_word _ _ (by omega)]; congr 1; omega
  · rw [if_neg h]; congr 1; omega

/-! ### the order -/
def K (x : Nat) : Int := if inf < rung x then -9223372036854775809 else if sgn x then -(rung x : Int) - 1 else (rung x : Int)
theorem K_nan (x : Nat) (h : inf < rung x) : K x = -9223372036854775809 := by unfold K; rw [if_pos h]
theorem K_word (s : Bool) (r : Nat) (h : r ≤ inf) : K (word s r) = if s then -(r : Int) - 1 else (r : Int) := by
  have hi := inf_lt
  unfold K
  rw [rung_word s r (by omega), sgn_word s r (by omega), if_neg (by omega)]
theorem K_ge (x : Nat) (h : rung x ≤ inf) : -9223372036854775809 < K x := by
  have hi := inf_lt
  unfold K
  rw [if_neg (by omega)]
  split <;> omega
theorem sv_lt_K (x y : Nat) (hx : rung x ≤ inf) (hy : rung y ≤ inf) (h : sv x < sv y) : K x < K y := by
  have nx : ¬ inf < rung x := by omega
  have ny : ¬ inf < rung y := by omega
  unfold K
  rw [if_neg nx, if_neg ny]
  unfold sv at h
  have a := V_lt_iff (rung x) (rung y)
  have b := V_lt_iff (rung y) (rung x)
  cases hs : sgn x <;> cases ht : sgn y <;> rw [hs, ht] at h <;> simp only [Bool.false_eq_true, if_false, if_true] at h ⊢ <;> omega
theorem sv_zero (x : Nat) (h : sv x = 0) : rung x = 0 := by
  have : V (rung x) = 0 := by unfold sv at h; split at h <;> omega
  by_cases g : rung x = 0
  · exact g
  · exact absurd this (V_ne _ g)
theorem sv_eq_K (x y : Nat) (hx : rung x ≤ inf) (hy : rung y ≤ inf) (h : sv x = sv y) (h0 : ¬ sv x = 0) : K x = K y := by
  have nx : ¬ inf < rung x := by omega
  have ny : ¬ inf < rung y := by omega
  unfold K
  rw [if_neg nx, if_neg ny]
  unfold sv at h h0
  have a := V_lt_iff (rung x) (rung y)
  have b := V_lt_iff (rung y) (rung x)
  cases hs : sgn x <;> cases ht : sgn y <;> rw [hs] at h h0 <;> rw [ht] at h <;> simp only [Bool.false_eq_true, if_false, if_true] at h h0 ⊢ <;> omega

theorem signbit_f (x : Nat) (hx : W x) : math_Signbit.f x = some (sgn x) := by
  unfold math_Signbit.f
  rw [sgn_ge x hx]
  congr 1
  rw [Bool.eq_iff_iff]
  simp only [decide_eq_true_eq]
  unfold W at hx
  unfold wrap64
  omega
theorem less_eq (a b : Nat) (ha : W a) (hb : W b) : lessB a b = decide (K a < K b) := by
  have hh : weigh_Less.f 1 a b = some (decide (K a < K b)) := by
    unfold weigh_Less.f
    rw [ne_self, ne_self]
    by_cases h1 : inf < rung b
    · rw [if_pos (decide_eq_true h1), K_nan b h1]
      have : -9223372036854775809 ≤ K a := by
        by_cases g : inf < rung a
        · rw [K_nan a g]; omega
        · have := K_ge a (by omega); omega
      rw [decide_eq_false (by omega)]
    · rw [if_neg (by simpa using h1)]
      have hb' : rung b ≤ inf := by omega
      by_cases h2 : inf < rung a
      · rw [if_pos (decide_eq_true h2), K_nan a h2, decide_eq_true (K_ge b hb')]
      · rw [if_neg (by simpa using h2)]
        have ha' : rung a ≤ inf := by omega
        have z : sv 0 = 0 := by decide
        have hj : ∀ x, x = (decide (sv a = 0) && decide (sv b = 0)) → weigh_Less.j0 1 a b x = some (decide (K a < K b)) := by
          intro x hx
          simp only [weigh_Less.j0]
          by_cases g : sv a = 0 ∧ sv b = 0
          · rw [if_pos (by rw [hx, decide_eq_true g.1, decide_eq_true g.2]; rfl), signbit_f a ha, signbit_f b hb, Option.bind_some, Option.bind_some]
            have ra := sv_zero a g.1
            have rb := sv_zero b g.2
            have ka : K a = if sgn a then -1 else 0 := by unfold K; rw [if_neg (by omega), ra]; rfl
            have kb : K b = if sgn b then -1 else 0 := by unfold K; rw [if_neg (by omega), rb]; rfl
            rw [ka, kb]
            cases sgn a <;> cases sgn b <;> rfl
          · rw [if_neg (by rw [hx]; simpa using g), lt_eq ha' hb']
            congr 1
            rw [Bool.eq_iff_iff]
            simp only [decide_eq_true_eq]
            constructor
            · exact sv_lt_K a b ha' hb'
            · intro hk
              rcases Int.lt_trichotomy (sv a) (sv b) with h | h | h
              · exact h
              · have h0 : ¬ sv a = 0 := fun e => g ⟨e, by omega⟩
                have := sv_eq_K a b ha' hb' h h0
                omega
              · have := sv_lt_K b a hb' ha' h
                omega
        have e1 : fEq a 0 = decide (sv a = 0) := by rw [eq_eq ha' (by decide), z]
        have e2 : fEq b 0 = decide (sv b = 0) := by rw [eq_eq hb' (by decide), z]
        by_cases h3 : sv a = 0
        · rw [if_pos (by rw [e1, decide_eq_true h3])]
          exact hj _ (by rw [e2, decide_eq_true h3]; rfl)
        · rw [if_neg (by rw [e1]; simpa using h3)]
          exact hj _ (by rw [decide_eq_false h3]; rfl)
  have := less_some a b
  rw [hh] at this
  exact (Option.some.inj this).symm
theorem less_f (k : Nat) (a b : Nat) (ha : W a) (hb : W b) : weigh_Less.f (k + 1) a b = some (decide (K a < K b)) := by
  rw [← less_eq a b ha hb]
  induction k with
  | zero => exact less_some a b
  | succ k ih => exact weigh_Less.mono a b (k + 1) _ ih
theorem place_f (x : Nat) (hx : W x) : ashlarref02_Place.f x = some (K x + 9223372036854775809) := by
  unfold ashlarref02_Place.f K
  rw [ne_self]
  by_cases h : inf < rung x
  · rw [if_pos (decide_eq_true h), if_pos h]; rfl
  · rw [if_neg (by simpa using h), if_neg h]
    have hw : ∀ n : Int, IntKind.u64.wrap n = n % 18446744073709551616 := fun n => by simp [IntKind.wrap, IntKind.bits, IntKind.signed]
    rw [sgn_ge x hx]
    have hi : inf = 9218868437227405312 := rfl
    have hr : rung x = x % 9223372036854775808 := rfl
    unfold W at hx
    by_cases g : 9223372036854775808 ≤ x
    · rw [if_pos (by omega), if_pos (decide_eq_true g), hw, hw, hw]; exact congrArg some (by omega)
    · rw [if_neg (by omega), if_neg (by simpa using g), hw, hw]; exact congrArg some (by omega)

/-! ### the reference's Tame -/
theorem rtame_f (x : Nat) (hx : W x) : ashlarref02_Tame.f x = some (tame x) := by
  unfold ashlarref02_Tame.f tame
  rw [ne_self]
  by_cases h : inf < rung x
  · rw [if_pos (decide_eq_true h), if_pos h]
  · rw [if_neg (by simpa using h), if_neg h]
    have hx' : rung x ≤ inf := by omega
    have e1 : sv 9218868437227405311 = (V top : Int) := sv_small top top_lt
    have e2 : sv 18442240474082181119 = -(V top : Int) := sv_word true top top_lt
    rw [gt_eq hx' (by decide), lt_eq hx' (by decide), e1, e2]
    have ht := top_inf
    have a := V_lt_iff top (rung x)
    by_cases g : rung x = inf
    · have a' : V top < V (rung x) := a.2 (by omega)
      rw [if_pos g]
      cases hs : sgn x with
      | true =>
        have : sv x = -(V (rung x) : Int) := by unfold sv; rw [hs]; rfl
        rw [if_neg (by simp only [decide_eq_true_eq]; omega), if_pos (by simp only [decide_eq_true_eq]; omega)]; rfl
      | false =>
        have : sv x = (V (rung x) : Int) := by unfold sv; rw [hs]; rfl
        rw [if_pos (by simp only [decide_eq_true_eq]; omega)]; rfl
    · have a' : ¬ V top < V (rung x) := fun h => by have := a.1 h; omega
      have : sv x = (V (rung x) : Int) ∨ sv x = -(V (rung x) : Int) := by unfold sv; split <;> simp
      rw [if_neg g, if_neg (by simp only [decide_eq_true_eq]; omega), if_neg (by simp only [decide_eq_true_eq]; omega)]

/-! ### sums -/
/-- The units that a number of units is rounded to (no more than the greatest). -/
def R (s : Int) : Int := if s < 0 then -(V (min (F 0 s.natAbs) top) : Int) else (V (min (F 0 s.natAbs) top) : Int)
theorem R_mono {a b : Int} (h : a ≤ b) : R a ≤ R b := by
  have m : ∀ {p q : Nat}, p ≤ q → V (min (F 0 p) top) ≤ V (min (F 0 q) top) := fun hpq => V_le (by have := F_mono 0 hpq; omega)
  unfold R
  by_cases ha : a < 0 <;> by_cases hb : b < 0
  · rw [if_pos ha, if_pos hb]; have := m (show b.natAbs ≤ a.natAbs by omega); omega
  · rw [if_pos ha, if_neg hb]; omega
  · omega
  · rw [if_neg ha, if_neg hb]; have := m (show a.natAbs ≤ b.natAbs by omega); omega
theorem R_sv (x : Nat) (h : rung x < inf) : R (sv x) = sv x := by
  have e : F 0 (sv x).natAbs = rung x := by rw [sv_abs]; have := F_exact 0 (rung x); rwa [Nat.pow_zero, Nat.mul_one] at this
  have ht := top_inf
  unfold R
  rw [e]
  have m : min (rung x) top = rung x := by omega
  rw [m]
  unfold sv
  have z : V 0 = 0 := rfl
  cases sgn x with
  | true =>
    simp only [if_true]
    by_cases g : V (rung x) = 0
    · rw [if_neg (by omega)]; omega
    · rw [if_pos (by omega)]
  | false => simp only [Bool.false_eq_true, if_false]; rw [if_neg (by omega)]
/-- Bump. -/
def bump (x y : Nat) : Nat := tame (addW (tame x) (tame y))
theorem sv_bump (x y : Nat) : sv (bump x y) = R (sv (tame x) + sv (tame y)) := by
  unfold bump addW
  rw [tame_word, sv_word _ _ (by have := top_lt; omega)]
  unfold R
  generalize sv (tame x) + sv (tame y) = s
  by_cases h0 : s = 0
  · subst h0
    have : min (F 0 (0 : Int).natAbs) top = 0 := by rw [show (0 : Int).natAbs = 0 from rfl, F_zero]; rfl
    rw [this]
    simp [V_zero]
  · rw [if_neg h0]
    by_cases h : s < 0
    · rw [if_pos (decide_eq_true h), if_pos h]
    · rw [if_neg (by simpa using h), if_neg h]
theorem add_ok (x y : Nat) (hx : rung x < inf) (hy : rung y < inf) : fAddOk x y = true ∧ fAdd x y = addW x y := by
  unfold fAddOk fAdd
  rw [add_fin x y hx hy]
  exact ⟨rfl, rfl⟩
theorem addW_W (x y : Nat) : W (addW x y) := word_lt _ _ (by have := inf_lt; omega)
theorem bump_f (x y : Nat) (hx : W x) (hy : W y) : weigh_Bump.f x y = some (bump x y) := by
  unfold weigh_Bump.f
  rw [tame_f x hx, Option.bind_some, tame_f y hy, Option.bind_some]
  obtain ⟨a, b⟩ := add_ok (tame x) (tame y) (tame_fin x) (tame_fin y)
  rw [if_pos a, b, tame_f _ (addW_W _ _)]; rfl
theorem bump_W (x y : Nat) : W (bump x y) := tame_W _ (addW_W _ _)
theorem bump_fin (x y : Nat) : rung (bump x y) < inf := tame_fin _
theorem addW_comm (x y : Nat) : addW x y = addW y x := by
  unfold addW
  rw [Int.add_comm, Bool.and_comm]
end Go.Proofs.Ytglpafflpcgnpaa.Fl
