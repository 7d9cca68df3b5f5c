/- Floats of 64 bits: what the words of the walk answer, told by the units of a float. -/
import Derived.Test.YtglpafflpcgnpaaFl
import Derived.Test.YtglpafflpcgnpaaWFloat
import Derived.Laws.BitsLemmas
namespace Go.Proofs.Ytglpafflpcgnpaa.Fl
open Ieee Go.Proofs.YtglpafflpcgnpaaW.PrintWords

theorem beq_lt (a b : Int) : (some (compare a b) == some Ordering.lt) = decide (a < b) := by
  rcases Int.lt_trichotomy a b with h | h | h
  · rw [cmp_lt h, decide_eq_true h]; rfl
  · rw [cmp_eq h, decide_eq_false (by omega)]; rfl
  · rw [cmp_gt h, decide_eq_false (by omega)]; rfl
theorem beq_gt (a b : Int) : (some (compare a b) == some Ordering.gt) = decide (b < a) := by
  rcases Int.lt_trichotomy a b with h | h | h
  · rw [cmp_lt h, decide_eq_false (by omega)]; rfl
  · rw [cmp_eq h, decide_eq_false (by omega)]; rfl
  · rw [cmp_gt h, decide_eq_true h]; rfl
theorem beq_eq (a b : Int) : (some (compare a b) == some Ordering.eq) = decide (a = b) := by
  rcases Int.lt_trichotomy a b with h | h | h
  · rw [cmp_lt h, decide_eq_false (by omega)]; rfl
  · rw [cmp_eq h, decide_eq_true h]; rfl
  · rw [cmp_gt h, decide_eq_false (by omega)]; rfl
section
variable {x y : Nat} (hx : rung x ≤ inf) (hy : rung y ≤ inf)
include hx hy
theorem lt_eq : fLt x y = decide (sv x < sv y) := by unfold fLt; rw [order_eq x y hx hy, beq_lt]
theorem gt_eq : fGt x y = decide (sv y < sv x) := by unfold fGt; rw [order_eq x y hx hy, beq_gt]
theorem eq_eq : fEq x y = decide (sv x = sv y) := by unfold fEq; rw [order_eq x y hx hy, beq_eq]
theorem ne_eq : fNe x y = decide (¬ sv x = sv y) := by unfold fNe bne; rw [order_eq x y hx hy, beq_eq, decide_not]
theorem le_eq : fLe x y = decide (sv x ≤ sv y) := by
  unfold fLe; rw [order_eq x y hx hy, beq_eq, beq_lt, Bool.eq_iff_iff]; simp; omega
theorem ge_eq : fGe x y = decide (sv y ≤ sv x) := by
  unfold fGe; rw [order_eq x y hx hy, beq_eq, beq_gt, Bool.eq_iff_iff]; simp; omega
end
section
variable (x y : Nat) (h : inf < rung x ∨ inf < rung y)
include h
theorem nan_order : double.order x y = none := by
  rcases h with h | h
  · exact order_nan1 x y h
  · exact order_nan2 x y h
theorem lt_nan : fLt x y = false := by unfold fLt; rw [nan_order x y h]; rfl
theorem gt_nan : fGt x y = false := by unfold fGt; rw [nan_order x y h]; rfl
theorem eq_nan : fEq x y = false := by unfold fEq; rw [nan_order x y h]; rfl
theorem ne_nan : fNe x y = true := by unfold fNe; rw [nan_order x y h]; rfl
theorem le_nan : fLe x y = false := by unfold fLe; rw [nan_order x y h]; rfl
theorem ge_nan : fGe x y = false := by unfold fGe; rw [nan_order x y h]; rfl
end
theorem ne_self (x : Nat) : fNe x x = decide (inf < rung x) := by
  by_cases h : inf < rung x
  · rw [ne_nan x x (Or.inl h), decide_eq_true h]
  · rw [ne_eq (by omega) (by omega), decide_eq_false h]; simp
theorem eq_self (x : Nat) : fEq x x = decide (rung x ≤ inf) := by
  by_cases h : inf < rung x
  · rw [eq_nan x x (Or.inl h), decide_eq_false (by omega)]
  · rw [eq_eq (by omega) (by omega), decide_eq_true (by omega : rung x ≤ inf)]; simp

/-! ### bits -/
theorem wrap_u64 (n : Int) (h0 : 0 ≤ n) (h1 : n < 18446744073709551616) : IntKind.u64.wrap n = n := by
  have : IntKind.u64.wrap n = n % 18446744073709551616 := by simp [IntKind.wrap, IntKind.bits, IntKind.signed]
  rw [this]; omega
theorem toNat_ofInt (a : Nat) (ha : a < 18446744073709551616) : (BitVec.ofInt 64 (a : Int)).toNat = a := by
  rw [BitVec.ofInt_natCast, BitVec.toNat_ofNat]; exact Nat.mod_eq_of_lt ha
theorem bits_abs (x : Nat) (hx : x < 18446744073709551616) : Go.bits .andNot .u64 (x : Int) 9223372036854775808 = ((rung x : Nat) : Int) := by
  have e : (BitVec.ofInt 64 (x : Int) &&& ~~~ BitVec.ofInt 64 ((9223372036854775808 : Nat) : Int)).toNat = rung x := by
    rw [BitVec.toNat_and, BitVec.toNat_not, toNat_ofInt x hx, toNat_ofInt _ (by decide)]
    exact Nat.and_two_pow_sub_one_eq_mod x 63
  show IntKind.u64.wrap (((BitVec.ofInt 64 (x : Int) &&& ~~~ BitVec.ofInt 64 ((9223372036854775808 : Nat) : Int)).toNat : Nat) : Int) = _
  rw [e]
  have := rung_lt x
  exact wrap_u64 _ (by omega) (by omega)
theorem sgn_ge (x : Nat) (hx : x < 18446744073709551616) : sgn x = decide (9223372036854775808 ≤ x) := by
  unfold sgn
  by_cases h : 9223372036854775808 ≤ x
  · have : x / 9223372036854775808 = 1 := by omega
    rw [this, decide_eq_true h]; rfl
  · have : x / 9223372036854775808 = 0 := by omega
    rw [this, decide_eq_false h]; rfl
theorem and_sign (x : Nat) : x &&& 9223372036854775808 = (x.testBit 63).toNat * 2 ^ 63 := by
  show x &&& 2 ^ 63 = _
  apply Nat.eq_of_testBit_eq
  intro i
  rw [Nat.testBit_and, Nat.testBit_two_pow]
  by_cases h : 63 = i
  · subst h
    cases x.testBit 63
    · simp
    · decide
  · rw [decide_eq_false h, Bool.and_false]
    cases x.testBit 63
    · simp
    · show false = (1 * 2 ^ 63).testBit i
      rw [Nat.one_mul, Nat.testBit_two_pow, decide_eq_false h]
theorem bits_sign (x : Nat) (hx : x < 18446744073709551616) : Go.bits .and .u64 (x : Int) 9223372036854775808 = ((word (sgn x) 0 : Nat) : Int) := by
  have e : (BitVec.ofInt 64 (x : Int) &&& BitVec.ofInt 64 ((9223372036854775808 : Nat) : Int)).toNat = word (sgn x) 0 := by
    rw [BitVec.toNat_and, toNat_ofInt x hx, toNat_ofInt _ (by decide)]
    have h1 := and_sign x
    have h2 : x.testBit 63 = decide (x / 2 ^ 63 % 2 = 1) := Nat.testBit_eq_decide_div_mod_eq
    rw [h1, h2]
    unfold word sgn
    by_cases h : x / 9223372036854775808 % 2 = 1
    · have h' : x / 2 ^ 63 % 2 = 1 := h
      rw [decide_eq_true h', h]; rfl
    · have h' : ¬ x / 2 ^ 63 % 2 = 1 := h
      have h3 : x / 9223372036854775808 % 2 = 0 := by omega
      rw [decide_eq_false h', h3]; rfl
  show IntKind.u64.wrap (((BitVec.ofInt 64 (x : Int) &&& BitVec.ofInt 64 ((9223372036854775808 : Nat) : Int)).toNat : Nat) : Int) = _
  rw [e]
  refine wrap_u64 _ (by omega) ?_
  have := word_lt (sgn x) 0 (by decide)
  omega
theorem bits_join' (r : Nat) (s : Bool) (hr : r < 9223372036854775808) : Go.bits .or .u64 (r : Int) ((word s 0 : Nat) : Int) = ((word s r : Nat) : Int) := by
  have hw := word_lt s 0 (by decide)
  have hw2 := word_lt s r hr
  have e : (BitVec.ofInt 64 (r : Int) ||| BitVec.ofInt 64 ((word s 0 : Nat) : Int)).toNat = word s r := by
    rw [BitVec.toNat_or, toNat_ofInt r (by omega), toNat_ofInt _ hw]
    cases s with
    | true =>
      show r ||| 9223372036854775808 = 9223372036854775808 + r
      rw [Nat.or_comm]
      exact (Nat.two_pow_add_eq_or_of_lt (i := 63) hr 1).symm
    | false => show r ||| 0 = r; simp
  show IntKind.u64.wrap (((BitVec.ofInt 64 (r : Int) ||| BitVec.ofInt 64 ((word s 0 : Nat) : Int)).toNat : Nat) : Int) = _
  rw [e]
  exact wrap_u64 _ (by omega) (by omega)
theorem neg_word (s : Bool) (r : Nat) (hr : r < 9223372036854775808) : fNeg (word s r) = word (!s) r := by
  have lo : ∀ r, r < 2 ^ 63 → r ^^^ 2 ^ 63 = 2 ^ 63 + r := by
    intro r hr
    apply Nat.eq_of_testBit_eq
    intro i
    rw [Nat.testBit_xor, Nat.testBit_two_pow]
    by_cases h : 63 = i
    · subst h
      rw [Nat.testBit_two_pow_add_eq, Nat.testBit_lt_two_pow hr]; rfl
    · rw [decide_eq_false h, Bool.xor_false]
      by_cases g : i < 63
      · rw [Nat.testBit_two_pow_add_gt g]
      · have h1 : r < 2 ^ i := Nat.lt_of_lt_of_le hr (Nat.pow_le_pow_right (by decide) (by omega))
        have h2 : 2 ^ 64 ≤ 2 ^ i := Nat.pow_le_pow_right (by decide) (by omega)
        rw [Nat.testBit_lt_two_pow h1, Nat.testBit_lt_two_pow (by omega)]
  show word s r ^^^ 2 ^ 63 = word (!s) r
  cases s with
  | false => show r ^^^ 2 ^ 63 = 9223372036854775808 + r; exact lo r hr
  | true =>
    show (2 ^ 63 + r) ^^^ 2 ^ 63 = r
    rw [← lo r hr, Nat.xor_assoc, Nat.xor_self, Nat.xor_zero]
theorem sv_neg (s : Bool) (r : Nat) (hr : r < 9223372036854775808) : sv (word (!s) r) = - sv (word s r) := by
  rw [sv_word _ _ hr, sv_word _ _ hr]
  cases s <;> simp
theorem rung_neg (x : Nat) (hx : x < 18446744073709551616) : rung (fNeg x) = rung x ∧ sgn (fNeg x) = !sgn x ∧ sv (fNeg x) = - sv x ∧ fNeg x < 18446744073709551616 := by
  have h := rung_lt x
  have e : fNeg x = word (!sgn x) (rung x) := by rw [← neg_word _ _ h, word_self x hx]
  rw [e]
  refine ⟨rung_word _ _ h, sgn_word _ _ h, ?_, word_lt _ _ h⟩
  rw [sv_neg _ _ h, word_self x hx]
end Go.Proofs.Ytglpafflpcgnpaa.Fl
