/- Binary floats of 64 bits, told in whole numbers: every finite float is a whole number of units (2^-1074), and rounding is a monotone function. -/
import Ieee.Arith
namespace Go.Proofs.Ytglpafflpcgnpaa.Fl
open Ieee

def sgn (x : Nat) : Bool := x / 9223372036854775808 % 2 == 1
def rung (x : Nat) : Nat := x % 9223372036854775808
def inf : Nat := 9218868437227405312
/-- The units of a rung. -/
def V (k : Nat) : Nat := if k < 2 ^ 52 then k else (2 ^ 52 + k % 2 ^ 52) * 2 ^ (k / 2 ^ 52 - 1)
def sv (x : Nat) : Int := if sgn x then -(V (rung x) : Int) else (V (rung x) : Int)
def word (s : Bool) (r : Nat) : Nat := if s then 9223372036854775808 + r else r

theorem sgn_word (s : Bool) (r : Nat) (h : r < 9223372036854775808) : sgn (word s r) = s := by
  unfold sgn word
  cases s with
  | true => simp only [if_true]; have : (9223372036854775808 + r) / 9223372036854775808 = 1 := by omega
            rw [this]; rfl
  | false => simp only [Bool.false_eq_true, if_false]; have : r / 9223372036854775808 = 0 := by omega
             rw [this]; rfl
theorem rung_word (s : Bool) (r : Nat) (h : r < 9223372036854775808) : rung (word s r) = r := by
  unfold rung word
  cases s with
  | true => simp only [if_true]; omega
  | false => simp only [Bool.false_eq_true, if_false]; omega
theorem word_lt (s : Bool) (r : Nat) (h : r < 9223372036854775808) : word s r < 18446744073709551616 := by
  unfold word; split <;> omega
theorem word_self (x : Nat) (h : x < 18446744073709551616) : word (sgn x) (rung x) = x := by
  unfold word sgn rung
  by_cases g : x < 9223372036854775808
  · have : x / 9223372036854775808 = 0 := by omega
    rw [this]; simp; omega
  · have : x / 9223372036854775808 = 1 := by omega
    rw [this]; simp; omega
theorem rung_lt (x : Nat) : rung x < 9223372036854775808 := Nat.mod_lt _ (by decide)

theorem dSign : double.signWeight = 9223372036854775808 := by decide
theorem dInf : double.infRung = inf := by decide
theorem dBin : double.binade = 2 ^ 52 := by decide
theorem dLeast : double.leastPlace = -1074 := by decide
theorem dWord (s : Bool) (r : Nat) : double.word s r = word s r := by unfold Format.word word; rw [dSign]

/-! ### to the nearest, and the even one between two -/
def rne (n g : Nat) : Nat := n / g + (if g < 2 * (n % g) ∨ (g = 2 * (n % g) ∧ n / g % 2 = 1) then 1 else 0)

theorem rne_scale (n g c : Nat) (hc : 0 < c) : rne (n * c) (g * c) = rne n g := by
  unfold rne
  rw [Nat.mul_div_mul_right _ _ hc, Nat.mul_mod_mul_right]
  have e1 : (g * c < 2 * (n % g * c)) ↔ (g < 2 * (n % g)) := by rw [← Nat.mul_assoc]; exact Nat.mul_lt_mul_right hc
  have e2 : (g * c = 2 * (n % g * c)) ↔ (g = 2 * (n % g)) := by rw [← Nat.mul_assoc]; exact Nat.mul_right_cancel_iff hc
  simp only [e1, e2]

theorem rne_mono {n m : Nat} (g : Nat) (_ : 0 < g) (h : n ≤ m) : rne n g ≤ rne m g := by
  have hq : n / g ≤ m / g := Nat.div_le_div_right h
  by_cases e : n / g = m / g
  · have a := Nat.div_add_mod n g
    have b := Nat.div_add_mod m g
    have hr : n % g ≤ m % g := by rw [e] at a; omega
    unfold rne
    rw [e]
    by_cases c : g < 2 * (n % g) ∨ (g = 2 * (n % g) ∧ m / g % 2 = 1)
    · rw [if_pos c, if_pos (by omega)]; exact Nat.le_refl _
    · rw [if_neg c]; split <;> omega
  · have h1 : rne n g ≤ n / g + 1 := by unfold rne; split <;> omega
    have h2 : m / g ≤ rne m g := by unfold rne; split <;> omega
    omega

theorem rne_mul (k g : Nat) (hg : 0 < g) : rne (k * g) g = k := by
  unfold rne
  rw [Nat.mul_div_cancel _ hg, Nat.mul_mod_left]
  rw [if_neg (by omega)]; rfl

theorem cut_eq (neg : Bool) (n d : Nat) : Toward.even.cut neg n d = rne n (2 ^ d) := by
  have key : ∀ gap : Nat, n / gap + ((decide (gap < 2 * (n % gap)) || (gap == 2 * (n % gap) && n / gap % 2 == 1)) : Bool).toNat = rne n gap := by
    intro gap
    unfold rne
    by_cases c : gap < 2 * (n % gap) ∨ (gap = 2 * (n % gap) ∧ n / gap % 2 = 1)
    · rw [if_pos c]
      have : (decide (gap < 2 * (n % gap)) || (gap == 2 * (n % gap) && n / gap % 2 == 1)) = true := by simpa using c
      rw [this]; rfl
    · rw [if_neg c]
      have : (decide (gap < 2 * (n % gap)) || (gap == 2 * (n % gap) && n / gap % 2 == 1)) = false := by simpa using c
      rw [this]; rfl
  have hcut : Toward.even.cut neg n d = rne n (1 <<< min d (n.log2 + 2)) := (key (1 <<< min d (n.log2 + 2)))
  rw [hcut, Nat.one_shiftLeft]
  by_cases h : d ≤ n.log2 + 2
  · rw [Nat.min_eq_left h]
  · have h' : n.log2 + 2 ≤ d := by omega
    rw [Nat.min_eq_right h']
    have small : ∀ e, n.log2 + 2 ≤ e → rne n (2 ^ e) = 0 := by
      intro e he
      have h1 : 2 ^ (n.log2 + 2) ≤ 2 ^ e := Nat.pow_le_pow_right (by decide) he
      have h2 : n < 2 ^ (n.log2 + 1) := Nat.lt_log2_self
      have h3 : 2 ^ (n.log2 + 2) = 2 * 2 ^ (n.log2 + 1) := by rw [Nat.pow_succ, Nat.mul_comm]
      have h4 : n < 2 ^ e := by omega
      unfold rne
      rw [Nat.div_eq_of_lt h4, Nat.mod_eq_of_lt h4, if_neg (by omega)]
    rw [small _ (Nat.le_refl _), small _ h']

/-! ### the rung of a number of units: 'M' counts units of '2 ^ (-1074 - t)' -/
def F (t M : Nat) : Nat := (max (M.log2 - 52) t - t) * 2 ^ 52 + rne M (2 ^ max (M.log2 - 52) t)

theorem F_zero (t : Nat) : F t 0 = 0 := by
  unfold F
  have : max (Nat.log2 0 - 52) t = t := by rw [Nat.log2_zero]; omega
  rw [this]
  unfold rne
  simp

theorem pow_pos' (k : Nat) : 0 < 2 ^ k := Nat.two_pow_pos k
theorem log2_mono {a b : Nat} (ha : a ≠ 0) (h : a ≤ b) : a.log2 ≤ b.log2 := (Nat.le_log2 (by omega)).2 (Nat.le_trans (Nat.log2_self_le ha) h)
theorem log2_mul_pow (m u : Nat) (hm : m ≠ 0) : (m * 2 ^ u).log2 = m.log2 + u := by
  have hp := pow_pos' u
  have h0 : m * 2 ^ u ≠ 0 := by intro e; rcases Nat.mul_eq_zero.1 e with e | e <;> omega
  rw [Nat.log2_eq_iff h0]
  refine ⟨?_, ?_⟩
  · rw [Nat.pow_add]; exact Nat.mul_le_mul_right _ (Nat.log2_self_le hm)
  · have : m.log2 + u + 1 = (m.log2 + 1) + u := by omega
    rw [this, Nat.pow_add]; exact Nat.mul_lt_mul_of_pos_right Nat.lt_log2_self hp

theorem F_mono (t : Nat) {a b : Nat} (h : a ≤ b) : F t a ≤ F t b := by
  by_cases ha : a = 0
  · subst ha; rw [F_zero]; exact Nat.zero_le _
  have hb : b ≠ 0 := by omega
  have hl := log2_mono ha h
  by_cases e : max (a.log2 - 52) t = max (b.log2 - 52) t
  · unfold F; rw [e]; exact Nat.add_le_add_left (rne_mono _ (pow_pos' _) h) _
  · have hlt : max (a.log2 - 52) t < max (b.log2 - 52) t := by omega
    generalize hL : max (a.log2 - 52) t = L at *
    generalize hM : max (b.log2 - 52) t = M at *
    have hMt : t < M := by omega
    have hM2 : M + 52 = b.log2 := by omega
    have h1 : a ≤ 2 ^ 53 * 2 ^ L := by
      have : a < 2 ^ (a.log2 + 1) := Nat.lt_log2_self
      have h2 : 2 ^ (a.log2 + 1) ≤ 2 ^ (53 + L) := Nat.pow_le_pow_right (by decide) (by omega)
      rw [Nat.pow_add 2 53 L] at h2; omega
    have h2 : 2 ^ 52 * 2 ^ M ≤ b := by
      have := Nat.log2_self_le hb
      rw [← hM2, Nat.add_comm, Nat.pow_add] at this; exact this
    have g1 : rne a (2 ^ L) ≤ 2 ^ 53 := by
      have := rne_mono (2 ^ L) (pow_pos' _) h1; rwa [rne_mul _ _ (pow_pos' _)] at this
    have g2 : 2 ^ 52 ≤ rne b (2 ^ M) := by
      have := rne_mono (2 ^ M) (pow_pos' _) h2; rwa [rne_mul _ _ (pow_pos' _)] at this
    have hF1 : F t a = (L - t) * 2 ^ 52 + rne a (2 ^ L) := by unfold F; rw [hL]
    have hF2 : F t b = (M - t) * 2 ^ 52 + rne b (2 ^ M) := by unfold F; rw [hM]
    rw [hF1, hF2]
    have h3 : (L - t) + 1 ≤ M - t := by have : t ≤ L := by omega
                                        omega
    have h4 : ((L - t) + 1) * 2 ^ 52 ≤ (M - t) * 2 ^ 52 := Nat.mul_le_mul_right _ h3
    omega

theorem V_ne (k : Nat) (h : k ≠ 0) : V k ≠ 0 := by
  unfold V
  split
  · exact h
  · intro e
    rcases Nat.mul_eq_zero.1 e with e | e
    · omega
    · have := pow_pos' (k / 2 ^ 52 - 1); omega
theorem V_zero : V 0 = 0 := rfl

theorem F_exact (t k : Nat) : F t (V k * 2 ^ t) = k := by
  by_cases h0 : k = 0
  · subst h0; rw [V_zero, Nat.zero_mul, F_zero]
  have hv := V_ne k h0
  have hlog := log2_mul_pow (V k) t hv
  unfold F
  rw [hlog]
  by_cases h : k < 2 ^ 52
  · have hV : V k = k := by unfold V; rw [if_pos h]
    rw [hV]
    have : k.log2 < 52 := (Nat.log2_lt h0).2 h
    have e : max (k.log2 + t - 52) t = t := by omega
    rw [e, rne_mul _ _ (pow_pos' _)]; simp
  · have hV : V k = (2 ^ 52 + k % 2 ^ 52) * 2 ^ (k / 2 ^ 52 - 1) := by unfold V; rw [if_neg h]
    have hm : k % 2 ^ 52 < 2 ^ 52 := Nat.mod_lt _ (pow_pos' _)
    have hq : 1 ≤ k / 2 ^ 52 := (Nat.le_div_iff_mul_le (pow_pos' _)).2 (by omega)
    have hl : (2 ^ 52 + k % 2 ^ 52).log2 = 52 := by
      rw [Nat.log2_eq_iff (by omega)]; omega
    have hlog2 : (V k).log2 = 52 + (k / 2 ^ 52 - 1) := by rw [hV, log2_mul_pow _ _ (by omega), hl]
    rw [hlog2]
    have e : max (52 + (k / 2 ^ 52 - 1) + t - 52) t = (k / 2 ^ 52 - 1) + t := by omega
    rw [e, hV, Nat.mul_assoc, ← Nat.pow_add, rne_mul _ _ (pow_pos' _)]
    have e2 : k / 2 ^ 52 - 1 + t - t = k / 2 ^ 52 - 1 := by omega
    rw [e2]
    have := Nat.div_add_mod k (2 ^ 52)
    have h5 : (k / 2 ^ 52 - 1) * 2 ^ 52 + 2 ^ 52 = 2 ^ 52 * (k / 2 ^ 52) := by
      rw [Nat.mul_comm (2 ^ 52)]
      have : k / 2 ^ 52 = (k / 2 ^ 52 - 1) + 1 := by omega
      conv => rhs; rw [this]
      rw [Nat.add_mul, Nat.one_mul]
    omega

theorem V_lt {a b : Nat} (h : a < b) : V a < V b := by
  by_cases g : V a < V b
  · exact g
  · have := F_mono 0 (show V b ≤ V a by omega)
    have ea := F_exact 0 a
    have eb := F_exact 0 b
    rw [Nat.pow_zero, Nat.mul_one] at ea eb
    omega
theorem V_le {a b : Nat} (h : a ≤ b) : V a ≤ V b := by
  rcases Nat.lt_or_eq_of_le h with h | h
  · exact Nat.le_of_lt (V_lt h)
  · rw [h]; exact Nat.le_refl _
theorem V_lt_iff (a b : Nat) : V a < V b ↔ a < b := by
  refine ⟨fun h => ?_, V_lt⟩
  by_cases g : a < b
  · exact g
  · have := V_le (show b ≤ a by omega); omega
theorem F_ge (t k M : Nat) (h : V k * 2 ^ t ≤ M) : k ≤ F t M := by have := F_mono t h; rwa [F_exact] at this
theorem F_le (t k M : Nat) (h : M ≤ V k * 2 ^ t) : F t M ≤ k := by have := F_mono t h; rwa [F_exact] at this

theorem nearest_eq (neg : Bool) (mag t u : Nat) (place : Int) (hp : place = (u : Int) - t - 1074) : double.nearest neg mag place = word neg (min (F t (mag * 2 ^ u)) inf) := by
  unfold Format.nearest
  by_cases hm : mag = 0
  · subst hm
    rw [if_pos rfl, dWord, Nat.zero_mul, F_zero]; rfl
  · rw [if_neg hm]
    have hlog := log2_mul_pow mag u hm
    show double.word neg (min ((max (place + (mag.log2 : Int) - ((52 : Nat) : Int)) double.leastPlace - double.leastPlace).toNat * double.binade + Toward.even.cut neg (mag <<< (place - max (place + (mag.log2 : Int) - ((52 : Nat) : Int)) double.leastPlace).toNat) (max (place + (mag.log2 : Int) - ((52 : Nat) : Int)) double.leastPlace - place).toNat) double.infRung) = _
    rw [dLeast, dWord, dBin, dInf]
    unfold F
    rw [hlog]
    generalize hl : max (mag.log2 + u - 52) t = l
    have e0 : max (place + (mag.log2 : Int) - ((52 : Nat) : Int)) (-1074) = (l : Int) - t - 1074 := by omega
    rw [e0]
    have e1 : ((l : Int) - t - 1074 - -1074).toNat = l - t := by omega
    have e2 : (place - ((l : Int) - t - 1074)).toNat = u - l := by omega
    have e3 : ((l : Int) - t - 1074 - place).toNat = l - u := by omega
    rw [e1, e2, e3, cut_eq, Nat.shiftLeft_eq]
    have e4 : rne (mag * 2 ^ (u - l)) (2 ^ (l - u)) = rne (mag * 2 ^ u) (2 ^ l) := by
      by_cases h : l ≤ u
      · have a1 : l - u = 0 := by omega
        have a2 : mag * 2 ^ u = mag * 2 ^ (u - l) * 2 ^ l := by rw [Nat.mul_assoc, ← Nat.pow_add]; congr 2; omega
        rw [a1, a2, rne_mul _ _ (pow_pos' _)]
        have := rne_mul (mag * 2 ^ (u - l)) 1 (by decide)
        rwa [Nat.mul_one] at this
      · have a1 : u - l = 0 := by omega
        have a2 : 2 ^ l = 2 ^ (l - u) * 2 ^ u := by rw [← Nat.pow_add]; congr 1; omega
        rw [a1, Nat.pow_zero, Nat.mul_one, a2, rne_scale _ _ _ (pow_pos' _)]
    rw [e4]

/-! ### what a word stands for -/
theorem read_fin (x : Nat) (h : rung x < inf) : ∃ m p : Nat, double.read x = .number (sgn x) m ((p : Int) - 1074) ∧ m * 2 ^ p = V (rung x) ∧ m < 2 ^ 53 := by
  unfold Format.read
  simp only [dSign, dBin, dInf, dLeast]
  by_cases hb : rung x < 2 ^ 52
  · refine ⟨rung x, 0, ?_, ?_, by omega⟩
    · rw [if_pos (show x % 9223372036854775808 < 2 ^ 52 from hb)]; rfl
    · unfold V; rw [if_pos hb]; simp
  · refine ⟨2 ^ 52 + rung x % 2 ^ 52, rung x / 2 ^ 52 - 1, ?_, ?_, by omega⟩
    · rw [if_neg (show ¬ x % 9223372036854775808 < 2 ^ 52 from hb), if_pos (show x % 9223372036854775808 < inf from h)]
      show Datum.number (sgn x) (2 ^ 52 + rung x % 2 ^ 52) (-1074 + ((rung x / 2 ^ 52 - 1 : Nat) : Int)) = _
      have : (-1074 + ((rung x / 2 ^ 52 - 1 : Nat) : Int)) = ((rung x / 2 ^ 52 - 1 : Nat) : Int) - 1074 := by omega
      rw [this]
    · unfold V; rw [if_neg hb]
theorem read_inf (x : Nat) (h : rung x = inf) : double.read x = .infinity (sgn x) := by
  have hb : ¬ inf < 2 ^ 52 := by decide
  unfold Format.read
  simp only [dSign, dBin, dInf]
  rw [if_neg (by show ¬ rung x < 2 ^ 52; rw [h]; exact hb), if_neg (by show ¬ rung x < inf; omega), if_pos (show x % 9223372036854775808 = inf from h)]; rfl
theorem read_nan (x : Nat) (h : inf < rung x) : ∃ f, double.read x = .nan (sgn x) f := by
  have hb : ¬ inf < 2 ^ 52 := by decide
  unfold Format.read
  simp only [dSign, dBin, dInf]
  refine ⟨rung x - inf, ?_⟩
  rw [if_neg (by show ¬ rung x < 2 ^ 52; omega), if_neg (by show ¬ rung x < inf; omega), if_neg (by show ¬ rung x = inf; omega)]; rfl

theorem signed_eq (s : Bool) (m k : Nat) : signed s m k = if s then -((m * 2 ^ k : Nat) : Int) else ((m * 2 ^ k : Nat) : Int) := by
  unfold signed; rw [Nat.shiftLeft_eq]
theorem signed_sv (x m p b : Nat) (hb : b ≤ p) (hm : m * 2 ^ p = V (rung x)) : signed (sgn x) m (p - b) * ((2 ^ b : Nat) : Int) = sv x := by
  have e : m * 2 ^ (p - b) * 2 ^ b = V (rung x) := by rw [← hm, Nat.mul_assoc, ← Nat.pow_add]; congr 2; omega
  rw [signed_eq]
  unfold sv
  rw [← e]
  split
  · rw [Int.neg_mul]; simp
  · simp

theorem pow_posI (b : Nat) : (0 : Int) < ((2 ^ b : Nat) : Int) := by have := pow_pos' b; omega

theorem cmp_lt {a b : Int} (h : a < b) : compare a b = .lt := by show compareOfLessAndEq a b = _; unfold compareOfLessAndEq; rw [if_pos h]
theorem cmp_eq {a b : Int} (h : a = b) : compare a b = .eq := by show compareOfLessAndEq a b = _; unfold compareOfLessAndEq; rw [if_neg (by omega), if_pos h]
theorem cmp_gt {a b : Int} (h : b < a) : compare a b = .gt := by show compareOfLessAndEq a b = _; unfold compareOfLessAndEq; rw [if_neg (by omega), if_neg (by omega)]
theorem cmp_scale (a b c : Int) (hc : 0 < c) : compare a b = compare (a * c) (b * c) := by
  rcases Int.lt_trichotomy a b with h | h | h
  · rw [cmp_lt h, cmp_lt (Int.mul_lt_mul_of_pos_right h hc)]
  · subst h; rw [cmp_eq rfl, cmp_eq rfl]
  · rw [cmp_gt h, cmp_gt (Int.mul_lt_mul_of_pos_right h hc)]

theorem sv_word (s : Bool) (r : Nat) (h : r < 9223372036854775808) : sv (word s r) = if s then -(V r : Int) else (V r : Int) := by
  unfold sv; rw [sgn_word s r h, rung_word s r h]
theorem sv_abs (x : Nat) : (sv x).natAbs = V (rung x) := by unfold sv; split <;> omega
theorem V_inf_pos : 0 < V inf := by have := V_ne inf (by decide); omega

theorem order_eq (x y : Nat) (hx : rung x ≤ inf) (hy : rung y ≤ inf) : double.order x y = some (compare (sv x) (sv y)) := by
  unfold Format.order
  rcases Nat.lt_or_eq_of_le hx with h1 | h1 <;> rcases Nat.lt_or_eq_of_le hy with h2 | h2
  · obtain ⟨m, p, e1, v1, _⟩ := read_fin x h1
    obtain ⟨n, q, e2, v2, _⟩ := read_fin y h2
    rw [e1, e2]
    show some (compare (signed (sgn x) m ((p : Int) - 1074 - min ((p : Int) - 1074) ((q : Int) - 1074)).toNat) (signed (sgn y) n ((q : Int) - 1074 - min ((p : Int) - 1074) ((q : Int) - 1074)).toNat)) = _
    have a1 : ((p : Int) - 1074 - min ((p : Int) - 1074) ((q : Int) - 1074)).toNat = p - min p q := by omega
    have a2 : ((q : Int) - 1074 - min ((p : Int) - 1074) ((q : Int) - 1074)).toNat = q - min p q := by omega
    rw [a1, a2, cmp_scale _ _ _ (pow_posI (min p q)), signed_sv x m p (min p q) (by omega) v1, signed_sv y n q (min p q) (by omega) v2]
  · obtain ⟨m, p, e1, v1, _⟩ := read_fin x h1
    rw [e1, read_inf y h2]
    show some (if sgn y = true then Ordering.gt else Ordering.lt) = _
    have a := V_lt h1
    have b : sv x = (V (rung x) : Int) ∨ sv x = -(V (rung x) : Int) := by unfold sv; split <;> simp
    cases hs : sgn y with
    | true => have c : sv y = -(V inf : Int) := by unfold sv; rw [hs, h2]; rfl
              rw [cmp_gt (by omega)]; rfl
    | false => have c : sv y = (V inf : Int) := by unfold sv; rw [hs, h2]; rfl
               rw [cmp_lt (by omega)]; rfl
  · obtain ⟨m, p, e1, v1, _⟩ := read_fin y h2
    rw [e1, read_inf x h1]
    show some (if sgn x = true then Ordering.lt else Ordering.gt) = _
    have a := V_lt h2
    have b : sv y = (V (rung y) : Int) ∨ sv y = -(V (rung y) : Int) := by unfold sv; split <;> simp
    cases hs : sgn x with
    | true => have c : sv x = -(V inf : Int) := by unfold sv; rw [hs, h1]; rfl
              rw [cmp_lt (by omega)]; rfl
    | false => have c : sv x = (V inf : Int) := by unfold sv; rw [hs, h1]; rfl
               rw [cmp_gt (by omega)]; rfl
  · rw [read_inf x h1, read_inf y h2]
    show some (compare (sgn y).toNat (sgn x).toNat) = _
    have p := V_inf_pos
    have c1 : sv x = if sgn x then -(V inf : Int) else (V inf : Int) := by unfold sv; rw [h1]
    have c2 : sv y = if sgn y then -(V inf : Int) else (V inf : Int) := by unfold sv; rw [h2]
    rw [c1, c2]
    cases sgn x <;> cases sgn y
    · simp only [Bool.false_eq_true, if_false]; rw [cmp_eq rfl]; rfl
    · simp only [Bool.false_eq_true, if_false, if_true]; rw [cmp_gt (by omega)]; rfl
    · simp only [Bool.false_eq_true, if_false, if_true]; rw [cmp_lt (by omega)]; rfl
    · simp only [if_true]; rw [cmp_eq rfl]; rfl
theorem order_nan1 (x y : Nat) (h : inf < rung x) : double.order x y = none := by
  obtain ⟨f, e⟩ := read_nan x h
  unfold Format.order
  rw [e]
  cases double.read y <;> rfl
theorem order_nan2 (x y : Nat) (h : inf < rung y) : double.order x y = none := by
  obtain ⟨f, e⟩ := read_nan y h
  unfold Format.order
  rw [e]
  cases double.read x <;> rfl

/-! ### sums, products, quotients -/
def addW (x y : Nat) : Nat := word (if sv x + sv y = 0 then sgn x && sgn y else decide (sv x + sv y < 0)) (min (F 0 (sv x + sv y).natAbs) inf)
theorem add_fin (x y : Nat) (hx : rung x < inf) (hy : rung y < inf) : double.add x y = some (addW x y) := by
  obtain ⟨m, p, e1, v1, _⟩ := read_fin x hx
  obtain ⟨n, q, e2, v2, _⟩ := read_fin y hy
  unfold Format.add
  rw [e1, e2]
  show some (double.write (.number _ _ _)) = _
  have a1 : ((p : Int) - 1074 - min ((p : Int) - 1074) ((q : Int) - 1074)).toNat = p - min p q := by omega
  have a2 : ((q : Int) - 1074 - min ((p : Int) - 1074) ((q : Int) - 1074)).toNat = q - min p q := by omega
  show some (double.nearest _ _ _) = _
  rw [a1, a2]
  generalize hT : signed (sgn x) m (p - min p q) + signed (sgn y) n (q - min p q) = T
  have hT2 : T * ((2 ^ min p q : Nat) : Int) = sv x + sv y := by
    rw [← hT, Int.add_mul, signed_sv x m p (min p q) (by omega) v1, signed_sv y n q (min p q) (by omega) v2]
  rw [nearest_eq _ _ 0 (min p q) _ (by omega)]
  unfold addW
  have hc := pow_posI (min p q)
  have hz : (T = 0) ↔ (sv x + sv y = 0) := by
    rw [← hT2]
    constructor
    · intro e; rw [e, Int.zero_mul]
    · intro e; rcases Int.mul_eq_zero.1 e with e | e
      · exact e
      · omega
  have hn : (T < 0) ↔ (sv x + sv y < 0) := by
    rw [← hT2]
    constructor
    · intro e; exact Int.mul_neg_of_neg_of_pos e hc
    · intro e
      by_cases g : T < 0
      · exact g
      · have := Int.mul_nonneg (show 0 ≤ T by omega) (Int.le_of_lt hc); omega
  have ha : T.natAbs * 2 ^ min p q = (sv x + sv y).natAbs := by rw [← hT2, Int.natAbs_mul]; rfl
  rw [ha]
  simp only [hz, hn]

def mulW (x y : Nat) : Nat := word (sgn x ^^ sgn y) (min (F 1074 (V (rung x) * V (rung y))) inf)
theorem mul_fin (x y : Nat) (hx : rung x < inf) (hy : rung y < inf) : double.mul x y = some (mulW x y) := by
  obtain ⟨m, p, e1, v1, _⟩ := read_fin x hx
  obtain ⟨n, q, e2, v2, _⟩ := read_fin y hy
  unfold Format.mul
  rw [e1, e2]
  show some (double.nearest (sgn x ^^ sgn y) (m * n) ((p : Int) - 1074 + ((q : Int) - 1074))) = _
  rw [nearest_eq _ _ 1074 (p + q) _ (by omega)]
  unfold mulW
  have : m * n * 2 ^ (p + q) = V (rung x) * V (rung y) := by rw [← v1, ← v2, Nat.pow_add]; ac_rfl
  rw [this]

/-- 0.95 -/
def c95 : Nat := 4606732058837280358
theorem read_c95 : double.read c95 = .number false 8556839292003942 (-53) := by decide +kernel
theorem div_c95 (x : Nat) (hx : rung x < inf) : ∃ t M, double.div x c95 = some (word (sgn x) (min (F t M) inf)) ∧ V (rung x) * 2 ^ t ≤ M := by
  obtain ⟨m, p, e1, v1, hm53⟩ := read_fin x hx
  unfold Format.div
  rw [e1, read_c95]
  have hq : Datum.quotient (double.fractionBits + 2) (.number (sgn x) m ((p : Int) - 1074)) (.number false 8556839292003942 (-53)) = some (.number (sgn x ^^ false) (2 * (m <<< (54 + Nat.log2 8556839292003942 - m.log2) / 8556839292003942) + (m <<< (54 + Nat.log2 8556839292003942 - m.log2) % 8556839292003942 != 0).toNat) ((p : Int) - 1074 - (-53) - ((54 + Nat.log2 8556839292003942 - m.log2 : Nat) : Int) - 1)) := rfl
  rw [hq]
  have hl : Nat.log2 8556839292003942 = 52 := by decide +kernel
  rw [hl]
  generalize hmo : 54 + 52 - m.log2 = more
  refine ⟨more, (2 * (m <<< more / 8556839292003942) + (m <<< more % 8556839292003942 != 0).toNat) * 2 ^ (p + 52), ?_, ?_⟩
  · show some (double.nearest _ _ _) = _
    rw [nearest_eq _ _ more (p + 52) _ (by omega), Bool.xor_false]
  · rw [← v1]
    have e0 : m * 2 ^ p * 2 ^ more = m <<< more * 2 ^ p := by rw [Nat.shiftLeft_eq]; ac_rfl
    rw [e0, Nat.pow_add, Nat.mul_comm (2 ^ p), ← Nat.mul_assoc]
    refine Nat.mul_le_mul_right _ ?_
    by_cases h0 : m = 0
    · subst h0; rw [Nat.zero_shiftLeft]; exact Nat.zero_le _
    · have hml : m.log2 < 53 := (Nat.log2_lt h0).2 hm53
      have hd : 2 ^ 106 ≤ m <<< more := by
        rw [Nat.shiftLeft_eq]
        have a := Nat.log2_self_le h0
        have b : 2 ^ 106 = 2 ^ m.log2 * 2 ^ more := by rw [← Nat.pow_add]; congr 1; omega
        rw [b]; exact Nat.mul_le_mul_right _ a
      generalize m <<< more = D at *
      have h1 := Nat.div_add_mod D 8556839292003942
      have h2 : D % 8556839292003942 < 8556839292003942 := Nat.mod_lt _ (by decide)
      generalize (D % 8556839292003942 != 0).toNat = st
      omega

end Go.Proofs.Ytglpafflpcgnpaa.Fl
