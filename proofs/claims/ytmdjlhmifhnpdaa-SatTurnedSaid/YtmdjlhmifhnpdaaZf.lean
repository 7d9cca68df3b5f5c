/- Texts of this seat, joined by a program of this session (wip/tools/pack.py). -/
import Derived.Test.YtmdjlhmifhnpdaaZw
import Derived.Test.YtmdjlhmifhnpdaaProg
import Derived.Laws.Externs
import Ieee.Arith
import Derived.Laws.BitsLemmas
namespace Go.Proofs.YtmdjlhmifhnpdaaW.PrintWords
set_option linter.unusedVariables false
open Go.RowKit Go.Proofs
namespace Kd
def f64 : Kd Nat := scalar (Value.float .f64) (fun _ => rfl)
theorem heap_f64 : Heap Kd.f64 := ⟨fun _ h => h⟩
theorem at_f64 {w : World} {A : Option Addr} {n : Nat} {xs : List Nat} (h : Kd.f64.C w A n xs) (i : Int) (h0 : 0 ≤ i) (h1 : i < n) : ∃ ad, A = some ad ∧ w.cell? (ad.add i.toNat) = some (.float .f64 (rdOf (0 : Nat) xs i)) :=
  ReadsOf.at_ (reads_of_C (enc := Value.float .f64) (d := (0 : Nat)) (h1 := fun _ => rfl) h) i h0 h1
theorem foot_f64 {w : World} {ad : Addr} {n : Nat} {l : List Nat} (h : Kd.f64.C w (some ad) n l) (i : Int) (h0 : 0 ≤ i) (h1 : i < n) : w.cell? (ad.add i.toNat) = some (.float .f64 (rdOf (0 : Nat) l i)) := by
  obtain ⟨ad', he, hc⟩ := at_f64 h i h0 h1
  injection he with he
  subst he
  exact hc
end Kd
def fEq (a b : Nat) : Bool := Ieee.double.order a b == some .eq
def fNe (a b : Nat) : Bool := Ieee.double.order a b != some .eq
def fLt (a b : Nat) : Bool := Ieee.double.order a b == some .lt
def fLe (a b : Nat) : Bool := Ieee.double.order a b == some .lt || Ieee.double.order a b == some .eq
def fGt (a b : Nat) : Bool := Ieee.double.order a b == some .gt
def fGe (a b : Nat) : Bool := Ieee.double.order a b == some .gt || Ieee.double.order a b == some .eq
def fNeg (a : Nat) : Nat := Op.negFloat .f64 a
def fAddOk (a b : Nat) : Bool := (Ieee.double.add a b).isSome
def fAdd (a b : Nat) : Nat := (Ieee.double.add a b).getD 0
def fSubOk (a b : Nat) : Bool := (Ieee.double.sub a b).isSome
def fSub (a b : Nat) : Nat := (Ieee.double.sub a b).getD 0
def fMulOk (a b : Nat) : Bool := (Ieee.double.mul a b).isSome
def fMul (a b : Nat) : Nat := (Ieee.double.mul a b).getD 0
def fDivOk (a b : Nat) : Bool := (Ieee.double.div a b).isSome
def fDiv (a b : Nat) : Nat := (Ieee.double.div a b).getD 0
theorem fl_eq (t : TypeId) (a b : Nat) : binOp .eql t (.float .f64 a) (.float .f64 b) = pure (.bool (fEq a b)) := by simp [binOp, Op.floatCmp, fEq, FloatKind.format]
theorem fl_ne (t : TypeId) (a b : Nat) : binOp .neq t (.float .f64 a) (.float .f64 b) = pure (.bool (fNe a b)) := by simp [binOp, Op.floatCmp, fNe, FloatKind.format]
theorem fl_lt (t : TypeId) (a b : Nat) : binOp .lss t (.float .f64 a) (.float .f64 b) = pure (.bool (fLt a b)) := by simp [binOp, Op.floatCmp, fLt, FloatKind.format]
theorem fl_le (t : TypeId) (a b : Nat) : binOp .leq t (.float .f64 a) (.float .f64 b) = pure (.bool (fLe a b)) := by simp [binOp, Op.floatCmp, fLe, FloatKind.format]
theorem fl_gt (t : TypeId) (a b : Nat) : binOp .gtr t (.float .f64 a) (.float .f64 b) = pure (.bool (fGt a b)) := by simp [binOp, Op.floatCmp, fGt, FloatKind.format]
theorem fl_ge (t : TypeId) (a b : Nat) : binOp .geq t (.float .f64 a) (.float .f64 b) = pure (.bool (fGe a b)) := by simp [binOp, Op.floatCmp, fGe, FloatKind.format]
theorem fl_neg (a : Nat) : Op.unary .neg (.float .f64 a) = pure (.float .f64 (fNeg a)) := by simp [Op.unary, fNeg]
theorem fl_add (t : TypeId) (a b : Nat) (h : fAddOk a b = true) : binOp .add t (.float .f64 a) (.float .f64 b) = pure (.float .f64 (fAdd a b)) := by
  obtain ⟨r, hr⟩ := Option.isSome_iff_exists.1 (show (Ieee.double.add a b).isSome = true from h)
  simp [binOp, Op.floatArith, fAdd, FloatKind.format, hr]
theorem fl_sub (t : TypeId) (a b : Nat) (h : fSubOk a b = true) : binOp .sub t (.float .f64 a) (.float .f64 b) = pure (.float .f64 (fSub a b)) := by
  obtain ⟨r, hr⟩ := Option.isSome_iff_exists.1 (show (Ieee.double.sub a b).isSome = true from h)
  simp [binOp, Op.floatArith, fSub, FloatKind.format, hr]
theorem fl_mul (t : TypeId) (a b : Nat) (h : fMulOk a b = true) : binOp .mul t (.float .f64 a) (.float .f64 b) = pure (.float .f64 (fMul a b)) := by
  obtain ⟨r, hr⟩ := Option.isSome_iff_exists.1 (show (Ieee.double.mul a b).isSome = true from h)
  simp [binOp, Op.floatArith, fMul, FloatKind.format, hr]
theorem fl_div (t : TypeId) (a b : Nat) (h : fDivOk a b = true) : binOp .quo t (.float .f64 a) (.float .f64 b) = pure (.float .f64 (fDiv a b)) := by
  obtain ⟨r, hr⟩ := Option.isSome_iff_exists.1 (show (Ieee.double.div a b).isSome = true from h)
  simp [binOp, Op.floatArith, fDiv, FloatKind.format, hr]
theorem run_store_float {P : Program} {w : World} {a : Addr} {m : Mode} (k : FloatKind) (b : Nat) : (store a (.float k b) m).run P w = stored P w a (.float k b) m := run_store P w a _ m rfl
theorem call_bits (b : Nat) (w : World) : (callFunc 58 #[.float .f64 b]).run Try.prog w = .ok (.value (.int .u64 (b : Int))) w := by
  rw [run_callFunc_extern (e := Extern.MathFloatBits.float64bits) Try.func58 (by kernel_rfl) (by kernel_rfl) (by kernel_rfl) (by kernel_rfl)]; rfl
theorem call_frombits (n : Int) (w : World) : (callFunc 52 #[.int .u64 n]).run Try.prog w = .ok (.value (.float .f64 n.toNat)) w := by
  rw [run_callFunc_extern (e := Extern.MathFloatBits.float64frombits) Try.func52 (by kernel_rfl) (by kernel_rfl) (by kernel_rfl) (by kernel_rfl)]; rfl
attribute [go_sem] call_bits call_frombits run_store_float fl_eq fl_ne fl_lt fl_le fl_gt fl_ge fl_neg fl_add fl_sub fl_mul fl_div
end Go.Proofs.YtmdjlhmifhnpdaaW.PrintWords
namespace Go.Proofs.Ytmdjlhmifhnpdaa.Fl
set_option linter.unusedVariables false
open Ieee

def sgn (x : Nat) : Bool := x / 9223372036854775808 % 2 == 1
def rung (x : Nat) : Nat := x % 9223372036854775808
def inf : Nat := 9218868437227405312
/-- The units of a rung. -/
def V (k : Nat) : Nat := if k < 2 ^ 52 then k else (2 ^ 52 + k % 2 ^ 52) * 2 ^ (k / 2 ^ 52 - 1)
def sv (x : Nat) : Int := if sgn x then -(V (rung x) : Int) else (V (rung x) : Int)
def word (s : Bool) (r : Nat) : Nat := if s then 9223372036854775808 + r else r

theorem sgn_word (s : Bool) (r : Nat) (h : r < 9223372036854775808) : sgn (word s r) = s := by
  unfold sgn word
  cases s with
  | true => simp only [if_true]; have : (9223372036854775808 + r) / 9223372036854775808 = 1 := by omega
            rw [this]; rfl
  | false => simp only [Bool.false_eq_true, if_false]; have : r / 9223372036854775808 = 0 := by omega
             rw [this]; rfl
theorem rung_word (s : Bool) (r : Nat) (h : r < 9223372036854775808) : rung (word s r) = r := by
  unfold rung word
  cases s with
  | true => simp only [if_true]; omega
  | false => simp only [Bool.false_eq_true, if_false]; omega
theorem word_lt (s : Bool) (r : Nat) (h : r < 9223372036854775808) : word s r < 18446744073709551616 := by
  unfold word; split <;> omega
theorem word_self (x : Nat) (h : x < 18446744073709551616) : word (sgn x) (rung x) = x := by
  unfold word sgn rung
  by_cases g : x < 9223372036854775808
  · have : x / 9223372036854775808 = 0 := by omega
    rw [this]; simp; omega
  · have : x / 9223372036854775808 = 1 := by omega
    rw [this]; simp; omega
theorem rung_lt (x : Nat) : rung x < 9223372036854775808 := Nat.mod_lt _ (by decide)

theorem dSign : double.signWeight = 9223372036854775808 := by decide
theorem dInf : double.infRung = inf := by decide
theorem dBin : double.binade = 2 ^ 52 := by decide
theorem dLeast : double.leastPlace = -1074 := by decide
theorem dWord (s : Bool) (r : Nat) : double.word s r = word s r := by unfold Format.word word; rw [dSign]

/-! ### to the nearest, and the even one between two -/
def rne (n g : Nat) : Nat := n / g + (if g < 2 * (n % g) ∨ (g = 2 * (n % g) ∧ n / g % 2 = 1) then 1 else 0)

theorem rne_scale (n g c : Nat) (hc : 0 < c) : rne (n * c) (g * c) = rne n g := by
  unfold rne
  rw [Nat.mul_div_mul_right _ _ hc, Nat.mul_mod_mul_right]
  have e1 : (g * c < 2 * (n % g * c)) ↔ (g < 2 * (n % g)) := by rw [← Nat.mul_assoc]; exact Nat.mul_lt_mul_right hc
  have e2 : (g * c = 2 * (n % g * c)) ↔ (g = 2 * (n % g)) := by rw [← Nat.mul_assoc]; exact Nat.mul_right_cancel_iff hc
  simp only [e1, e2]

theorem rne_mono {n m : Nat} (g : Nat) (_ : 0 < g) (h : n ≤ m) : rne n g ≤ rne m g := by
  have hq : n / g ≤ m / g := Nat.div_le_div_right h
  by_cases e : n / g = m / g
  · have a := Nat.div_add_mod n g
    have b := Nat.div_add_mod m g
    have hr : n % g ≤ m % g := by rw [e] at a; omega
    unfold rne
    rw [e]
    by_cases c : g < 2 * (n % g) ∨ (g = 2 * (n % g) ∧ m / g % 2 = 1)
    · rw [if_pos c, if_pos (by omega)]; exact Nat.le_refl _
    · rw [if_neg c]; split <;> omega
  · have h1 : rne n g ≤ n / g + 1 := by unfold rne; split <;> omega
    have h2 : m / g ≤ rne m g := by unfold rne; split <;> omega
    omega

theorem rne_mul (k g : Nat) (hg : 0 < g) : rne (k * g) g = k := by
  unfold rne
  rw [Nat.mul_div_cancel _ hg, Nat.mul_mod_left]
  rw [if_neg (by omega)]; rfl

theorem cut_eq (neg : Bool) (n d : Nat) : Toward.even.cut neg n d = rne n (2 ^ d) := by
  have key : ∀ gap : Nat, n / gap + ((decide (gap < 2 * (n % gap)) || (gap == 2 * (n % gap) && n / gap % 2 == 1)) : Bool).toNat = rne n gap := by
    intro gap
    unfold rne
    by_cases c : gap < 2 * (n % gap) ∨ (gap = 2 * (n % gap) ∧ n / gap % 2 = 1)
    · rw [if_pos c]
      have : (decide (gap < 2 * (n % gap)) || (gap == 2 * (n % gap) && n / gap % 2 == 1)) = true := by simpa using c
      rw [this]; rfl
    · rw [if_neg c]
      have : (decide (gap < 2 * (n % gap)) || (gap == 2 * (n % gap) && n / gap % 2 == 1)) = false := by simpa using c
      rw [this]; rfl
  have hcut : Toward.even.cut neg n d = rne n (1 <<< min d (n.log2 + 2)) := (key (1 <<< min d (n.log2 + 2)))
  rw [hcut, Nat.one_shiftLeft]
  by_cases h : d ≤ n.log2 + 2
  · rw [Nat.min_eq_left h]
  · have h' : n.log2 + 2 ≤ d := by omega
    rw [Nat.min_eq_right h']
    have small : ∀ e, n.log2 + 2 ≤ e → rne n (2 ^ e) = 0 := by
      intro e he
      have h1 : 2 ^ (n.log2 + 2) ≤ 2 ^ e := Nat.pow_le_pow_right (by decide) he
      have h2 : n < 2 ^ (n.log2 + 1) := Nat.lt_log2_self
      have h3 : 2 ^ (n.log2 + 2) = 2 * 2 ^ (n.log2 + 1) := by rw [Nat.pow_succ, Nat.mul_comm]
      have h4 : n < 2 ^ e := by omega
      unfold rne
      rw [Nat.div_eq_of_lt h4, Nat.mod_eq_of_lt h4, if_neg (by omega)]
    rw [small _ (Nat.le_refl _), small _ h']

/-! ### the rung of a number of units: 'M' counts units of '2 ^ (-1074 - t)' -/
def F (t M : Nat) : Nat := (max (M.log2 - 52) t - t) * 2 ^ 52 + rne M (2 ^ max (M.log2 - 52) t)

theorem F_zero (t : Nat) : F t 0 = 0 := by
  unfold F
  have : max (Nat.log2 0 - 52) t = t := by rw [Nat.log2_zero]; omega
  rw [this]
  unfold rne
  simp

theorem pow_pos' (k : Nat) : 0 < 2 ^ k := Nat.two_pow_pos k
theorem log2_mono {a b : Nat} (ha : a ≠ 0) (h : a ≤ b) : a.log2 ≤ b.log2 := (Nat.le_log2 (by omega)).2 (Nat.le_trans (Nat.log2_self_le ha) h)
theorem log2_mul_pow (m u : Nat) (hm : m ≠ 0) : (m * 2 ^ u).log2 = m.log2 + u := by
  have hp := pow_pos' u
  have h0 : m * 2 ^ u ≠ 0 := by intro e; rcases Nat.mul_eq_zero.1 e with e | e <;> omega
  rw [Nat.log2_eq_iff h0]
  refine ⟨?_, ?_⟩
  · rw [Nat.pow_add]; exact Nat.mul_le_mul_right _ (Nat.log2_self_le hm)
  · have : m.log2 + u + 1 = (m.log2 + 1) + u := by omega
    rw [this, Nat.pow_add]; exact Nat.mul_lt_mul_of_pos_right Nat.lt_log2_self hp

theorem F_mono (t : Nat) {a b : Nat} (h : a ≤ b) : F t a ≤ F t b := by
  by_cases ha : a = 0
  · subst ha; rw [F_zero]; exact Nat.zero_le _
  have hb : b ≠ 0 := by omega
  have hl := log2_mono ha h
  by_cases e : max (a.log2 - 52) t = max (b.log2 - 52) t
  · unfold F; rw [e]; exact Nat.add_le_add_left (rne_mono _ (pow_pos' _) h) _
  · have hlt : max (a.log2 - 52) t < max (b.log2 - 52) t := by omega
    generalize hL : max (a.log2 - 52) t = L at *
    generalize hM : max (b.log2 - 52) t = M at *
    have hMt : t < M := by omega
    have hM2 : M + 52 = b.log2 := by omega
    have h1 : a ≤ 2 ^ 53 * 2 ^ L := by
      have : a < 2 ^ (a.log2 + 1) := Nat.lt_log2_self
      have h2 : 2 ^ (a.log2 + 1) ≤ 2 ^ (53 + L) := Nat.pow_le_pow_right (by decide) (by omega)
      rw [Nat.pow_add 2 53 L] at h2; omega
    have h2 : 2 ^ 52 * 2 ^ M ≤ b := by
      have := Nat.log2_self_le hb
      rw [← hM2, Nat.add_comm, Nat.pow_add] at this; exact this
    have g1 : rne a (2 ^ L) ≤ 2 ^ 53 := by
      have := rne_mono (2 ^ L) (pow_pos' _) h1; rwa [rne_mul _ _ (pow_pos' _)] at this
    have g2 : 2 ^ 52 ≤ rne b (2 ^ M) := by
      have := rne_mono (2 ^ M) (pow_pos' _) h2; rwa [rne_mul _ _ (pow_pos' _)] at this
    have hF1 : F t a = (L - t) * 2 ^ 52 + rne a (2 ^ L) := by unfold F; rw [hL]
    have hF2 : F t b = (M - t) * 2 ^ 52 + rne b (2 ^ M) := by unfold F; rw [hM]
    rw [hF1, hF2]
    have h3 : (L - t) + 1 ≤ M - t := by have : t ≤ L := by omega
                                        omega
    have h4 : ((L - t) + 1) * 2 ^ 52 ≤ (M - t) * 2 ^ 52 := Nat.mul_le_mul_right _ h3
    omega

theorem V_ne (k : Nat) (h : k ≠ 0) : V k ≠ 0 := by
  unfold V
  split
  · exact h
  · intro e
    rcases Nat.mul_eq_zero.1 e with e | e
    · omega
    · have := pow_pos' (k / 2 ^ 52 - 1); omega
theorem V_zero : V 0 = 0 := rfl

theorem F_exact (t k : Nat) : F t (V k * 2 ^ t) = k := by
  by_cases h0 : k = 0
  · subst h0; rw [V_zero, Nat.zero_mul, F_zero]
  have hv := V_ne k h0
  have hlog := log2_mul_pow (V k) t hv
  unfold F
  rw [hlog]
  by_cases h : k < 2 ^ 52
  · have hV : V k = k := by unfold V; rw [if_pos h]
    rw [hV]
    have : k.log2 < 52 := (Nat.log2_lt h0).2 h
    have e : max (k.log2 + t - 52) t = t := by omega
    rw [e, rne_mul _ _ (pow_pos' _)]; simp
  · have hV : V k = (2 ^ 52 + k % 2 ^ 52) * 2 ^ (k / 2 ^ 52 - 1) := by unfold V; rw [if_neg h]
    have hm : k % 2 ^ 52 < 2 ^ 52 := Nat.mod_lt _ (pow_pos' _)
    have hq : 1 ≤ k / 2 ^ 52 := (Nat.le_div_iff_mul_le (pow_pos' _)).2 (by omega)
    have hl : (2 ^ 52 + k % 2 ^ 52).log2 = 52 := by
      rw [Nat.log2_eq_iff (by omega)]; omega
    have hlog2 : (V k).log2 = 52 + (k / 2 ^ 52 - 1) := by rw [hV, log2_mul_pow _ _ (by omega), hl]
    rw [hlog2]
    have e : max (52 + (k / 2 ^ 52 - 1) + t - 52) t = (k / 2 ^ 52 - 1) + t := by omega
    rw [e, hV, Nat.mul_assoc, ← Nat.pow_add, rne_mul _ _ (pow_pos' _)]
    have e2 : k / 2 ^ 52 - 1 + t - t = k / 2 ^ 52 - 1 := by omega
    rw [e2]
    have := Nat.div_add_mod k (2 ^ 52)
    have h5 : (k / 2 ^ 52 - 1) * 2 ^ 52 + 2 ^ 52 = 2 ^ 52 * (k / 2 ^ 52) := by
      rw [Nat.mul_comm (2 ^ 52)]
      have : k / 2 ^ 52 = (k / 2 ^ 52 - 1) + 1 := by omega
      conv => rhs; rw [this]
      rw [Nat.add_mul, Nat.one_mul]
    omega

theorem V_lt {a b : Nat} (h : a < b) : V a < V b := by
  by_cases g : V a < V b
  · exact g
  · have := F_mono 0 (show V b ≤ V a by omega)
    have ea := F_exact 0 a
    have eb := F_exact 0 b
    rw [Nat.pow_zero, Nat.mul_one] at ea eb
    omega
theorem V_le {a b : Nat} (h : a ≤ b) : V a ≤ V b := by
  rcases Nat.lt_or_eq_of_le h with h | h
  · exact Nat.le_of_lt (V_lt h)
  · rw [h]; exact Nat.le_refl _
theorem V_lt_iff (a b : Nat) : V a < V b ↔ a < b := by
  refine ⟨fun h => ?_, V_lt⟩
  by_cases g : a < b
  · exact g
  · have := V_le (show b ≤ a by omega); omega
theorem F_ge (t k M : Nat) (h : V k * 2 ^ t ≤ M) : k ≤ F t M := by have := F_mono t h; rwa [F_exact] at this
theorem F_le (t k M : Nat) (h : M ≤ V k * 2 ^ t) : F t M ≤ k := by have := F_mono t h; rwa [F_exact] at this

theorem nearest_eq (neg : Bool) (mag t u : Nat) (place : Int) (hp : place = (u : Int) - t - 1074) : double.nearest neg mag place = word neg (min (F t (mag * 2 ^ u)) inf) := by
  unfold Format.nearest
  by_cases hm : mag = 0
  · subst hm
    rw [if_pos rfl, dWord, Nat.zero_mul, F_zero]; rfl
  · rw [if_neg hm]
    have hlog := log2_mul_pow mag u hm
    show double.word neg (min ((max (place + (mag.log2 : Int) - ((52 : Nat) : Int)) double.leastPlace - double.leastPlace).toNat * double.binade + Toward.even.cut neg (mag <<< (place - max (place + (mag.log2 : Int) - ((52 : Nat) : Int)) double.leastPlace).toNat) (max (place + (mag.log2 : Int) - ((52 : Nat) : Int)) double.leastPlace - place).toNat) double.infRung) = _
    rw [dLeast, dWord, dBin, dInf]
    unfold F
    rw [hlog]
    generalize hl : max (mag.log2 + u - 52) t = l
    have e0 : max (place + (mag.log2 : Int) - ((52 : Nat) : Int)) (-1074) = (l : Int) - t - 1074 := by omega
    rw [e0]
    have e1 : ((l : Int) - t - 1074 - -1074).toNat = l - t := by omega
    have e2 : (place - ((l : Int) - t - 1074)).toNat = u - l := by omega
    have e3 : ((l : Int) - t - 1074 - place).toNat = l - u := by omega
    rw [e1, e2, e3, cut_eq, Nat.shiftLeft_eq]
    have e4 : rne (mag * 2 ^ (u - l)) (2 ^ (l - u)) = rne (mag * 2 ^ u) (2 ^ l) := by
      by_cases h : l ≤ u
      · have a1 : l - u = 0 := by omega
        have a2 : mag * 2 ^ u = mag * 2 ^ (u - l) * 2 ^ l := by rw [Nat.mul_assoc, ← Nat.pow_add]; congr 2; omega
        rw [a1, a2, rne_mul _ _ (pow_pos' _)]
        have := rne_mul (mag * 2 ^ (u - l)) 1 (by decide)
        rwa [Nat.mul_one] at this
      · have a1 : u - l = 0 := by omega
        have a2 : 2 ^ l = 2 ^ (l - u) * 2 ^ u := by rw [← Nat.pow_add]; congr 1; omega
        rw [a1, Nat.pow_zero, Nat.mul_one, a2, rne_scale _ _ _ (pow_pos' _)]
    rw [e4]

/-! ### what a word stands for -/
theorem read_fin (x : Nat) (h : rung x < inf) : ∃ m p : Nat, double.read x = .number (sgn x) m ((p : Int) - 1074) ∧ m * 2 ^ p = V (rung x) ∧ m < 2 ^ 53 := by
  unfold Format.read
  simp only [dSign, dBin, dInf, dLeast]
  by_cases hb : rung x < 2 ^ 52
  · refine ⟨rung x, 0, ?_, ?_, by omega⟩
    · rw [if_pos (show x % 9223372036854775808 < 2 ^ 52 from hb)]; rfl
    · unfold V; rw [if_pos hb]; simp
  · refine ⟨2 ^ 52 + rung x % 2 ^ 52, rung x / 2 ^ 52 - 1, ?_, ?_, by omega⟩
    · rw [if_neg (show ¬ x % 9223372036854775808 < 2 ^ 52 from hb), if_pos (show x % 9223372036854775808 < inf from h)]
      show Datum.number (sgn x) (2 ^ 52 + rung x % 2 ^ 52) (-1074 + ((rung x / 2 ^ 52 - 1 : Nat) : Int)) = _
      have : (-1074 + ((rung x / 2 ^ 52 - 1 : Nat) : Int)) = ((rung x / 2 ^ 52 - 1 : Nat) : Int) - 1074 := by omega
      rw [this]
    · unfold V; rw [if_neg hb]
theorem read_inf (x : Nat) (h : rung x = inf) : double.read x = .infinity (sgn x) := by
  have hb : ¬ inf < 2 ^ 52 := by decide
  unfold Format.read
  simp only [dSign, dBin, dInf]
  rw [if_neg (by show ¬ rung x < 2 ^ 52; rw [h]; exact hb), if_neg (by show ¬ rung x < inf; omega), if_pos (show x % 9223372036854775808 = inf from h)]; rfl
theorem read_nan (x : Nat) (h : inf < rung x) : ∃ f, double.read x = .nan (sgn x) f := by
  have hb : ¬ inf < 2 ^ 52 := by decide
  unfold Format.read
  simp only [dSign, dBin, dInf]
  refine ⟨rung x - inf, ?_⟩
  rw [if_neg (by show ¬ rung x < 2 ^ 52; omega), if_neg (by show ¬ rung x < inf; omega), if_neg (by show ¬ rung x = inf; omega)]; rfl

theorem signed_eq (s : Bool) (m k : Nat) : signed s m k = if s then -((m * 2 ^ k : Nat) : Int) else ((m * 2 ^ k : Nat) : Int) := by
  unfold signed; rw [Nat.shiftLeft_eq]
theorem signed_sv (x m p b : Nat) (hb : b ≤ p) (hm : m * 2 ^ p = V (rung x)) : signed (sgn x) m (p - b) * ((2 ^ b : Nat) : Int) = sv x := by
  have e : m * 2 ^ (p - b) * 2 ^ b = V (rung x) := by rw [← hm, Nat.mul_assoc, ← Nat.pow_add]; congr 2; omega
  rw [signed_eq]
  unfold sv
  rw [← e]
  split
  · rw [Int.neg_mul]; simp
  · simp

theorem pow_posI (b : Nat) : (0 : Int) < ((2 ^ b : Nat) : Int) := by have := pow_pos' b; omega

theorem cmp_lt {a b : Int} (h : a < b) : compare a b = .lt := by show compareOfLessAndEq a b = _; unfold compareOfLessAndEq; rw [if_pos h]
theorem cmp_eq {a b : Int} (h : a = b) : compare a b = .eq := by show compareOfLessAndEq a b = _; unfold compareOfLessAndEq; rw [if_neg (by omega), if_pos h]
theorem cmp_gt {a b : Int} (h : b < a) : compare a b = .gt := by show compareOfLessAndEq a b = _; unfold compareOfLessAndEq; rw [if_neg (by omega), if_neg (by omega)]
theorem cmp_scale (a b c : Int) (hc : 0 < c) : compare a b = compare (a * c) (b * c) := by
  rcases Int.lt_trichotomy a b with h | h | h
  · rw [cmp_lt h, cmp_lt (Int.mul_lt_mul_of_pos_right h hc)]
  · subst h; rw [cmp_eq rfl, cmp_eq rfl]
  · rw [cmp_gt h, cmp_gt (Int.mul_lt_mul_of_pos_right h hc)]

theorem sv_word (s : Bool) (r : Nat) (h : r < 9223372036854775808) : sv (word s r) = if s then -(V r : Int) else (V r : Int) := by
  unfold sv; rw [sgn_word s r h, rung_word s r h]
theorem sv_abs (x : Nat) : (sv x).natAbs = V (rung x) := by unfold sv; split <;> omega
theorem V_inf_pos : 0 < V inf := by have := V_ne inf (by decide); omega

theorem order_eq (x y : Nat) (hx : rung x ≤ inf) (hy : rung y ≤ inf) : double.order x y = some (compare (sv x) (sv y)) := by
  unfold Format.order
  rcases Nat.lt_or_eq_of_le hx with h1 | h1 <;> rcases Nat.lt_or_eq_of_le hy with h2 | h2
  · obtain ⟨m, p, e1, v1, _⟩ := read_fin x h1
    obtain ⟨n, q, e2, v2, _⟩ := read_fin y h2
    rw [e1, e2]
    show some (compare (signed (sgn x) m ((p : Int) - 1074 - min ((p : Int) - 1074) ((q : Int) - 1074)).toNat) (signed (sgn y) n ((q : Int) - 1074 - min ((p : Int) - 1074) ((q : Int) - 1074)).toNat)) = _
    have a1 : ((p : Int) - 1074 - min ((p : Int) - 1074) ((q : Int) - 1074)).toNat = p - min p q := by omega
    have a2 : ((q : Int) - 1074 - min ((p : Int) - 1074) ((q : Int) - 1074)).toNat = q - min p q := by omega
    rw [a1, a2, cmp_scale _ _ _ (pow_posI (min p q)), signed_sv x m p (min p q) (by omega) v1, signed_sv y n q (min p q) (by omega) v2]
  · obtain ⟨m, p, e1, v1, _⟩ := read_fin x h1
    rw [e1, read_inf y h2]
    show some (if sgn y = true then Ordering.gt else Ordering.lt) = _
    have a := V_lt h1
    have b : sv x = (V (rung x) : Int) ∨ sv x = -(V (rung x) : Int) := by unfold sv; split <;> simp
    cases hs : sgn y with
    | true => have c : sv y = -(V inf : Int) := by unfold sv; rw [hs, h2]; rfl
              rw [cmp_gt (by omega)]; rfl
    | false => have c : sv y = (V inf : Int) := by unfold sv; rw [hs, h2]; rfl
               rw [cmp_lt (by omega)]; rfl
  · obtain ⟨m, p, e1, v1, _⟩ := read_fin y h2
    rw [e1, read_inf x h1]
    show some (if sgn x = true then Ordering.lt else Ordering.gt) = _
    have a := V_lt h2
    have b : sv y = (V (rung y) : Int) ∨ sv y = -(V (rung y) : Int) := by unfold sv; split <;> simp
    cases hs : sgn x with
    | true => have c : sv x = -(V inf : Int) := by unfold sv; rw [hs, h1]; rfl
              rw [cmp_lt (by omega)]; rfl
    | false => have c : sv x = (V inf : Int) := by unfold sv; rw [hs, h1]; rfl
               rw [cmp_gt (by omega)]; rfl
  · rw [read_inf x h1, read_inf y h2]
    show some (compare (sgn y).toNat (sgn x).toNat) = _
    have p := V_inf_pos
    have c1 : sv x = if sgn x then -(V inf : Int) else (V inf : Int) := by unfold sv; rw [h1]
    have c2 : sv y = if sgn y then -(V inf : Int) else (V inf : Int) := by unfold sv; rw [h2]
    rw [c1, c2]
    cases sgn x <;> cases sgn y
    · simp only [Bool.false_eq_true, if_false]; rw [cmp_eq rfl]; rfl
    · simp only [Bool.false_eq_true, if_false, if_true]; rw [cmp_gt (by omega)]; rfl
    · simp only [Bool.false_eq_true, if_false, if_true]; rw [cmp_lt (by omega)]; rfl
    · simp only [if_true]; rw [cmp_eq rfl]; rfl
theorem order_nan1 (x y : Nat) (h : inf < rung x) : double.order x y = none := by
  obtain ⟨f, e⟩ := read_nan x h
  unfold Format.order
  rw [e]
  cases double.read y <;> rfl
theorem order_nan2 (x y : Nat) (h : inf < rung y) : double.order x y = none := by
  obtain ⟨f, e⟩ := read_nan y h
  unfold Format.order
  rw [e]
  cases double.read x <;> rfl

/-! ### sums, products, quotients -/
def addW (x y : Nat) : Nat := word (if sv x + sv y = 0 then sgn x && sgn y else decide (sv x + sv y < 0)) (min (F 0 (sv x + sv y).natAbs) inf)
theorem add_fin (x y : Nat) (hx : rung x < inf) (hy : rung y < inf) : double.add x y = some (addW x y) := by
  obtain ⟨m, p, e1, v1, _⟩ := read_fin x hx
  obtain ⟨n, q, e2, v2, _⟩ := read_fin y hy
  unfold Format.add
  rw [e1, e2]
  show some (double.write (.number _ _ _)) = _
  have a1 : ((p : Int) - 1074 - min ((p : Int) - 1074) ((q : Int) - 1074)).toNat = p - min p q := by omega
  have a2 : ((q : Int) - 1074 - min ((p : Int) - 1074) ((q : Int) - 1074)).toNat = q - min p q := by omega
  show some (double.nearest _ _ _) = _
  rw [a1, a2]
  generalize hT : signed (sgn x) m (p - min p q) + signed (sgn y) n (q - min p q) = T
  have hT2 : T * ((2 ^ min p q : Nat) : Int) = sv x + sv y := by
    rw [← hT, Int.add_mul, signed_sv x m p (min p q) (by omega) v1, signed_sv y n q (min p q) (by omega) v2]
  rw [nearest_eq _ _ 0 (min p q) _ (by omega)]
  unfold addW
  have hc := pow_posI (min p q)
  have hz : (T = 0) ↔ (sv x + sv y = 0) := by
    rw [← hT2]
    constructor
    · intro e; rw [e, Int.zero_mul]
    · intro e; rcases Int.mul_eq_zero.1 e with e | e
      · exact e
      · omega
  have hn : (T < 0) ↔ (sv x + sv y < 0) := by
    rw [← hT2]
    constructor
    · intro e; exact Int.mul_neg_of_neg_of_pos e hc
    · intro e
      by_cases g : T < 0
      · exact g
      · have := Int.mul_nonneg (show 0 ≤ T by omega) (Int.le_of_lt hc); omega
  have ha : T.natAbs * 2 ^ min p q = (sv x + sv y).natAbs := by rw [← hT2, Int.natAbs_mul]; rfl
  rw [ha]
  simp only [hz, hn]

def mulW (x y : Nat) : Nat := word (sgn x ^^ sgn y) (min (F 1074 (V (rung x) * V (rung y))) inf)
theorem mul_fin (x y : Nat) (hx : rung x < inf) (hy : rung y < inf) : double.mul x y = some (mulW x y) := by
  obtain ⟨m, p, e1, v1, _⟩ := read_fin x hx
  obtain ⟨n, q, e2, v2, _⟩ := read_fin y hy
  unfold Format.mul
  rw [e1, e2]
  show some (double.nearest (sgn x ^^ sgn y) (m * n) ((p : Int) - 1074 + ((q : Int) - 1074))) = _
  rw [nearest_eq _ _ 1074 (p + q) _ (by omega)]
  unfold mulW
  have : m * n * 2 ^ (p + q) = V (rung x) * V (rung y) := by rw [← v1, ← v2, Nat.pow_add]; ac_rfl
  rw [this]

/-- 0.95 -/
def c95 : Nat := 4606732058837280358
theorem read_c95 : double.read c95 = .number false 8556839292003942 (-53) := by decide +kernel
theorem div_c95 (x : Nat) (hx : rung x < inf) : ∃ t M, double.div x c95 = some (word (sgn x) (min (F t M) inf)) ∧ V (rung x) * 2 ^ t ≤ M := by
  obtain ⟨m, p, e1, v1, hm53⟩ := read_fin x hx
  unfold Format.div
  rw [e1, read_c95]
  have hq : Datum.quotient (double.fractionBits + 2) (.number (sgn x) m ((p : Int) - 1074)) (.number false 8556839292003942 (-53)) = some (.number (sgn x ^^ false) (2 * (m <<< (54 + Nat.log2 8556839292003942 - m.log2) / 8556839292003942) + (m <<< (54 + Nat.log2 8556839292003942 - m.log2) % 8556839292003942 != 0).toNat) ((p : Int) - 1074 - (-53) - ((54 + Nat.log2 8556839292003942 - m.log2 : Nat) : Int) - 1)) := rfl
  rw [hq]
  have hl : Nat.log2 8556839292003942 = 52 := by decide +kernel
  rw [hl]
  generalize hmo : 54 + 52 - m.log2 = more
  refine ⟨more, (2 * (m <<< more / 8556839292003942) + (m <<< more % 8556839292003942 != 0).toNat) * 2 ^ (p + 52), ?_, ?_⟩
  · show some (double.nearest _ _ _) = _
    rw [nearest_eq _ _ more (p + 52) _ (by omega), Bool.xor_false]
  · rw [← v1]
    have e0 : m * 2 ^ p * 2 ^ more = m <<< more * 2 ^ p := by rw [Nat.shiftLeft_eq]; ac_rfl
    rw [e0, Nat.pow_add, Nat.mul_comm (2 ^ p), ← Nat.mul_assoc]
    refine Nat.mul_le_mul_right _ ?_
    by_cases h0 : m = 0
    · subst h0; rw [Nat.zero_shiftLeft]; exact Nat.zero_le _
    · have hml : m.log2 < 53 := (Nat.log2_lt h0).2 hm53
      have hd : 2 ^ 106 ≤ m <<< more := by
        rw [Nat.shiftLeft_eq]
        have a := Nat.log2_self_le h0
        have b : 2 ^ 106 = 2 ^ m.log2 * 2 ^ more := by rw [← Nat.pow_add]; congr 1; omega
        rw [b]; exact Nat.mul_le_mul_right _ a
      generalize m <<< more = D at *
      have h1 := Nat.div_add_mod D 8556839292003942
      have h2 : D % 8556839292003942 < 8556839292003942 := Nat.mod_lt _ (by decide)
      generalize (D % 8556839292003942 != 0).toNat = st
      omega

end Go.Proofs.Ytmdjlhmifhnpdaa.Fl
namespace Go.Proofs.Ytmdjlhmifhnpdaa.Fl
set_option linter.unusedVariables false
open Ieee Go.Proofs.YtmdjlhmifhnpdaaW.PrintWords

theorem beq_lt (a b : Int) : (some (compare a b) == some Ordering.lt) = decide (a < b) := by
  rcases Int.lt_trichotomy a b with h | h | h
  · rw [cmp_lt h, decide_eq_true h]; rfl
  · rw [cmp_eq h, decide_eq_false (by omega)]; rfl
  · rw [cmp_gt h, decide_eq_false (by omega)]; rfl
theorem beq_gt (a b : Int) : (some (compare a b) == some Ordering.gt) = decide (b < a) := by
  rcases Int.lt_trichotomy a b with h | h | h
  · rw [cmp_lt h, decide_eq_false (by omega)]; rfl
  · rw [cmp_eq h, decide_eq_false (by omega)]; rfl
  · rw [cmp_gt h, decide_eq_true h]; rfl
theorem beq_eq (a b : Int) : (some (compare a b) == some Ordering.eq) = decide (a = b) := by
  rcases Int.lt_trichotomy a b with h | h | h
  · rw [cmp_lt h, decide_eq_false (by omega)]; rfl
  · rw [cmp_eq h, decide_eq_true h]; rfl
  · rw [cmp_gt h, decide_eq_false (by omega)]; rfl
section
variable {x y : Nat} (hx : rung x ≤ inf) (hy : rung y ≤ inf)
include hx hy
theorem lt_eq : fLt x y = decide (sv x < sv y) := by unfold fLt; rw [order_eq x y hx hy, beq_lt]
theorem gt_eq : fGt x y = decide (sv y < sv x) := by unfold fGt; rw [order_eq x y hx hy, beq_gt]
theorem eq_eq : fEq x y = decide (sv x = sv y) := by unfold fEq; rw [order_eq x y hx hy, beq_eq]
theorem ne_eq : fNe x y = decide (¬ sv x = sv y) := by unfold fNe bne; rw [order_eq x y hx hy, beq_eq, decide_not]
theorem le_eq : fLe x y = decide (sv x ≤ sv y) := by
  unfold fLe; rw [order_eq x y hx hy, beq_eq, beq_lt, Bool.eq_iff_iff]; simp; omega
theorem ge_eq : fGe x y = decide (sv y ≤ sv x) := by
  unfold fGe; rw [order_eq x y hx hy, beq_eq, beq_gt, Bool.eq_iff_iff]; simp; omega
end
section
variable (x y : Nat) (h : inf < rung x ∨ inf < rung y)
include h
theorem nan_order : double.order x y = none := by
  rcases h with h | h
  · exact order_nan1 x y h
  · exact order_nan2 x y h
theorem lt_nan : fLt x y = false := by unfold fLt; rw [nan_order x y h]; rfl
theorem gt_nan : fGt x y = false := by unfold fGt; rw [nan_order x y h]; rfl
theorem eq_nan : fEq x y = false := by unfold fEq; rw [nan_order x y h]; rfl
theorem ne_nan : fNe x y = true := by unfold fNe; rw [nan_order x y h]; rfl
theorem le_nan : fLe x y = false := by unfold fLe; rw [nan_order x y h]; rfl
theorem ge_nan : fGe x y = false := by unfold fGe; rw [nan_order x y h]; rfl
end
theorem ne_self (x : Nat) : fNe x x = decide (inf < rung x) := by
  by_cases h : inf < rung x
  · rw [ne_nan x x (Or.inl h), decide_eq_true h]
  · rw [ne_eq (by omega) (by omega), decide_eq_false h]; simp
theorem eq_self (x : Nat) : fEq x x = decide (rung x ≤ inf) := by
  by_cases h : inf < rung x
  · rw [eq_nan x x (Or.inl h), decide_eq_false (by omega)]
  · rw [eq_eq (by omega) (by omega), decide_eq_true (by omega : rung x ≤ inf)]; simp

/-! ### bits -/
theorem wrap_u64 (n : Int) (h0 : 0 ≤ n) (h1 : n < 18446744073709551616) : IntKind.u64.wrap n = n := by
  have : IntKind.u64.wrap n = n % 18446744073709551616 := by simp [IntKind.wrap, IntKind.bits, IntKind.signed]
  rw [this]; omega
theorem toNat_ofInt (a : Nat) (ha : a < 18446744073709551616) : (BitVec.ofInt 64 (a : Int)).toNat = a := by
  rw [BitVec.ofInt_natCast, BitVec.toNat_ofNat]; exact Nat.mod_eq_of_lt ha
theorem bits_abs (x : Nat) (hx : x < 18446744073709551616) : Go.bits .andNot .u64 (x : Int) 9223372036854775808 = ((rung x : Nat) : Int) := by
  have e : (BitVec.ofInt 64 (x : Int) &&& ~~~ BitVec.ofInt 64 ((9223372036854775808 : Nat) : Int)).toNat = rung x := by
    rw [BitVec.toNat_and, BitVec.toNat_not, toNat_ofInt x hx, toNat_ofInt _ (by decide)]
    exact Nat.and_two_pow_sub_one_eq_mod x 63
  show IntKind.u64.wrap (((BitVec.ofInt 64 (x : Int) &&& ~~~ BitVec.ofInt 64 ((9223372036854775808 : Nat) : Int)).toNat : Nat) : Int) = _
  rw [e]
  have := rung_lt x
  exact wrap_u64 _ (by omega) (by omega)
theorem sgn_ge (x : Nat) (hx : x < 18446744073709551616) : sgn x = decide (9223372036854775808 ≤ x) := by
  unfold sgn
  by_cases h : 9223372036854775808 ≤ x
  · have : x / 9223372036854775808 = 1 := by omega
    rw [this, decide_eq_true h]; rfl
  · have : x / 9223372036854775808 = 0 := by omega
    rw [this, decide_eq_false h]; rfl
theorem and_sign (x : Nat) : x &&& 9223372036854775808 = (x.testBit 63).toNat * 2 ^ 63 := by
  show x &&& 2 ^ 63 = _
  apply Nat.eq_of_testBit_eq
  intro i
  rw [Nat.testBit_and, Nat.testBit_two_pow]
  by_cases h : 63 = i
  · subst h
    cases x.testBit 63
    · simp
    · decide
  · rw [decide_eq_false h, Bool.and_false]
    cases x.testBit 63
    · simp
    · show false = (1 * 2 ^ 63).testBit i
      rw [Nat.one_mul, Nat.testBit_two_pow, decide_eq_false h]
theorem bits_sign (x : Nat) (hx : x < 18446744073709551616) : Go.bits .and .u64 (x : Int) 9223372036854775808 = ((word (sgn x) 0 : Nat) : Int) := by
  have e : (BitVec.ofInt 64 (x : Int) &&& BitVec.ofInt 64 ((9223372036854775808 : Nat) : Int)).toNat = word (sgn x) 0 := by
    rw [BitVec.toNat_and, toNat_ofInt x hx, toNat_ofInt _ (by decide)]
    have h1 := and_sign x
    have h2 : x.testBit 63 = decide (x / 2 ^ 63 % 2 = 1) := Nat.testBit_eq_decide_div_mod_eq
    rw [h1, h2]
    unfold word sgn
    by_cases h : x / 9223372036854775808 % 2 = 1
    · have h' : x / 2 ^ 63 % 2 = 1 := h
      rw [decide_eq_true h', h]; rfl
    · have h' : ¬ x / 2 ^ 63 % 2 = 1 := h
      have h3 : x / 9223372036854775808 % 2 = 0 := by omega
      rw [decide_eq_false h', h3]; rfl
  show IntKind.u64.wrap (((BitVec.ofInt 64 (x : Int) &&& BitVec.ofInt 64 ((9223372036854775808 : Nat) : Int)).toNat : Nat) : Int) = _
  rw [e]
  refine wrap_u64 _ (by omega) ?_
  have := word_lt (sgn x) 0 (by decide)
  omega
theorem bits_join' (r : Nat) (s : Bool) (hr : r < 9223372036854775808) : Go.bits .or .u64 (r : Int) ((word s 0 : Nat) : Int) = ((word s r : Nat) : Int) := by
  have hw := word_lt s 0 (by decide)
  have hw2 := word_lt s r hr
  have e : (BitVec.ofInt 64 (r : Int) ||| BitVec.ofInt 64 ((word s 0 : Nat) : Int)).toNat = word s r := by
    rw [BitVec.toNat_or, toNat_ofInt r (by omega), toNat_ofInt _ hw]
    cases s with
    | true =>
      show r ||| 9223372036854775808 = 9223372036854775808 + r
      rw [Nat.or_comm]
      exact (Nat.two_pow_add_eq_or_of_lt (i := 63) hr 1).symm
    | false => show r ||| 0 = r; simp
  show IntKind.u64.wrap (((BitVec.ofInt 64 (r : Int) ||| BitVec.ofInt 64 ((word s 0 : Nat) : Int)).toNat : Nat) : Int) = _
  rw [e]
  exact wrap_u64 _ (by omega) (by omega)
theorem neg_word (s : Bool) (r : Nat) (hr : r < 9223372036854775808) : fNeg (word s r) = word (!s) r := by
  have lo : ∀ r, r < 2 ^ 63 → r ^^^ 2 ^ 63 = 2 ^ 63 + r := by
    intro r hr
    apply Nat.eq_of_testBit_eq
    intro i
    rw [Nat.testBit_xor, Nat.testBit_two_pow]
    by_cases h : 63 = i
    · subst h
      rw [Nat.testBit_two_pow_add_eq, Nat.testBit_lt_two_pow hr]; rfl
    · rw [decide_eq_false h, Bool.xor_false]
      by_cases g : i < 63
      · rw [Nat.testBit_two_pow_add_gt g]
      · have h1 : r < 2 ^ i := Nat.lt_of_lt_of_le hr (Nat.pow_le_pow_right (by decide) (by omega))
        have h2 : 2 ^ 64 ≤ 2 ^ i := Nat.pow_le_pow_right (by decide) (by omega)
        rw [Nat.testBit_lt_two_pow h1, Nat.testBit_lt_two_pow (by omega)]
  show word s r ^^^ 2 ^ 63 = word (!s) r
  cases s with
  | false => show r ^^^ 2 ^ 63 = 9223372036854775808 + r; exact lo r hr
  | true =>
    show (2 ^ 63 + r) ^^^ 2 ^ 63 = r
    rw [← lo r hr, Nat.xor_assoc, Nat.xor_self, Nat.xor_zero]
theorem sv_neg (s : Bool) (r : Nat) (hr : r < 9223372036854775808) : sv (word (!s) r) = - sv (word s r) := by
  rw [sv_word _ _ hr, sv_word _ _ hr]
  cases s <;> simp
theorem rung_neg (x : Nat) (hx : x < 18446744073709551616) : rung (fNeg x) = rung x ∧ sgn (fNeg x) = !sgn x ∧ sv (fNeg x) = - sv x ∧ fNeg x < 18446744073709551616 := by
  have h := rung_lt x
  have e : fNeg x = word (!sgn x) (rung x) := by rw [← neg_word _ _ h, word_self x hx]
  rw [e]
  refine ⟨rung_word _ _ h, sgn_word _ _ h, ?_, word_lt _ _ h⟩
  rw [sv_neg _ _ h, word_self x hx]
end Go.Proofs.Ytmdjlhmifhnpdaa.Fl
