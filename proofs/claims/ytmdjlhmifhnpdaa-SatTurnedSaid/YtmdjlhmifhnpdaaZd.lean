/- Texts of this seat, joined by a program of this session (wip/tools/pack.py). -/
import Derived.Test.YtmdjlhmifhnpdaaZf
import Derived.Test.YtmdjlhmifhnpdaaZa
import Derived.Test.YtmdjlhmifhnpdaaZb
namespace Go.Proofs.Ytmdjlhmifhnpdaa.Fl
set_option linter.unusedVariables false
set_option linter.unusedSimpArgs false
open Ieee Go.Proofs.YtmdjlhmifhnpdaaW.PrintWords Go.Proofs.Ytmdjlhmifhnpdaa.B Go.RowKit

def top : Nat := 9218868437227405311
def W (x : Nat) : Prop := x < 18446744073709551616
/-- Tame. -/
def tame (x : Nat) : Nat := if inf < rung x then 0 else if rung x = inf then word (sgn x) top else x
theorem top_lt : top < 9223372036854775808 := by decide
theorem inf_lt : inf < 9223372036854775808 := by decide
theorem top_inf : top + 1 = inf := by decide
theorem rung_small (r : Nat) (h : r < 9223372036854775808) : rung r = r ∧ sgn r = false := ⟨rung_word false r h, sgn_word false r h⟩
theorem sv_small (r : Nat) (h : r < 9223372036854775808) : sv r = (V r : Int) := sv_word false r h

theorem abs_f (x : Nat) (hx : W x) : math_Abs.f x = some (rung x) := by
  unfold math_Abs.f
  rw [bits_abs x hx]; rfl
theorem gt_top (r : Nat) (h : r ≤ inf) : fGt r 9218868437227405311 = decide (r = inf) := by
  have hi := inf_lt
  obtain ⟨a, b⟩ := rung_small r (by omega)
  rw [gt_eq (by omega) (by decide), sv_small r (by omega)]
  have e : sv 9218868437227405311 = (V top : Int) := sv_small top top_lt
  rw [e, Bool.eq_iff_iff]
  simp only [decide_eq_true_eq]
  have := V_lt_iff top r
  have := top_inf
  omega
theorem isInf_f (x : Nat) (hx : W x) (h : rung x ≤ inf) : math_IsInf.f x 0 = some (decide (rung x = inf)) := by
  unfold math_IsInf.f
  rw [if_pos rfl, abs_f x hx, Option.bind_some, gt_top _ h]
theorem copysign_f (r x : Nat) (hr : r < 9223372036854775808) (hx : W x) : math_Copysign.f r x = some (word (sgn x) r) := by
  unfold math_Copysign.f
  rw [bits_abs r (by omega), bits_sign x hx, (rung_small r hr).1, bits_join' r (sgn x) hr]; rfl
theorem tame_f (x : Nat) (hx : W x) : weigh_Tame.f x = some (tame x) := by
  unfold weigh_Tame.f tame
  rw [ne_self]
  by_cases h : inf < rung x
  · rw [if_pos (decide_eq_true h), if_pos h]
  · rw [if_neg (by simpa using h), if_neg h, isInf_f x hx (by omega), Option.bind_some]
    have hc : math_Copysign.f 9218868437227405311 x = some (word (sgn x) top) := copysign_f top x top_lt hx
    by_cases g : rung x = inf
    · rw [if_pos (decide_eq_true g), if_pos g, hc]; rfl
    · rw [if_neg (by simpa using g), if_neg g]
theorem tame_W (x : Nat) (hx : W x) : W (tame x) := by
  unfold tame
  split
  · unfold W; omega
  · split
    · exact word_lt _ _ top_lt
    · exact hx
theorem tame_fin (x : Nat) : rung (tame x) < inf := by
  unfold tame
  split
  · decide
  · split
    · rw [rung_word _ _ top_lt]; decide
    · omega
theorem tame_of (x : Nat) (h : rung x < inf) : tame x = x := by
  unfold tame
  rw [if_neg (by omega), if_neg (by omega)]
theorem tame_tame (x : Nat) : tame (tame x) = tame x := tame_of _ (tame_fin x)
theorem tame_word (s : Bool) (r : Nat) : tame (word s (min r inf)) = word s (min r top) := by
  have hi := inf_lt
  have ht := top_inf
  have hr : rung (word s (min r inf)) = min r inf := rung_word s _ (by omega)
  unfold tame
  rw [if_neg (by omega), hr]
  by_cases h : min r inf = inf
  · rw [if_pos h, sgn_word _ _ (by omega)]; congr 1; omega
  · rw [if_neg h]; congr 1; omega

/-! ### the order -/
def K (x : Nat) : Int := if inf < rung x then -9223372036854775809 else if sgn x then -(rung x : Int) - 1 else (rung x : Int)
theorem K_nan (x : Nat) (h : inf < rung x) : K x = -9223372036854775809 := by unfold K; rw [if_pos h]
theorem K_word (s : Bool) (r : Nat) (h : r ≤ inf) : K (word s r) = if s then -(r : Int) - 1 else (r : Int) := by
  have hi := inf_lt
  unfold K
  rw [rung_word s r (by omega), sgn_word s r (by omega), if_neg (by omega)]
theorem K_ge (x : Nat) (h : rung x ≤ inf) : -9223372036854775809 < K x := by
  have hi := inf_lt
  unfold K
  rw [if_neg (by omega)]
  split <;> omega
theorem sv_lt_K (x y : Nat) (hx : rung x ≤ inf) (hy : rung y ≤ inf) (h : sv x < sv y) : K x < K y := by
  have nx : ¬ inf < rung x := by omega
  have ny : ¬ inf < rung y := by omega
  unfold K
  rw [if_neg nx, if_neg ny]
  unfold sv at h
  have a := V_lt_iff (rung x) (rung y)
  have b := V_lt_iff (rung y) (rung x)
  cases hs : sgn x <;> cases ht : sgn y <;> rw [hs, ht] at h <;> simp only [Bool.false_eq_true, if_false, if_true] at h ⊢ <;> omega
theorem sv_zero (x : Nat) (h : sv x = 0) : rung x = 0 := by
  have : V (rung x) = 0 := by unfold sv at h; split at h <;> omega
  by_cases g : rung x = 0
  · exact g
  · exact absurd this (V_ne _ g)
theorem sv_eq_K (x y : Nat) (hx : rung x ≤ inf) (hy : rung y ≤ inf) (h : sv x = sv y) (h0 : ¬ sv x = 0) : K x = K y := by
  have nx : ¬ inf < rung x := by omega
  have ny : ¬ inf < rung y := by omega
  unfold K
  rw [if_neg nx, if_neg ny]
  unfold sv at h h0
  have a := V_lt_iff (rung x) (rung y)
  have b := V_lt_iff (rung y) (rung x)
  cases hs : sgn x <;> cases ht : sgn y <;> rw [hs] at h h0 <;> rw [ht] at h <;> simp only [Bool.false_eq_true, if_false, if_true] at h h0 ⊢ <;> omega

theorem signbit_f (x : Nat) (hx : W x) : math_Signbit.f x = some (sgn x) := by
  unfold math_Signbit.f
  rw [sgn_ge x hx]
  congr 1
  rw [Bool.eq_iff_iff]
  simp only [decide_eq_true_eq]
  unfold W at hx
  unfold wrap64
  omega
theorem less_eq (a b : Nat) (ha : W a) (hb : W b) : lessB a b = decide (K a < K b) := by
  have hh : weigh_Less.f 1 a b = some (decide (K a < K b)) := by
    unfold weigh_Less.f
    rw [ne_self, ne_self]
    by_cases h1 : inf < rung b
    · rw [if_pos (decide_eq_true h1), K_nan b h1]
      have : -9223372036854775809 ≤ K a := by
        by_cases g : inf < rung a
        · rw [K_nan a g]; omega
        · have := K_ge a (by omega); omega
      rw [decide_eq_false (by omega)]
    · rw [if_neg (by simpa using h1)]
      have hb' : rung b ≤ inf := by omega
      by_cases h2 : inf < rung a
      · rw [if_pos (decide_eq_true h2), K_nan a h2, decide_eq_true (K_ge b hb')]
      · rw [if_neg (by simpa using h2)]
        have ha' : rung a ≤ inf := by omega
        have z : sv 0 = 0 := by decide
        have hj : ∀ x, x = (decide (sv a = 0) && decide (sv b = 0)) → weigh_Less.j0 1 a b x = some (decide (K a < K b)) := by
          intro x hx
          simp only [weigh_Less.j0]
          by_cases g : sv a = 0 ∧ sv b = 0
          · rw [if_pos (by rw [hx, decide_eq_true g.1, decide_eq_true g.2]; rfl), signbit_f a ha, signbit_f b hb, Option.bind_some, Option.bind_some]
            have ra := sv_zero a g.1
            have rb := sv_zero b g.2
            have ka : K a = if sgn a then -1 else 0 := by unfold K; rw [if_neg (by omega), ra]; rfl
            have kb : K b = if sgn b then -1 else 0 := by unfold K; rw [if_neg (by omega), rb]; rfl
            rw [ka, kb]
            cases sgn a <;> cases sgn b <;> rfl
          · rw [if_neg (by rw [hx]; simpa using g), lt_eq ha' hb']
            congr 1
            rw [Bool.eq_iff_iff]
            simp only [decide_eq_true_eq]
            constructor
            · exact sv_lt_K a b ha' hb'
            · intro hk
              rcases Int.lt_trichotomy (sv a) (sv b) with h | h | h
              · exact h
              · have h0 : ¬ sv a = 0 := fun e => g ⟨e, by omega⟩
                have := sv_eq_K a b ha' hb' h h0
                omega
              · have := sv_lt_K b a hb' ha' h
                omega
        have e1 : fEq a 0 = decide (sv a = 0) := by rw [eq_eq ha' (by decide), z]
        have e2 : fEq b 0 = decide (sv b = 0) := by rw [eq_eq hb' (by decide), z]
        by_cases h3 : sv a = 0
        · rw [if_pos (by rw [e1, decide_eq_true h3])]
          exact hj _ (by rw [e2, decide_eq_true h3]; rfl)
        · rw [if_neg (by rw [e1]; simpa using h3)]
          exact hj _ (by rw [decide_eq_false h3]; rfl)
  have := less_some a b
  rw [hh] at this
  exact (Option.some.inj this).symm
theorem less_f (k : Nat) (a b : Nat) (ha : W a) (hb : W b) : weigh_Less.f (k + 1) a b = some (decide (K a < K b)) := by
  rw [← less_eq a b ha hb]
  induction k with
  | zero => exact less_some a b
  | succ k ih => exact weigh_Less.mono a b (k + 1) _ ih
/-! ### sums -/
/-- The units that a number of units is rounded to (no more than the greatest). -/
def R (s : Int) : Int := if s < 0 then -(V (min (F 0 s.natAbs) top) : Int) else (V (min (F 0 s.natAbs) top) : Int)
theorem R_mono {a b : Int} (h : a ≤ b) : R a ≤ R b := by
  have m : ∀ {p q : Nat}, p ≤ q → V (min (F 0 p) top) ≤ V (min (F 0 q) top) := fun hpq => V_le (by have := F_mono 0 hpq; omega)
  unfold R
  by_cases ha : a < 0 <;> by_cases hb : b < 0
  · rw [if_pos ha, if_pos hb]; have := m (show b.natAbs ≤ a.natAbs by omega); omega
  · rw [if_pos ha, if_neg hb]; omega
  · omega
  · rw [if_neg ha, if_neg hb]; have := m (show a.natAbs ≤ b.natAbs by omega); omega
theorem R_sv (x : Nat) (h : rung x < inf) : R (sv x) = sv x := by
  have e : F 0 (sv x).natAbs = rung x := by rw [sv_abs]; have := F_exact 0 (rung x); rwa [Nat.pow_zero, Nat.mul_one] at this
  have ht := top_inf
  unfold R
  rw [e]
  have m : min (rung x) top = rung x := by omega
  rw [m]
  unfold sv
  have z : V 0 = 0 := rfl
  cases sgn x with
  | true =>
    simp only [if_true]
    by_cases g : V (rung x) = 0
    · rw [if_neg (by omega)]; omega
    · rw [if_pos (by omega)]
  | false => simp only [Bool.false_eq_true, if_false]; rw [if_neg (by omega)]
/-- Bump. -/
def bump (x y : Nat) : Nat := tame (addW (tame x) (tame y))
theorem sv_bump (x y : Nat) : sv (bump x y) = R (sv (tame x) + sv (tame y)) := by
  unfold bump addW
  rw [tame_word, sv_word _ _ (by have := top_lt; omega)]
  unfold R
  generalize sv (tame x) + sv (tame y) = s
  by_cases h0 : s = 0
  · subst h0
    have : min (F 0 (0 : Int).natAbs) top = 0 := by rw [show (0 : Int).natAbs = 0 from rfl, F_zero]; rfl
    rw [this]
    simp [V_zero]
  · rw [if_neg h0]
    by_cases h : s < 0
    · rw [if_pos (decide_eq_true h), if_pos h]
    · rw [if_neg (by simpa using h), if_neg h]
theorem add_ok (x y : Nat) (hx : rung x < inf) (hy : rung y < inf) : fAddOk x y = true ∧ fAdd x y = addW x y := by
  unfold fAddOk fAdd
  rw [add_fin x y hx hy]
  exact ⟨rfl, rfl⟩
theorem addW_W (x y : Nat) : W (addW x y) := word_lt _ _ (by have := inf_lt; omega)
theorem bump_f (x y : Nat) (hx : W x) (hy : W y) : weigh_Bump.f x y = some (bump x y) := by
  unfold weigh_Bump.f
  rw [tame_f x hx, Option.bind_some, tame_f y hy, Option.bind_some]
  obtain ⟨a, b⟩ := add_ok (tame x) (tame y) (tame_fin x) (tame_fin y)
  rw [if_pos a, b, tame_f _ (addW_W _ _)]; rfl
theorem bump_W (x y : Nat) : W (bump x y) := tame_W _ (addW_W _ _)
theorem bump_fin (x y : Nat) : rung (bump x y) < inf := tame_fin _
theorem addW_comm (x y : Nat) : addW x y = addW y x := by
  unfold addW
  rw [Int.add_comm, Bool.and_comm]
theorem wrap_succ {i : Int} (h0 : 0 ≤ i) (h1 : i < 9223372036854775807) : wrap64 (i + 1) = i + 1 := by unfold wrap64; omega
theorem rd_nat (l : List Nat) (i : Nat) : rdOf (0 : Nat) l (i : Int) = l.getD i 0 := by unfold rdOf; rw [Int.toNat_natCast]
theorem rdI_nat (l : List Int) (i : Nat) : rd l (i : Int) = l.getD i 0 := by unfold rd; rw [Int.toNat_natCast]
def Ws (l : List Nat) : Prop := ∀ x ∈ l, W x
theorem getD_mem {α : Type} (l : List α) (i : Nat) (d : α) (h : i < l.length) : l.getD i d ∈ l := by
  rw [List.getD_eq_getElem?_getD, List.getElem?_eq_getElem h]; exact List.getElem_mem h
theorem getD_of_lt {α : Type} (l : List α) (i : Nat) (d : α) (h : i < l.length) : l.getD i d = l[i] := by
  rw [List.getD_eq_getElem?_getD, List.getElem?_eq_getElem h]; rfl

/-! ### Rescale -/
def lim : Nat := 6103021453049119613
def less : Nat := 3110860544497550640
def farB (x : Nat) : Bool := decide (lim < rung (tame x))
def mulT (x : Nat) : Nat := mulW (tame x) less
def rescale (l : List Nat) : List Nat × Bool := if l.any farB then (l.map mulT, true) else (l.map tame, false)
theorem far_f (x : Nat) (hx : W x) : ∃ t, math_Abs.f (tame x) = some t ∧ fGt t 6103021453049119613 = farB x := by
  have hi := inf_lt
  have hf := tame_fin x
  refine ⟨_, abs_f _ (tame_W x hx), ?_⟩
  obtain ⟨a, b⟩ := rung_small (rung (tame x)) (by omega)
  have e1 : sv 6103021453049119613 = (V lim : Int) := sv_small lim (by decide)
  rw [gt_eq (by omega) (by decide), e1, sv_small _ (by omega)]
  unfold farB
  rw [Bool.eq_iff_iff]
  simp only [decide_eq_true_eq]
  have := V_lt_iff lim (rung (tame x))
  omega
theorem mul_ok (x : Nat) (hx : rung x < inf) : fMulOk x 3110860544497550640 = true ∧ fMul x 3110860544497550640 = mulW x less := by
  unfold fMulOk fMul
  rw [mul_fin x 3110860544497550640 hx (by decide)]
  exact ⟨rfl, rfl⟩
theorem W_getD (l : List Nat) (h : Ws l) (i : Nat) : W (l.getD i 0) := by
  by_cases hi : i < l.length
  · exact h _ (getD_mem l i 0 hi)
  · rw [List.getD_eq_getElem?_getD, List.getElem?_eq_none (by omega)]; show W 0; unfold W; omega
theorem set_app {α : Type} (a : List α) (n : Nat) (x y : α) (i : Nat) (h : a.length = i) : (a ++ List.replicate (n + 1) x).set i y = a ++ [y] ++ List.replicate n x := by
  rw [List.set_append, if_neg (by omega), show i - a.length = 0 by omega, List.replicate_succ, List.set_cons_zero, List.append_assoc]; rfl
theorem set_app2 {α : Type} (a b : List α) (x y : α) (i : Nat) (h : a.length = i) : (a ++ x :: b).set i y = a ++ [y] ++ b := by
  rw [List.set_append, if_neg (by omega), show i - a.length = 0 by omega, List.set_cons_zero, List.append_assoc]; rfl
theorem drop_cons {α : Type} (l : List α) (i : Nat) (d : α) (h : i < l.length) : l.drop i = l.getD i d :: l.drop (i + 1) := by
  rw [getD_of_lt l i d h, List.drop_eq_getElem_cons h]
theorem take_snoc {α : Type} (l : List α) (i : Nat) (d : α) (h : i < l.length) : l.take (i + 1) = l.take i ++ [l.getD i d] := by
  rw [getD_of_lt l i d h, List.take_succ_eq_append_getElem h]
theorem getD_mid {α : Type} (a b : List α) (x d : α) (i : Nat) (h : a.length = i) : (a ++ x :: b).getD i d = x := by
  rw [List.getD_eq_getElem?_getD, List.getElem?_append_right (by omega), show i - a.length = 0 by omega]; rfl

theorem resc_l1 (l : List Nat) (hl : l.length < 9223372036854775807) (far : Bool) (d : Nat) : ∀ (k i : Nat), l.length - i = d → i ≤ l.length → d < k →
    weigh_Rescale.l1 k ((l.take i).map (fun x => if far then mulT x else tame x) ++ (l.drop i).map tame) far (l.length : Int) (i : Int) = some (l.map (fun x => if far then mulT x else tame x), far) := by
  induction d with
  | zero =>
    intro k i hd hi hk
    obtain ⟨k, rfl⟩ : ∃ m, k = m + 1 := ⟨k - 1, by omega⟩
    simp only [weigh_Rescale.l1]
    rw [if_neg (by omega), List.take_of_length_le (by omega), List.drop_eq_nil_of_le (by omega), List.map_nil, List.append_nil]
  | succ d ih =>
    intro k i hd hi hk
    obtain ⟨k, rfl⟩ : ∃ m, k = m + 1 := ⟨k - 1, by omega⟩
    simp only [weigh_Rescale.l1]
    have hil : i < l.length := by omega
    have ha : ((l.take i).map (fun x => if far then mulT x else tame x)).length = i := by rw [List.length_map, List.length_take]; omega
    have hq : ((l.take i).map (fun x => if far then mulT x else tame x) ++ (l.drop i).map tame).length = l.length := by rw [List.length_append, ha, List.length_map, List.length_drop]; omega
    have hsn : ∀ g : Nat → Nat, (l.take (i + 1)).map g = (l.take i).map g ++ [g (l.getD i 0)] := fun g => by rw [take_snoc l i 0 hil, List.map_append]; rfl
    rw [if_pos (by omega), wrap_succ (by omega) (by omega)]
    have hrec := ih k (i + 1) (by omega) (by omega) (by omega)
    rw [hsn] at hrec
    cases far with
    | false =>
      rw [if_neg (by decide)]
      simp only [Bool.false_eq_true, if_false] at hrec ⊢
      have e : (l.take i).map (fun x => tame x) ++ (l.drop i).map tame = (l.take i).map (fun x => tame x) ++ [tame (l.getD i 0)] ++ (l.drop (i + 1)).map tame := by
        rw [drop_cons l i 0 hil, List.map_cons, List.append_assoc]; rfl
      rw [e]; exact hrec
    | true =>
      simp only [if_true] at hrec ha hq ⊢
      rw [if_pos (by omega), if_pos (by rw [hq]; omega), rd_nat, drop_cons l i 0 hil, List.map_cons, getD_mid _ _ _ _ _ ha, Int.toNat_natCast]
      obtain ⟨a, b⟩ := mul_ok (tame (l.getD i 0)) (tame_fin _)
      rw [if_pos a, b, set_app2 _ _ _ _ _ ha]
      exact hrec
theorem resc_l0 (l : List Nat) (hw : Ws l) (hl : l.length < 9223372036854775807) (d : Nat) : ∀ (k i : Nat), l.length - i = d → i ≤ l.length → d + l.length + 1 < k →
    weigh_Rescale.l0 k ((l.take i).map tame ++ List.replicate (l.length - i) 0) ((l.take i).any farB) l (l.length : Int) (i : Int) = some (rescale l) := by
  induction d with
  | zero =>
    intro k i hd hi hk
    obtain ⟨k, rfl⟩ : ∃ m, k = m + 1 := ⟨k - 1, by omega⟩
    simp only [weigh_Rescale.l0]
    have e1 : l.take i = l := List.take_of_length_le (by omega)
    have e2 : l.length - i = 0 := by omega
    rw [if_neg (by omega), e1, e2, List.replicate_zero, List.append_nil, List.length_map]
    have h := resc_l1 l hl (l.any farB) l.length k 0 (by omega) (by omega) (by omega)
    rw [List.take_zero, List.map_nil, List.nil_append, List.drop_zero] at h
    rw [show ((0 : Nat) : Int) = 0 from rfl] at h
    rw [h]
    unfold rescale
    cases l.any farB <;> simp
  | succ d ih =>
    intro k i hd hi hk
    obtain ⟨k, rfl⟩ : ∃ m, k = m + 1 := ⟨k - 1, by omega⟩
    simp only [weigh_Rescale.l0]
    have hil : i < l.length := by omega
    have ha : ((l.take i).map tame).length = i := by rw [List.length_map, List.length_take]; omega
    have hq : ((l.take i).map tame ++ List.replicate (l.length - i) 0).length = l.length := by rw [List.length_append, ha, List.length_replicate]; omega
    have hW := W_getD l hw i
    rw [if_pos (by omega), if_pos (by omega), if_pos (by omega), rd_nat, tame_f _ hW, Option.bind_some, if_pos (by rw [hq]; omega), Option.bind_some, Int.toNat_natCast, wrap_succ (by omega) (by omega)]
    have hr : l.length - i = (l.length - (i + 1)) + 1 := by omega
    rw [hr, set_app _ _ _ _ _ ha]
    have hrec := ih k (i + 1) (by omega) (by omega) (by omega)
    have e1 : (l.take (i + 1)).map tame = (l.take i).map tame ++ [tame (l.getD i 0)] := by rw [take_snoc l i 0 hil, List.map_append]; rfl
    have e2 : (l.take (i + 1)).any farB = ((l.take i).any farB || farB (l.getD i 0)) := by rw [take_snoc l i 0 hil, List.any_append]; simp
    rw [e1, e2] at hrec
    have e3 : rdOf (0 : Nat) ((l.take i).map tame ++ [tame (l.getD i 0)] ++ List.replicate (l.length - (i + 1)) 0) (i : Int) = tame (l.getD i 0) := by
      rw [rd_nat, List.append_assoc]; exact getD_mid _ _ _ _ _ ha
    cases hb : (l.take i).any farB with
    | true => rw [if_pos rfl]; rw [hb] at hrec; exact hrec
    | false =>
      rw [if_neg (by decide), e3]
      obtain ⟨t, ht, hg⟩ := far_f (l.getD i 0) hW
      rw [ht, Option.bind_some, hg]
      rw [hb] at hrec; exact hrec
theorem rescale_f (l : List Nat) (hw : Ws l) (hl : l.length ≤ 1000000) (k : Nat) (hk : 2 * l.length + 2 ≤ k) : weigh_Rescale.f k l = some (rescale l) := by
  unfold weigh_Rescale.f
  rw [if_pos (by omega), if_pos (by omega)]
  have := resc_l0 l hw (by omega) l.length k 0 (by omega) (by omega) (by omega)
  simpa using this

/-! ### Heavy -/
/-- h is the place of the greatest, the first such. -/
def Top (l : List Nat) (h : Nat) : Prop := h < l.length ∧ (∀ i, i < l.length → K (l.getD i 0) ≤ K (l.getD h 0)) ∧ ∀ i, i < h → K (l.getD i 0) < K (l.getD h 0)
theorem heavyK_top (l : List Nat) (hw : Ws l) (n : Nat) : 0 < n → ∃ h : Nat, heavyK l n = (h : Int) ∧ h < n ∧ (∀ i, i < n → K (l.getD i 0) ≤ K (l.getD h 0)) ∧ ∀ i, i < h → K (l.getD i 0) < K (l.getD h 0) := by
  induction n with
  | zero => intro h; omega
  | succ n ih =>
    intro _
    have hs : heavyK l (n + 1) = if heavyK l n < 0 ∨ lessB (rdOf (0 : Nat) l (heavyK l n)) (rdOf (0 : Nat) l n) = true then (n : Int) else heavyK l n := rfl
    by_cases h0 : n = 0
    · subst h0
      refine ⟨0, ?_, by omega, ?_, by intro i hi; omega⟩
      · rw [hs, if_pos (Or.inl (by show (-1 : Int) < 0; omega))]
      · intro i hi; obtain rfl : i = 0 := by omega
        exact Int.le_refl _
    · obtain ⟨h, e, hn, ha, hb⟩ := ih (by omega)
      rw [e, rd_nat, rd_nat, less_eq _ _ (W_getD l hw h) (W_getD l hw n)] at hs
      by_cases c : K (l.getD h 0) < K (l.getD n 0)
      · refine ⟨n, ?_, by omega, ?_, ?_⟩
        · rw [hs, if_pos (Or.inr (decide_eq_true c))]
        · intro i hi
          by_cases g : i = n
          · subst g; exact Int.le_refl _
          · have := ha i (by omega); omega
        · intro i hi; have := ha i (by omega); omega
      · refine ⟨h, ?_, by omega, ?_, hb⟩
        · rw [hs, if_neg (by simp only [decide_eq_true_eq]; omega)]
        · intro i hi
          by_cases g : i = n
          · subst g; omega
          · exact ha i (by omega)
theorem heavy_f (l : List Nat) (hw : Ws l) (hl : l.length ≤ 1000000) : (l = [] ∧ weigh_Heavy.f l = some (-1)) ∨ ∃ h : Nat, weigh_Heavy.f l = some (h : Int) ∧ Top l h := by
  unfold weigh_Heavy.f
  rw [if_pos (by omega)]
  by_cases h0 : l.length = 0
  · have : l = [] := List.eq_nil_of_length_eq_zero h0
    subst this; exact Or.inl ⟨rfl, rfl⟩
  · obtain ⟨h, e, hn, ha, hb⟩ := heavyK_top l hw l.length (by omega)
    exact Or.inr ⟨h, by rw [e], hn, ha, hb⟩
theorem Top.unique {l : List Nat} {a b : Nat} (ha : Top l a) (hb : Top l b) : a = b := by
  obtain ⟨a1, a2, a3⟩ := ha
  obtain ⟨b1, b2, b3⟩ := hb
  rcases Nat.lt_trichotomy a b with h | h | h
  · have := b3 a h; have := a2 b b1; omega
  · exact h
  · have := a3 b h; have := b2 a a1; omega

/-! ### the reference's Heavy -/

/-- Decay. -/
def decay (x : Nat) : Nat := tame (fDiv (tame x) 4606732058837280358)
theorem div_ok (x : Nat) (hx : rung x < inf) : fDivOk x 4606732058837280358 = true ∧ W (fDiv x 4606732058837280358) := by
  obtain ⟨t, M, e, _⟩ := div_c95 x hx
  unfold fDivOk fDiv
  have e' : Ieee.double.div x 4606732058837280358 = some (word (sgn x) (min (F t M) inf)) := e
  rw [e']
  exact ⟨rfl, word_lt _ _ (by have := inf_lt; omega)⟩
theorem decay_f (x : Nat) (hx : W x) : weigh_Decay.f x = some (decay x) := by
  unfold weigh_Decay.f decay
  obtain ⟨a, b⟩ := div_ok (tame x) (tame_fin x)
  rw [tame_f x hx, Option.bind_some, if_pos a, tame_f _ b]; rfl
theorem decay_W (x : Nat) : W (decay x) := tame_W _ (div_ok _ (tame_fin x)).2
theorem decay_fin (x : Nat) : rung (decay x) < inf := tame_fin _
def row (b : Bool) (x : Nat) : Nat := if b then mulT x else tame x
theorem rescale_row (l : List Nat) : rescale l = (l.map (row (l.any farB)), l.any farB) := by
  unfold rescale row
  cases l.any farB <;> simp
theorem mulT_eq (x : Nat) : mulT x = word (sgn (tame x)) (min (F 1074 (V (rung (tame x)) * V less)) inf) := by
  unfold mulT mulW
  have e : rung less = less := by decide
  have e2 : sgn less = false := by decide
  rw [e, e2, Bool.xor_false]
theorem mul_mono {a b : Nat} (h : a ≤ b) : F 1074 (V a * V less) ≤ F 1074 (V b * V less) := F_mono _ (Nat.mul_le_mul_right _ (V_le h))
theorem mul_top : F 1074 (V top * V less) ≤ 7748537163665533883 := by decide +kernel
theorem mul_bd (x : Nat) : F 1074 (V (rung (tame x)) * V less) ≤ 7748537163665533883 := Nat.le_trans (mul_mono (show rung (tame x) ≤ top by have := tame_fin x; have := top_inf; omega)) mul_top
theorem mulT_rung (x : Nat) : rung (mulT x) ≤ 7748537163665533883 := by
  have := mul_bd x
  have hi := inf_lt
  rw [mulT_eq, rung_word _ _ (by omega)]
  omega
theorem row_W (b : Bool) (x : Nat) (hx : W x) : W (row b x) := by
  unfold row
  split
  · rw [mulT_eq]; exact word_lt _ _ (by have := inf_lt; omega)
  · exact tame_W x hx
def Fin (x : Nat) : Prop := W x ∧ rung x < inf
theorem Fin.ne {x : Nat} (h : Fin x) : fNe x x = false := by rw [ne_self]; exact decide_eq_false (by have := h.2; omega)
theorem bump_Fin (x y : Nat) : Fin (bump x y) := ⟨bump_W x y, bump_fin x y⟩
theorem row_Fin (b : Bool) (x : Nat) (hx : W x) : Fin (row b x) := by
  refine ⟨row_W b x hx, ?_⟩
  unfold row
  split
  · have := mulT_rung x; unfold inf; omega
  · exact tame_fin x
theorem rescale_Fin (l : List Nat) (hl : ∀ x ∈ l, Fin x) : (rescale l).1.length = l.length ∧ ∀ x ∈ (rescale l).1, Fin x := by
  rw [rescale_row]
  refine ⟨List.length_map _, fun x hx => ?_⟩
  obtain ⟨y, hy, rfl⟩ := List.mem_map.1 hx
  exact row_Fin _ _ (hl y hy).1

end Go.Proofs.Ytmdjlhmifhnpdaa.Fl
namespace Go.Proofs.Ytmdjlhmifhnpdaa.SatW
set_option linter.unusedVariables false
set_option linter.unusedSimpArgs false
open Go.RowKit Go.Proofs.YtmdjlhmifhnpdaaW.PrintWords Go.Proofs.YtmdjlhmifhnpdaaW.PrintLast Go.Proofs.Ytmdjlhmifhnpdaa.B

/-! ### Valuations -/
def Val (F : Int → Int) : Prop := (∀ x, F (-x) = - F x) ∧ ∀ x, F x = 1 ∨ F x = -1 ∨ F x = 0
def IdleF (F : Int → Int) (c : List Int) : Prop := (∃ x ∈ c, F x = 1) ∨ ∃ x ∈ c, ∃ y ∈ c, x ≠ y ∧ F x = 0 ∧ F y = 0
def Rup (L : List (List Int)) (c : List Int) : Prop := ¬ ∃ F, Val F ∧ (∀ x ∈ c, F x = -1) ∧ ∀ d ∈ L, IdleF F d
/-- What a trail says of a literal. -/
def tv (t : List Int) (x : Int) : Int := if x ∈ t then 1 else if -x ∈ t then -1 else 0
def lit (n : Nat) (x : Int) : Prop := x ≠ 0 ∧ -(n : Int) ≤ x ∧ x ≤ n
theorem tv_cases (t : List Int) (x : Int) : tv t x = 1 ∨ tv t x = -1 ∨ tv t x = 0 := by
  unfold tv; split
  · exact Or.inl rfl
  · split
    · exact Or.inr (Or.inl rfl)
    · exact Or.inr (Or.inr rfl)
theorem tv_one {t : List Int} {x : Int} : tv t x = 1 ↔ x ∈ t := by
  unfold tv; split
  · simp [*]
  · split <;> simp [*]
theorem tv_zero {t : List Int} {x : Int} : tv t x = 0 ↔ x ∉ t ∧ -x ∉ t := by
  unfold tv; split
  · simp [*]
  · split <;> simp [*]
theorem tv_neg {t : List Int} {x : Int} : tv t x = -1 → -x ∈ t := by
  unfold tv; split
  · intro h; omega
  · split
    · intro _; assumption
    · intro h; omega
theorem sizeI_neg (x : Int) : sizeI (-x) = sizeI x := by unfold sizeI; split <;> split <;> omega
theorem sizeI_eq {x y : Int} (h : sizeI x = sizeI y) : x = y ∨ x = -y := by unfold sizeI at h; split at h <;> split at h <;> omega
theorem map_inj_of_nodup {l : List Int} (h : (l.map sizeI).Nodup) {x y : Int} (hx : x ∈ l) (hy : y ∈ l) (e : sizeI x = sizeI y) : x = y := by
  induction l with
  | nil => cases hx
  | cons a l ih =>
    rw [List.map_cons, List.nodup_cons] at h
    obtain ⟨h1, h2⟩ := h
    rcases List.mem_cons.1 hx with e1 | hx
    · rcases List.mem_cons.1 hy with e2 | hy
      · rw [e1, e2]
      · exact absurd (List.mem_map.2 ⟨y, hy, by rw [← e, e1]⟩) h1
    · rcases List.mem_cons.1 hy with e2 | hy
      · exact absurd (List.mem_map.2 ⟨x, hx, by rw [e, e2]⟩) h1
      · exact ih h2 hx hy
/-- A trail: different variables. -/
structure Tr (n : Nat) (t : List Int) : Prop where
  tin : ∀ x ∈ t, lit n x
  nod : (t.map sizeI).Nodup
theorem Tr.cons_not {n : Nat} {t : List Int} (h : Tr n t) {x : Int} (hx : x ∈ t) : -x ∉ t := by
  intro hn
  have := map_inj_of_nodup h.nod hx hn (sizeI_neg x).symm
  have := (h.tin x hx).1
  omega
theorem Tr.neg_iff {n : Nat} {t : List Int} (h : Tr n t) {x : Int} : tv t x = -1 ↔ -x ∈ t := by
  refine ⟨tv_neg, fun hx => ?_⟩
  have h1 := h.cons_not hx
  rw [Int.neg_neg] at h1
  unfold tv
  rw [if_neg h1, if_pos hx]
theorem Tr.val {n : Nat} {t : List Int} (h : Tr n t) : Val (tv t) := by
  refine ⟨fun x => ?_, tv_cases t⟩
  by_cases h1 : x ∈ t
  · rw [tv_one.2 h1, h.neg_iff.2 (by rw [Int.neg_neg]; exact h1)]
  · by_cases h2 : -x ∈ t
    · rw [tv_one.2 h2, h.neg_iff.2 h2]; rfl
    · rw [tv_zero.2 ⟨h1, h2⟩, tv_zero.2 ⟨h2, by rw [Int.neg_neg]; exact h1⟩]; rfl
theorem Tr.take {n : Nat} {t : List Int} (h : Tr n t) (j : Nat) : Tr n (t.take j) :=
  ⟨fun x hx => h.tin x (List.mem_of_mem_take hx), h.nod.sublist ((List.take_sublist j t).map _)⟩
theorem nodup_bound : ∀ (n : Nat) (l : List Int), l.Nodup → (∀ x ∈ l, 1 ≤ x ∧ x ≤ (n : Int)) → l.length ≤ n
  | 0, l, _, h => by
    cases l with
    | nil => exact Nat.le_refl _
    | cons x l => have := h x (by simp); omega
  | n + 1, l, hn, h => by
    have h1 := nodup_bound n (l.erase ((n : Int) + 1)) (hn.erase _) (fun x hx => by
      have h2 := (hn.mem_erase_iff.1 hx)
      have h3 := h x h2.2
      have := h2.1
      omega)
    have h2 := List.le_length_erase (l := l) (a := (n : Int) + 1)
    omega
theorem sizeI_lit {n : Nat} {x : Int} (h : lit n x) : 1 ≤ sizeI x ∧ sizeI x ≤ (n : Int) := by
  obtain ⟨h1, h2, h3⟩ := h
  unfold sizeI; split <;> omega
theorem Tr.len {n : Nat} {t : List Int} (h : Tr n t) : t.length ≤ n := by
  have := nodup_bound n (t.map sizeI) h.nod (fun x hx => by
    obtain ⟨y, hy, rfl⟩ := List.mem_map.1 hx
    exact sizeI_lit (h.tin y hy))
  rwa [List.length_map] at this
theorem unitF_spec {val t : List Int} {n : Nat} : ∀ (c : List Int) (o : Int), (∀ x ∈ c, lit n x ∧ ofO val x = some (tv t x)) → (o = 0 ∨ tv t o = 0) → ∃ r w, unitF val c o = some (r, w) ∧
    ((w = true ∧ r = 0 ∧ o = 0 ∧ ∀ x ∈ c, tv t x = -1) ∨ (w = false ∧ r = 0 ∧ ((∃ x ∈ c, tv t x = 1) ∨ ∃ x ∈ c, tv t x = 0 ∧ ∃ y, (y ∈ c ∨ y = o) ∧ y ≠ x ∧ tv t y = 0 ∧ y ≠ 0)) ∨
      (w = false ∧ r ≠ 0 ∧ tv t r = 0 ∧ (r ∈ c ∨ r = o) ∧ (o ≠ 0 → r = o) ∧ ∀ x ∈ c, x ≠ r → tv t x = -1))
  | [], o, _, ho => by
    refine ⟨o, o == 0, rfl, ?_⟩
    by_cases h : o = 0
    · subst h
      exact Or.inl ⟨rfl, rfl, rfl, by simp⟩
    · exact Or.inr (Or.inr ⟨by simpa using h, h, ho.resolve_left h, Or.inr rfl, fun _ => rfl, by simp⟩)
  | m :: c, o, hc, ho => by
    obtain ⟨hm, hv⟩ := hc m (by simp)
    have hc' : ∀ x ∈ c, lit n x ∧ ofO val x = some (tv t x) := fun x hx => hc x (by simp [hx])
    rw [unitF, hv, Option.bind_some]
    by_cases c1 : 0 < tv t m
    · rw [if_pos c1]
      refine ⟨0, false, rfl, Or.inr (Or.inl ⟨rfl, rfl, Or.inl ⟨m, by simp, ?_⟩⟩)⟩
      rcases tv_cases t m with h | h | h <;> omega
    · rw [if_neg c1]
      by_cases c2 : tv t m < 0 ∨ m = o
      · rw [if_pos c2]
        obtain ⟨r, w, h1, h2⟩ := unitF_spec c o hc' ho
        refine ⟨r, w, h1, ?_⟩
        have hm1 : m ≠ o → tv t m = -1 := fun h => by
          rcases tv_cases t m with k | k | k
          · omega
          · exact k
          · rcases c2 with c2 | c2
            · omega
            · exact absurd c2 h
        rcases h2 with ⟨a1, a2, a3, a4⟩ | ⟨a1, a2, a3⟩ | ⟨a1, a2, a3, a4, a5, a6⟩
        · refine Or.inl ⟨a1, a2, a3, fun x hx => ?_⟩
          rcases List.mem_cons.1 hx with rfl | hx
          · exact hm1 (by rw [a3]; exact hm.1)
          · exact a4 x hx
        · refine Or.inr (Or.inl ⟨a1, a2, ?_⟩)
          rcases a3 with ⟨x, hx, e⟩ | ⟨x, hx, e, y, hy, e2⟩
          · exact Or.inl ⟨x, by simp [hx], e⟩
          · exact Or.inr ⟨x, by simp [hx], e, y, hy.imp (fun h => by simp [h]) id, e2⟩
        · refine Or.inr (Or.inr ⟨a1, a2, a3, a4.imp (fun h => by simp [h]) id, a5, fun x hx hne => ?_⟩)
          rcases List.mem_cons.1 hx with rfl | hx
          · refine hm1 (fun e => ?_)
            subst e
            exact hne (a5 hm.1).symm
          · exact a6 x hx hne
      · rw [if_neg c2]
        have hz : tv t m = 0 := by rcases tv_cases t m with k | k | k <;> omega
        by_cases c3 : o = 0
        · rw [if_pos c3]
          obtain ⟨r, w, h1, h2⟩ := unitF_spec c m hc' (Or.inr hz)
          refine ⟨r, w, h1, ?_⟩
          rcases h2 with ⟨a1, a2, a3, a4⟩ | ⟨a1, a2, a3⟩ | ⟨a1, a2, a3, a4, a5, a6⟩
          · exact absurd a3 hm.1
          · refine Or.inr (Or.inl ⟨a1, a2, ?_⟩)
            rcases a3 with ⟨x, hx, e⟩ | ⟨x, hx, e, y, hy, e2⟩
            · exact Or.inl ⟨x, by simp [hx], e⟩
            · refine Or.inr ⟨x, by simp [hx], e, y, Or.inl ?_, e2⟩
              rcases hy with hy | hy <;> simp [hy]
          · have := a5 hm.1
            subst this
            refine Or.inr (Or.inr ⟨a1, a2, a3, Or.inl (by simp), fun h => absurd c3 h, fun x hx hne => ?_⟩)
            rcases List.mem_cons.1 hx with rfl | hx
            · exact absurd rfl hne
            · exact a6 x hx hne
        · rw [if_neg c3]
          exact ⟨0, false, rfl, Or.inr (Or.inl ⟨rfl, rfl, Or.inr ⟨m, by simp, hz, o, Or.inr rfl, fun e => c2 (Or.inr e.symm), ho.resolve_left c3, c3⟩⟩)⟩
theorem scanF_spec {val t : List Int} {n : Nat} : ∀ (cs : List (List Int)) (i : Int), (∀ c ∈ cs, ∀ x ∈ c, lit n x ∧ ofO val x = some (tv t x)) → ∃ q o w, scanF val cs i = some (q, o, w) ∧
    ((q = -1 ∧ o = 0 ∧ w = false ∧ ∀ c ∈ cs, IdleF (tv t) c) ∨ (∃ (j : Nat) (c : List Int), q = i + j ∧ cs[j]? = some c ∧ w = true ∧ ∀ x ∈ c, tv t x = -1) ∨
      ∃ (j : Nat) (c : List Int), q = i + j ∧ cs[j]? = some c ∧ w = false ∧ o ≠ 0 ∧ o ∈ c ∧ tv t o = 0 ∧ ∀ x ∈ c, x ≠ o → tv t x = -1)
  | [], i, _ => ⟨-1, 0, false, rfl, Or.inl ⟨rfl, rfl, rfl, by simp⟩⟩
  | c :: cs, i, h => by
    obtain ⟨r, w, h1, h2⟩ := unitF_spec c 0 (h c (by simp)) (Or.inl rfl)
    rw [scanF, h1, Option.bind_some]
    rcases h2 with ⟨rfl, rfl, _, a4⟩ | ⟨rfl, rfl, a3⟩ | ⟨rfl, a2, a3, a4, a5, a6⟩
    · rw [if_pos rfl]
      exact ⟨i, 0, true, rfl, Or.inr (Or.inl ⟨0, c, by omega, rfl, rfl, a4⟩)⟩
    · rw [if_neg (by simp), if_pos rfl]
      obtain ⟨q, o, w, k1, k2⟩ := scanF_spec cs (i + 1) (fun d hd => h d (by simp [hd]))
      refine ⟨q, o, w, k1, ?_⟩
      rcases k2 with ⟨b1, b2, b3, b4⟩ | ⟨j, d, b1, b2, b3⟩ | ⟨j, d, b1, b2, b3⟩
      · refine Or.inl ⟨b1, b2, b3, fun d hd => ?_⟩
        rcases List.mem_cons.1 hd with rfl | hd
        · rcases a3 with a3 | ⟨x, hx, e, y, hy, e1, e2, e3⟩
          · exact Or.inl a3
          · exact Or.inr ⟨x, hx, y, hy.resolve_right e3, fun e => e1 e.symm, e, e2⟩
        · exact b4 d hd
      · exact Or.inr (Or.inl ⟨j + 1, d, by omega, b2, b3⟩)
      · exact Or.inr (Or.inr ⟨j + 1, d, by omega, b2, b3⟩)
    · rw [if_neg (by simp), if_neg a2]
      exact ⟨i, r, false, rfl, Or.inr (Or.inr ⟨0, c, by omega, rfl, rfl, a2, a4.resolve_right a2, a3, a6⟩)⟩

end Go.Proofs.Ytmdjlhmifhnpdaa.SatW
namespace Go.Proofs.Ytmdjlhmifhnpdaa.SatW
set_option linter.unusedVariables false
set_option linter.unusedSimpArgs false
open Go.RowKit Go.Proofs.YtmdjlhmifhnpdaaW.PrintWords Go.Proofs.YtmdjlhmifhnpdaaW.PrintLast Go.Proofs.Ytmdjlhmifhnpdaa.B

/-! ### The solver's invariant -/
def lvl (ch : List Int) (j : Nat) : Int := ((ch.filter fun d => decide (d ≤ (j : Int))).length : Int)
structure Inv (n : Nat) (s : St) : Prop where
  vlen : s.value.length = n + 1
  llen : s.level.length = n + 1
  rlen : s.reason.length = n + 1
  wlen : s.weights.length = n + 1
  nb : n ≤ 10000
  tr : Tr n s.trail
  cin : ∀ c ∈ s.clauses, ∀ x ∈ c, lit n x
  val : ∀ v : Nat, v ≤ n → s.value[v]? = some (tv s.trail v)
  chs : s.chosen.Pairwise (· < ·)
  chb : ∀ d ∈ s.chosen, 0 ≤ d ∧ d < (s.trail.length : Int)
  lev : ∀ (j : Nat) (x : Int), s.trail[j]? = some x → s.level[(sizeI x).toNat]? = some (lvl s.chosen j)
  rea : ∀ (j : Nat) (x : Int), s.trail[j]? = some x → (j : Int) ∈ s.chosen ∨ ∃ (q : Nat) (c : List Int), s.reason[(sizeI x).toNat]? = some (q : Int) ∧ s.clauses[q]? = some c ∧ x ∈ c ∧ ∀ y ∈ c, y ≠ x → -y ∈ s.trail.take j
  dec : ∀ d ∈ s.chosen, ∀ c ∈ s.clauses, IdleF (tv (s.trail.take d.toNat)) c
  wok : ∀ w ∈ s.weights, Fl.Fin w
  bok : Fl.W s.by_
theorem Inv.ofv {n : Nat} {s : St} (I : Inv n s) {x : Int} (hx : lit n x) : ofO s.value x = some (tv s.trail x) := by
  obtain ⟨h1, h2, h3⟩ := hx
  unfold ofO
  by_cases c : x < 0
  · rw [if_pos c]
    have := I.val (-x).toNat (by omega)
    unfold gi
    rw [if_pos (by omega), this, Option.map_some]
    rw [show (((-x).toNat : Nat) : Int) = -x by omega, I.tr.val.1, Int.neg_neg]
  · rw [if_neg c]
    have := I.val x.toNat (by omega)
    unfold gi
    rw [if_pos (by omega), this]
    rw [show ((x.toNat : Nat) : Int) = x by omega]
theorem sizeI_toNat {x : Int} : ((sizeI x).toNat : Int) = sizeI x := by unfold sizeI; split <;> omega
theorem getElem?_snoc {α : Type} {l : List α} {a x : α} {j : Nat} (h : (l ++ [a])[j]? = some x) : (j < l.length ∧ l[j]? = some x) ∨ (j = l.length ∧ x = a) := by
  by_cases c : j < l.length
  · rw [List.getElem?_append_left c] at h
    exact Or.inl ⟨c, h⟩
  · rw [List.getElem?_append_right (by omega)] at h
    have hj : j - l.length = 0 := by
      have := (List.getElem?_eq_some_iff.1 h).1
      simp at this; omega
    rw [hj] at h
    refine Or.inr ⟨by omega, ?_⟩
    simpa using h.symm
theorem Tr.snoc {n : Nat} {t : List Int} (h : Tr n t) {x : Int} (hx : lit n x) (ho : tv t x = 0) : Tr n (t ++ [x]) := by
  obtain ⟨o1, o2⟩ := tv_zero.1 ho
  refine ⟨fun y hy => ?_, ?_⟩
  · rcases List.mem_append.1 hy with hy | hy
    · exact h.tin y hy
    · rw [List.mem_singleton.1 hy]; exact hx
  · rw [List.map_append, List.nodup_append]
    refine ⟨h.nod, by simp, fun a ha b hb e => ?_⟩
    obtain ⟨y, hy, rfl⟩ := List.mem_map.1 ha
    rw [List.map_singleton, List.mem_singleton] at hb
    rcases sizeI_eq (e.trans hb) with e | e
    · exact o1 (e ▸ hy)
    · exact o2 (e ▸ hy)
theorem set_inv {n : Nat} {s : St} {x r : Int} {ch : List Int} (I : Inv n s) (hx : lit n x) (ho : tv s.trail x = 0)
    (hch : (ch = s.chosen ∧ ∃ (q : Nat) (c : List Int), r = q ∧ s.clauses[q]? = some c ∧ x ∈ c ∧ ∀ y ∈ c, y ≠ x → -y ∈ s.trail) ∨ (ch = s.chosen ++ [(s.trail.length : Int)] ∧ ∀ c ∈ s.clauses, IdleF (tv s.trail) c)) :
    ∃ s', setF { s with chosen := ch } x r = some s' ∧ Inv n s' ∧ s'.trail = s.trail ++ [x] ∧ s'.chosen = ch ∧ s'.clauses = s.clauses ∧ s'.lemmas = s.lemmas ∧ s'.weights = s.weights ∧ s'.by_ = s.by_ := by
  obtain ⟨z1, z2⟩ := sizeI_lit hx
  have hlen := I.tr.len
  have hT := I.tr.snoc hx ho
  have hcs : ∀ d ∈ s.chosen, 0 ≤ d ∧ d < (s.trail.length : Int) := I.chb
  have hsub : ∀ d ∈ ch, d ∈ s.chosen ∨ d = (s.trail.length : Int) := by
    rcases hch with ⟨rfl, _⟩ | ⟨rfl, _⟩
    · exact fun d hd => Or.inl hd
    · intro d hd
      rcases List.mem_append.1 hd with hd | hd
      · exact Or.inl hd
      · exact Or.inr (List.mem_singleton.1 hd)
  have hmono : ∀ d ∈ s.chosen, d ∈ ch := by
    rcases hch with ⟨rfl, _⟩ | ⟨rfl, _⟩
    · exact fun d hd => hd
    · exact fun d hd => by simp [hd]
  have hlv : ∀ j : Nat, j < s.trail.length → lvl ch j = lvl s.chosen j := by
    intro j hj
    rcases hch with ⟨rfl, _⟩ | ⟨rfl, _⟩
    · rfl
    · unfold lvl
      have : decide ((s.trail.length : Int) ≤ (j : Int)) = false := decide_eq_false (by omega)
      rw [List.filter_append, List.filter_cons_of_neg (by rw [this]; simp), List.filter_nil, List.append_nil]
  have hlv2 : lvl ch s.trail.length = (ch.length : Int) := by
    unfold lvl
    rw [List.filter_eq_self.2]
    intro d hd
    rcases hsub d hd with h | h
    · have := (hcs d h).2; simp; omega
    · simp [h]
  have hne : ∀ y ∈ s.trail, sizeI y ≠ sizeI x := by
    intro y hy e
    obtain ⟨o1, o2⟩ := tv_zero.1 ho
    rcases sizeI_eq e with e | e
    · exact o1 (e ▸ hy)
    · exact o2 (e ▸ hy)
  have hne' : ∀ y ∈ s.trail, (sizeI x).toNat ≠ (sizeI y).toNat := by
    intro y hy e
    refine hne y hy ?_
    have h1 := sizeI_lit (I.tr.tin y hy)
    omega
  refine ⟨{ s with chosen := ch, value := s.value.set (sizeI x).toNat (if x < 0 then -1 else 1), level := s.level.set (sizeI x).toNat ch.length, reason := s.reason.set (sizeI x).toNat r, trail := s.trail ++ [x] }, ?_, ?_, rfl, rfl, rfl, rfl, rfl, rfl⟩
  · unfold setF
    rw [if_pos ⟨by show sizeI x < (s.value.length : Int); rw [I.vlen]; omega, by show sizeI x < (s.level.length : Int); rw [I.llen]; omega, by show sizeI x < (s.reason.length : Int); rw [I.rlen]; omega, by show s.trail.length < lim; have := I.nb; unfold lim; omega⟩]
  · refine ⟨?_, ?_, ?_, I.wlen, I.nb, hT, I.cin, ?_, ?_, ?_, ?_, ?_, ?_, I.wok, I.bok⟩
    · show (s.value.set _ _).length = _
      rw [List.length_set]; exact I.vlen
    · show (s.level.set _ _).length = _
      rw [List.length_set]; exact I.llen
    · show (s.reason.set _ _).length = _
      rw [List.length_set]; exact I.rlen
    · intro v hv
      show (s.value.set _ _)[v]? = some (tv (s.trail ++ [x]) v)
      rw [List.getElem?_set]
      by_cases e : (sizeI x).toNat = v
      · rw [if_pos e, if_pos (by rw [I.vlen]; omega)]
        congr 1
        have hs := @sizeI_toNat x
        rw [e] at hs
        by_cases c : x < 0
        · rw [if_pos c]
          symm
          rw [hT.neg_iff]
          have : -(v : Int) = x := by unfold sizeI at hs; rw [if_pos c] at hs; omega
          rw [this]; simp
        · rw [if_neg c]
          symm
          rw [tv_one]
          have : (v : Int) = x := by unfold sizeI at hs; rw [if_neg c] at hs; omega
          rw [this]; simp
      · rw [if_neg e, I.val v hv]
        congr 1
        have h1 : (v : Int) ≠ x := by rintro rfl; apply e; unfold sizeI; split <;> omega
        have h2 : -(v : Int) ≠ x := by rintro rfl; apply e; unfold sizeI; split <;> omega
        unfold tv
        simp [List.mem_append, h1, h2]
    · show ch.Pairwise (· < ·)
      rcases hch with ⟨rfl, _⟩ | ⟨rfl, _⟩
      · exact I.chs
      · rw [List.pairwise_append]
        refine ⟨I.chs, by simp, fun a ha b hb => ?_⟩
        rw [List.mem_singleton.1 hb]
        exact (hcs a ha).2
    · intro d hd
      show 0 ≤ d ∧ d < (((s.trail ++ [x]).length : Nat) : Int)
      rw [List.length_append, List.length_singleton]
      rcases hsub d hd with h | h
      · have := hcs d h; omega
      · omega
    · intro j y hj
      show (s.level.set _ _)[(sizeI y).toNat]? = some (lvl ch j)
      rcases getElem?_snoc hj with ⟨hj1, hj2⟩ | ⟨rfl, rfl⟩
      · rw [List.getElem?_set, if_neg (hne' y (List.mem_of_getElem? hj2)), I.lev j y hj2, hlv j hj1]
      · rw [List.getElem?_set, if_pos rfl, if_pos (by rw [I.llen]; omega), hlv2]
    · intro j y hj
      show (j : Int) ∈ ch ∨ ∃ (q : Nat) (c : List Int), (s.reason.set _ _)[(sizeI y).toNat]? = some (q : Int) ∧ s.clauses[q]? = some c ∧ y ∈ c ∧ ∀ z ∈ c, z ≠ y → -z ∈ (s.trail ++ [x]).take j
      rcases getElem?_snoc hj with ⟨hj1, hj2⟩ | ⟨rfl, rfl⟩
      · rcases I.rea j y hj2 with h | ⟨q, c, h1, h2, h3, h4⟩
        · exact Or.inl (hmono _ h)
        · refine Or.inr ⟨q, c, ?_, h2, h3, ?_⟩
          · rw [List.getElem?_set, if_neg (hne' y (List.mem_of_getElem? hj2))]; exact h1
          · rw [List.take_append_of_le_length (by omega)]; exact h4
      · rcases hch with ⟨rfl, q, c, rfl, h2, h3, h4⟩ | ⟨rfl, _⟩
        · refine Or.inr ⟨q, c, ?_, h2, h3, ?_⟩
          · rw [List.getElem?_set, if_pos rfl, if_pos (by rw [I.rlen]; omega)]
          · rw [List.take_append_of_le_length (Nat.le_refl _), List.take_length]; exact h4
        · exact Or.inl (by simp)
    · intro d hd c hc
      show IdleF (tv ((s.trail ++ [x]).take d.toNat)) c
      rcases hsub d hd with h | h
      · rw [List.take_append_of_le_length (by have := hcs d h; omega)]
        exact I.dec d h c hc
      · rcases hch with ⟨rfl, _⟩ | ⟨rfl, h2⟩
        · have := (hcs d hd).2; omega
        · subst h
          rw [Int.toNat_natCast, List.take_append_of_le_length (Nat.le_refl _), List.take_length]
          exact h2 c hc
/-! ### spread -/
theorem Inv.scan {n : Nat} {s : St} (I : Inv n s) : ∀ c ∈ s.clauses, ∀ x ∈ c, lit n x ∧ ofO s.value x = some (tv s.trail x) := fun c hc x hx => ⟨I.cin c hc x hx, I.ofv (I.cin c hc x hx)⟩
/-- What spread leaves. -/
structure Spread (s s' : St) (r : Int) : Prop where
  ext : ∃ u, s'.trail = s.trail ++ u
  ch : s'.chosen = s.chosen
  cl : s'.clauses = s.clauses
  lm : s'.lemmas = s.lemmas
  w : s'.weights = s.weights
  by_ : s'.by_ = s.by_
  ans : (r = -1 ∧ ∀ c ∈ s'.clauses, IdleF (tv s'.trail) c) ∨ ∃ (q : Nat) (c : List Int), r = q ∧ s'.clauses[q]? = some c ∧ ∀ x ∈ c, tv s'.trail x = -1
theorem spread_inv {n : Nat} : ∀ (k : Nat) (s : St), Inv n s → n < k + s.trail.length → ∃ s' r, spreadF k s = some (s', r) ∧ Inv n s' ∧ Spread s s' r
  | 0, s, I, h => by have := I.tr.len; omega
  | k + 1, s, I, h => by
    obtain ⟨q, o, w, h1, h2⟩ := scanF_spec (t := s.trail) (n := n) s.clauses 0 I.scan
    rw [spreadF, h1, Option.bind_some]
    rcases h2 with ⟨rfl, rfl, rfl, a4⟩ | ⟨j, c, rfl, a2, rfl, a4⟩ | ⟨j, c, rfl, a2, rfl, a4, a5, a6, a7⟩
    · rw [if_neg (by simp), if_pos rfl]
      exact ⟨s, -1, rfl, I, ⟨⟨[], by simp⟩, rfl, rfl, rfl, rfl, rfl, Or.inl ⟨rfl, a4⟩⟩⟩
    · rw [if_pos rfl]
      exact ⟨s, _, rfl, I, ⟨⟨[], by simp⟩, rfl, rfl, rfl, rfl, rfl, Or.inr ⟨j, c, by show (0 : Int) + j = j; omega, a2, a4⟩⟩⟩
    · rw [if_neg (by simp), if_neg a4]
      have hl := I.cin c (List.mem_of_getElem? a2) o a5
      obtain ⟨s1, k1, I1, b1, b2, b3, b4, b5, b6⟩ := set_inv (r := 0 + (j : Int)) (ch := s.chosen) I hl a6 (Or.inl ⟨rfl, j, c, by omega, a2, a5, fun y hy hne => tv_neg (a7 y hy hne)⟩)
      have k1' : setF s o (0 + (j : Int)) = some s1 := k1
      show ∃ s' r, (setF s o (0 + (j : Int))).bind (spreadF k) = some (s', r) ∧ _
      rw [k1', Option.bind_some]
      obtain ⟨s', r, m1, m2, m3⟩ := spread_inv k s1 I1 (by rw [b1, List.length_append, List.length_singleton]; omega)
      refine ⟨s', r, m1, m2, ?_⟩
      obtain ⟨u, hu⟩ := m3.ext
      exact ⟨⟨o :: u, by rw [hu, b1]; simp⟩, by rw [m3.ch, b2], by rw [m3.cl, b3], by rw [m3.lm, b4], by rw [m3.w, b5], by rw [m3.by_, b6], m3.ans⟩

end Go.Proofs.Ytmdjlhmifhnpdaa.SatW
namespace Go.Proofs.Ytmdjlhmifhnpdaa.SatW
set_option linter.unusedVariables false
set_option linter.unusedSimpArgs false
open Go.RowKit Go.Proofs.YtmdjlhmifhnpdaaW.PrintWords Go.Proofs.YtmdjlhmifhnpdaaW.PrintLast Go.Proofs.Ytmdjlhmifhnpdaa.B

/-! ### choose -/
theorem Inv.chl {n : Nat} {s : St} (I : Inv n s) : s.chosen.length ≤ n := by
  have hT := I.tr.len
  have h1 : (s.chosen.map (· + 1)).Nodup := by
    rw [List.Nodup, List.pairwise_map]
    exact I.chs.imp (fun h e => by omega)
  have := nodup_bound n (s.chosen.map (· + 1)) h1 (fun x hx => by
    obtain ⟨d, hd, rfl⟩ := List.mem_map.1 hx
    have := I.chb d hd
    omega)
  rwa [List.length_map] at this
theorem Inv.vget {n : Nat} {s : St} (I : Inv n s) (v : Nat) (hv : v ≤ n) : s.value.getD v 0 = tv s.trail v := by
  rw [List.getD_eq_getElem?_getD, I.val v hv]; rfl
theorem nan_ne : fNe nanBits nanBits = true := by
  rw [Fl.ne_self]
  exact decide_eq_true (by unfold nanBits Fl.inf Fl.rung; omega)
theorem nan_K : Fl.K nanBits = -9223372036854775809 := Fl.K_nan _ (by unfold nanBits Fl.inf Fl.rung; omega)
theorem nan_W : Fl.W nanBits := by unfold Fl.W nanBits; omega
theorem choose_spec {n : Nat} {s : St} (I : Inv n s) (hi : ∀ c ∈ s.clauses, IdleF (tv s.trail) c) : ∃ s' b, chooseF s = some (s', b) ∧
    ((b = false ∧ s' = s ∧ ∀ v : Nat, 1 ≤ v → v ≤ n → tv s.trail v ≠ 0) ∨
      (b = true ∧ Inv n s' ∧ ∃ x, lit n x ∧ tv s.trail x = 0 ∧ s'.trail = s.trail ++ [x] ∧ s'.chosen = s.chosen ++ [(s.trail.length : Int)] ∧ s'.clauses = s.clauses ∧ s'.lemmas = s.lemmas)) := by
  have hnb := I.nb
  have hcl := I.chl
  unfold chooseF
  rw [if_pos ⟨by rw [I.wlen]; omega, by rw [I.wlen, I.vlen]; exact Nat.le_refl _, by rw [I.wlen]; omega, by unfold lim; omega⟩]
  have hml : (maskK s.value s.weights s.weights.length).length = n + 1 := by rw [mask_len, I.wlen]
  have hat : ∀ v : Nat, v ≤ n → (maskK s.value s.weights s.weights.length)[v]? = some (if v = 0 ∨ tv s.trail v ≠ 0 then nanBits else s.weights.getD v 0) := by
    intro v hv
    rw [mask_at, I.wlen, if_pos (by omega), I.vget v hv]
    by_cases c : v = 0 ∨ tv s.trail v ≠ 0
    · rw [if_pos ⟨by omega, c⟩, if_pos c]
    · rw [if_neg (fun h => c h.2), if_neg c]
  have hfin : ∀ v : Nat, v ≤ n → Fl.Fin (s.weights.getD v 0) := by
    intro v hv
    rw [List.getD_eq_getElem?_getD, List.getElem?_eq_getElem (by rw [I.wlen]; omega)]
    exact I.wok _ (List.getElem_mem _)
  generalize hM : maskK s.value s.weights s.weights.length = M at hml hat
  have hWs : Fl.Ws M := by
    intro x hx
    obtain ⟨j, hj⟩ := List.getElem?_of_mem hx
    have hjl := (List.getElem?_eq_some_iff.1 hj).1
    rw [hat j (by omega)] at hj
    cases hj
    split
    · exact nan_W
    · exact (hfin j (by omega)).1
  rcases Fl.heavy_f M hWs (by omega) with ⟨h0, _⟩ | ⟨h, hh, ht⟩
  · rw [h0] at hml; simp at hml
  · obtain ⟨t1, t2, _⟩ := ht
    rw [hh, Option.bind_some]
    have hg : gi M (h : Int) = some (if h = 0 ∨ tv s.trail h ≠ 0 then nanBits else s.weights.getD h 0) := by
      unfold gi
      rw [if_pos (by omega), Int.toNat_natCast]
      exact hat h (by omega)
    rw [hg, Option.bind_some]
    have hgd : ∀ v : Nat, v ≤ n → M.getD v 0 = if v = 0 ∨ tv s.trail v ≠ 0 then nanBits else s.weights.getD v 0 := by
      intro v hv
      rw [List.getD_eq_getElem?_getD, hat v hv]; rfl
    by_cases c : h = 0 ∨ tv s.trail h ≠ 0
    · rw [if_pos c, if_pos nan_ne]
      refine ⟨s, false, rfl, Or.inl ⟨rfl, rfl, fun v h1 h2 h3 => ?_⟩⟩
      have k1 := t2 v (by omega)
      rw [hgd v h2, hgd h (by omega), if_pos c, if_neg (fun e => e.elim (fun e => by omega) (fun e => e h3)), nan_K] at k1
      have := Fl.K_ge (s.weights.getD v 0) (Nat.le_of_lt (hfin v h2).2)
      omega
    · rw [if_neg c, if_neg (by rw [(hfin h (by omega)).ne]; simp)]
      have c1 : h ≠ 0 := fun e => c (Or.inl e)
      have c2 : tv s.trail h = 0 := Classical.byContradiction fun e => c (Or.inr e)
      have hl : lit n (-(h : Int)) := ⟨by omega, by omega, by omega⟩
      have ho : tv s.trail (-(h : Int)) = 0 := by rw [I.tr.val.1, c2]; rfl
      obtain ⟨s1, k1, I1, b1, b2, b3, b4, b5, b6⟩ := set_inv (r := -1) (ch := s.chosen ++ [(s.trail.length : Int)]) I hl ho (Or.inr ⟨rfl, hi⟩)
      rw [k1, Option.map_some]
      exact ⟨s1, true, rfl, Or.inr ⟨rfl, I1, -(h : Int), hl, ho, b1, b2, b3, b4⟩⟩

end Go.Proofs.Ytmdjlhmifhnpdaa.SatW
namespace Go.Proofs.Ytmdjlhmifhnpdaa.SatW
set_option linter.unusedVariables false
set_option linter.unusedSimpArgs false
open Go.RowKit Go.Proofs.YtmdjlhmifhnpdaaW.PrintWords Go.Proofs.YtmdjlhmifhnpdaaW.PrintLast Go.Proofs.Ytmdjlhmifhnpdaa.B

/-! ### learn -/
def sn (L : Ln) (x : Int) : Bool := L.seen.getD (sizeI x).toNat false
def cnt (L : Ln) (t : List Int) (D P : Nat) : Nat := ((t.take P).drop D).countP (sn L)
structure LI (n : Nat) (s : St) (D P : Nat) (L : Ln) : Prop where
  sl : L.seen.length = n + 1
  se : ∀ x, lit n x → sn L x = true → ∃ (j : Nat) (y : Int), s.trail[j]? = some y ∧ sizeI y = sizeI x ∧ lvl s.chosen j ≠ 0
  lr : ∃ h rest, L.lem = h :: rest ∧ (rest.map sizeI).Nodup ∧ (∀ y ∈ rest, lit n y ∧ sn L y = true ∧ ∃ j : Nat, s.trail[j]? = some (-y) ∧ j < D ∧ lvl s.chosen j ≤ L.back) ∧
    (∀ (j : Nat) (x : Int), s.trail[j]? = some x → j < D → sn L x = true → -x ∈ rest) ∧ (L.back = 0 ∨ ∃ y ∈ rest, ∃ j : Nat, s.trail[j]? = some (-y) ∧ lvl s.chosen j = L.back)
  he : L.here = (cnt L s.trail D P : Int)
  bk : 0 ≤ L.back ∧ L.back < (s.chosen.length : Int)
/-- Known to the analysis: seen, or of level 0. -/
def known (s : St) (L : Ln) (x : Int) : Prop := sn L x = true ∨ ∃ (j : Nat) (y : Int), s.trail[j]? = some y ∧ sizeI y = sizeI x ∧ lvl s.chosen j = 0
theorem sn_set {n : Nat} {L : Ln} {m x : Int} (hl : L.seen.length = n + 1) (hm : lit n m) (hx : lit n x) {h : Int} {l : List Int} {b : Int} :
    sn { seen := L.seen.set (sizeI m).toNat true, here := h, lem := l, back := b } x = (sn L x || decide (sizeI x = sizeI m)) := by
  have h1 := sizeI_lit hm
  have h2 := sizeI_lit hx
  unfold sn
  simp only [List.getD_eq_getElem?_getD, List.getElem?_set]
  by_cases e : sizeI x = sizeI m
  · rw [if_pos (by rw [e]), if_pos (by omega), decide_eq_true e, Bool.or_true]; rfl
  · rw [if_neg (by omega), decide_eq_false e, Bool.or_false]
theorem gi_seen {n : Nat} {L : Ln} {x : Int} (hl : L.seen.length = n + 1) (hx : lit n x) : gi L.seen (sizeI x) = some (sn L x) := by
  have h1 := sizeI_lit hx
  unfold gi sn
  rw [if_pos (by omega), List.getD_eq_getElem?_getD, List.getElem?_eq_getElem (by omega)]; rfl
theorem gi_level {n : Nat} {s : St} (I : Inv n s) {j : Nat} {y x : Int} (hj : s.trail[j]? = some y) (e : sizeI y = sizeI x) : gi s.level (sizeI x) = some (lvl s.chosen j) := by
  have h1 := sizeI_lit (I.tr.tin y (List.mem_of_getElem? hj))
  unfold gi
  rw [if_pos (by omega), ← e]
  exact I.lev j y hj
theorem bump_ok {n : Nat} {s : St} (I : Inv n s) {x : Int} (hx : lit n x) : ∃ ws, bumpF s (sizeI x) = some { s with weights := ws } ∧ ws.length = n + 1 ∧ ∀ w ∈ ws, Fl.Fin w := by
  have h1 := sizeI_lit hx
  unfold bumpF gi
  rw [if_pos (by omega), List.getElem?_eq_getElem (by rw [I.wlen]; omega), Option.bind_some]
  rw [Fl.bump_f _ _ (I.wok _ (List.getElem_mem _)).1 I.bok, Option.map_some]
  refine ⟨_, rfl, by rw [List.length_set]; exact I.wlen, fun w hw => ?_⟩
  rcases List.mem_or_eq_of_mem_set hw with h | rfl
  · exact I.wok w h
  · exact Fl.bump_Fin _ _
theorem Inv.w {n : Nat} {s : St} (I : Inv n s) {ws : List Nat} (h1 : ws.length = n + 1) (h2 : ∀ w ∈ ws, Fl.Fin w) : Inv n { s with weights := ws } :=
  ⟨I.vlen, I.llen, I.rlen, h1, I.nb, I.tr, I.cin, I.val, I.chs, I.chb, I.lev, I.rea, I.dec, h2, I.bok⟩
/-- The last decision's place. -/
structure Last (s : St) (D : Nat) : Prop where
  mem : (D : Int) ∈ s.chosen
  max : ∀ d ∈ s.chosen, d ≤ (D : Int)
theorem Last.ge {s : St} {D : Nat} (h : Last s D) {j : Nat} (hj : D ≤ j) : lvl s.chosen j = (s.chosen.length : Int) := by
  unfold lvl
  rw [List.filter_eq_self.2]
  intro d hd
  have := h.max d hd
  simp; omega
theorem Last.lt {s : St} {D : Nat} (h : Last s D) {j : Nat} (hj : j < D) : lvl s.chosen j < (s.chosen.length : Int) := by
  unfold lvl
  have h1 : (s.chosen.filter fun d => decide (d ≤ (j : Int))).length < s.chosen.length := by
    refine Nat.lt_of_le_of_ne (List.length_filter_le _ _) (fun e => ?_)
    have h2 := List.filter_eq_self.1 ((List.filter_sublist).eq_of_length e) (D : Int) h.mem
    simp at h2; omega
  omega
theorem lvl_nonneg (ch : List Int) (j : Nat) : 0 ≤ lvl ch j := by unfold lvl; omega
theorem nodup_at {t : List Int} (h : (t.map sizeI).Nodup) {i j : Nat} {x y : Int} (hi : t[i]? = some x) (hj : t[j]? = some y) (e : sizeI x = sizeI y) : i = j := by
  have h1 : (t.map sizeI)[i]? = some (sizeI x) := by rw [List.getElem?_map, hi]; rfl
  have h2 : (t.map sizeI)[j]? = some (sizeI x) := by rw [List.getElem?_map, hj, e]; rfl
  have hl := (List.getElem?_eq_some_iff.1 h1).1
  exact (List.getElem?_inj hl h).1 (h1.trans h2.symm)
theorem countP_or {l : List Int} {p : Int → Bool} {m : Int} (hn : (l.map sizeI).Nodup) (hp : ∀ x ∈ l, sizeI x = sizeI m → p x = false) :
    l.countP (fun x => p x || decide (sizeI x = sizeI m)) = l.countP p + if ∃ x ∈ l, sizeI x = sizeI m then 1 else 0 := by
  induction l with
  | nil => simp
  | cons a l ih =>
    rw [List.map_cons, List.nodup_cons] at hn
    obtain ⟨n1, n2⟩ := hn
    have ih := ih n2 (fun x hx => hp x (by simp [hx]))
    rw [List.countP_cons, List.countP_cons, ih]
    by_cases e : sizeI a = sizeI m
    · have hno : ¬ ∃ x ∈ l, sizeI x = sizeI m := by
        rintro ⟨x, hx, ex⟩
        exact n1 (List.mem_map.2 ⟨x, hx, by rw [ex, e]⟩)
      have hyes : ∃ x ∈ a :: l, sizeI x = sizeI m := ⟨a, by simp, e⟩
      rw [if_neg hno, if_pos hyes, hp a (by simp) e, decide_eq_true e]
      simp
    · rw [decide_eq_false e, Bool.or_false]
      by_cases h : ∃ x ∈ l, sizeI x = sizeI m
      · have hyes : ∃ x ∈ a :: l, sizeI x = sizeI m := by obtain ⟨x, hx, ex⟩ := h; exact ⟨x, by simp [hx], ex⟩
        rw [if_pos h, if_pos hyes]
        omega
      · have hno : ¬ ∃ x ∈ a :: l, sizeI x = sizeI m := by
          rintro ⟨x, hx, ex⟩
          rcases List.mem_cons.1 hx with e1 | hx
          · exact e (by rw [← e1]; exact ex)
          · exact h ⟨x, hx, ex⟩
        rw [if_neg h, if_neg hno]
        omega
/-- One literal of a clause that is looked at. -/
theorem addStep_spec {n : Nat} {s : St} {D P : Nat} {L : Ln} {m : Int} (I : Inv n s) (hD : Last s D) (H : LI n s D P L) (hm : lit n m) (hk : sn L m = true ∨ ∃ j : Nat, s.trail[j]? = some (-m) ∧ j < P) :
    ∃ ws L', addStep s L m = some ({ s with weights := ws }, L') ∧ ws.length = n + 1 ∧ (∀ w ∈ ws, Fl.Fin w) ∧ LI n s D P L' ∧ (∀ x, sn L x = true → sn L' x = true) ∧ known s L' m ∧ (∀ x, lit n x → sn L' x = true → sn L x = true ∨ ∃ (j : Nat) (y : Int), s.trail[j]? = some y ∧ sizeI y = sizeI x ∧ j < P) := by
  have hT := I.tr.len
  have hnb := I.nb
  unfold addStep
  rw [gi_seen H.sl hm, Option.bind_some]
  cases hs : sn L m with
  | true =>
    rw [if_pos rfl]
    exact ⟨s.weights, L, rfl, I.wlen, I.wok, H, fun _ h => h, Or.inl hs, fun _ _ h => Or.inl h⟩
  | false =>
    rw [if_neg (by simp)]
    obtain ⟨j, hj, hjP⟩ := hk.resolve_left (by rw [hs]; simp)
    have hjl := (List.getElem?_eq_some_iff.1 hj).1
    rw [gi_level I hj (sizeI_neg m), Option.bind_some]
    by_cases h0 : lvl s.chosen j = 0
    · rw [if_pos h0]
      exact ⟨s.weights, L, rfl, I.wlen, I.wok, H, fun _ h => h, Or.inr ⟨j, -m, hj, sizeI_neg m, h0⟩, fun _ _ h => Or.inl h⟩
    · rw [if_neg h0]
      obtain ⟨ws, hb, w1, w2⟩ := bump_ok I hm
      rw [hb, Option.bind_some]
      have hse : ∀ (L' : Ln) (e : ∀ x, lit n x → sn L' x = (sn L x || decide (sizeI x = sizeI m))), ∀ x, lit n x → sn L' x = true → ∃ (j : Nat) (y : Int), s.trail[j]? = some y ∧ sizeI y = sizeI x ∧ lvl s.chosen j ≠ 0 := by
        intro L' e x hx h
        rw [e x hx, Bool.or_eq_true] at h
        rcases h with h | h
        · exact H.se x hx h
        · exact ⟨j, -m, hj, by rw [sizeI_neg]; exact (of_decide_eq_true h).symm, h0⟩
      have hnew : ∀ (L' : Ln) (e : ∀ x, lit n x → sn L' x = (sn L x || decide (sizeI x = sizeI m))), ∀ x, lit n x → sn L' x = true → sn L x = true ∨ ∃ (j : Nat) (y : Int), s.trail[j]? = some y ∧ sizeI y = sizeI x ∧ j < P := by
        intro L' e x hx h
        rw [e x hx, Bool.or_eq_true] at h
        rcases h with h | h
        · exact Or.inl h
        · exact Or.inr ⟨j, -m, hj, by rw [sizeI_neg]; exact (of_decide_eq_true h).symm, hjP⟩
      have hcnt : ∀ (L' : Ln) (e : ∀ x, lit n x → sn L' x = (sn L x || decide (sizeI x = sizeI m))), cnt L' s.trail D P = cnt L s.trail D P + if D ≤ j then 1 else 0 := by
        intro L' e
        have hsub : ((s.trail.take P).drop D).Sublist s.trail := (List.drop_sublist _ _).trans (List.take_sublist _ _)
        have h1 : cnt L' s.trail D P = ((s.trail.take P).drop D).countP (fun x => sn L x || decide (sizeI x = sizeI m)) := by
          unfold cnt
          exact List.countP_congr (fun x hx => by rw [e x (I.tr.tin x (hsub.subset hx))])
        rw [h1, countP_or (I.tr.nod.sublist (hsub.map _)) (fun x hx ex => by
          have hxm := hsub.subset hx
          obtain ⟨i, hi⟩ := List.getElem?_of_mem hxm
          have : i = j := nodup_at I.tr.nod hi hj (by rw [ex, sizeI_neg])
          subst this
          rw [hj] at hi
          cases hi
          unfold sn at hs ⊢
          rw [sizeI_neg]; exact hs)]
        congr 1
        by_cases c : D ≤ j
        · have hyes : ∃ x ∈ (s.trail.take P).drop D, sizeI x = sizeI m := by
            refine ⟨-m, ?_, sizeI_neg m⟩
            refine List.mem_of_getElem? (i := j - D) ?_
            rw [List.getElem?_drop, List.getElem?_take, if_pos (by omega), show D + (j - D) = j by omega]
            exact hj
          rw [if_pos hyes, if_pos c]
        · have hno : ¬ ∃ x ∈ (s.trail.take P).drop D, sizeI x = sizeI m := by
            rintro ⟨x, hx, ex⟩
            obtain ⟨i, hi⟩ := List.getElem?_of_mem hx
            rw [List.getElem?_drop] at hi
            have hil := (List.getElem?_eq_some_iff.1 hi).1
            rw [List.getElem?_take] at hi
            split at hi
            · have := nodup_at I.tr.nod hi hj (by rw [ex, sizeI_neg])
              omega
            · cases hi
          rw [if_neg hno, if_neg c]
      obtain ⟨h, rest, e1, e2, e3, e4, e5⟩ := H.lr
      by_cases c : D ≤ j
      · rw [hD.ge c, if_pos rfl]
        have hcb : cnt L s.trail D P ≤ n := by
          unfold cnt
          refine Nat.le_trans (List.countP_le_length) ?_
          rw [List.length_drop, List.length_take]; omega
        rw [if_pos ⟨by rw [H.he]; omega, by rw [H.he]; omega⟩]
        have e := fun x hx => sn_set (x := x) (h := L.here + 1) (l := L.lem) (b := L.back) H.sl hm hx
        refine ⟨ws, _, rfl, w1, w2, ⟨by rw [List.length_set]; exact H.sl, hse _ e, ⟨h, rest, e1, e2, fun y hy => ?_, fun i x hi hiD hx => ?_, e5⟩, ?_, H.bk⟩, fun x hx => ?_, Or.inl ?_, hnew _ e⟩
        · obtain ⟨a, b, d⟩ := e3 y hy
          exact ⟨a, by rw [e y a, b]; rfl, d⟩
        · rw [e x (I.tr.tin x (List.mem_of_getElem? hi)), Bool.or_eq_true] at hx
          rcases hx with hx | hx
          · exact e4 i x hi hiD hx
          · have := nodup_at I.tr.nod hi hj (by rw [sizeI_neg]; exact of_decide_eq_true hx)
            omega
        · show L.here + 1 = _
          rw [hcnt _ e, if_pos c, H.he]; omega
        · unfold sn at hx ⊢
          simp only [List.getD_eq_getElem?_getD, List.getElem?_set] at hx ⊢
          split
          · split
            · rfl
            · rename_i h1 h2
              rw [← h1, List.getElem?_eq_none (by omega)] at hx
              exact hx
          · exact hx
        · rw [e m hm]; simp
      · rw [if_neg (by have := hD.lt (show j < D by omega); omega)]
        have hseen : ∀ x, sn L x = true → sizeI x ≠ sizeI m := by
          intro x hx ex
          unfold sn at hx hs
          rw [ex, hs] at hx
          cases hx
        have hnd : ((rest ++ [m]).map sizeI).Nodup := by
          rw [List.map_append, List.nodup_append]
          refine ⟨e2, by simp, fun a ha b hb => ?_⟩
          obtain ⟨y, hy, rfl⟩ := List.mem_map.1 ha
          rw [List.map_singleton, List.mem_singleton] at hb
          rw [hb]
          exact hseen y (e3 y hy).2.1
        have hrl : rest.length ≤ n := by
          have := nodup_bound n (rest.map sizeI) e2 (fun x hx => by
            obtain ⟨y, hy, rfl⟩ := List.mem_map.1 hx
            exact sizeI_lit (e3 y hy).1)
          rwa [List.length_map] at this
        rw [if_pos (by rw [e1, List.length_cons]; unfold lim; omega)]
        have e := fun x hx => sn_set (x := x) (h := L.here) (l := L.lem ++ [m]) (b := if L.back < lvl s.chosen j then lvl s.chosen j else L.back) H.sl hm hx
        have hlt := hD.lt (show j < D by omega)
        have hbk := H.bk
        have hle : L.back ≤ (if L.back < lvl s.chosen j then lvl s.chosen j else L.back) := by split <;> omega
        have hle2 : lvl s.chosen j ≤ (if L.back < lvl s.chosen j then lvl s.chosen j else L.back) := by split <;> omega
        refine ⟨ws, _, rfl, w1, w2, ⟨by rw [List.length_set]; exact H.sl, hse _ e, ⟨h, rest ++ [m], by show L.lem ++ [m] = _; rw [e1]; rfl, hnd, fun y hy => ?_, fun i x hi hiD hx => ?_, ?_⟩, ?_, ?_⟩, fun x hx => ?_, Or.inl ?_, hnew _ e⟩
        · rcases List.mem_append.1 hy with hy | hy
          · obtain ⟨a, b, i, d1, d2, d3⟩ := e3 y hy
            exact ⟨a, by rw [e y a, b]; rfl, i, d1, d2, Int.le_trans d3 hle⟩
          · rw [List.mem_singleton.1 hy]
            exact ⟨hm, by rw [e m hm]; simp, j, hj, by omega, hle2⟩
        · rw [e x (I.tr.tin x (List.mem_of_getElem? hi)), Bool.or_eq_true] at hx
          rcases hx with hx | hx
          · have := e4 i x hi hiD hx
            simp [this]
          · have := nodup_at I.tr.nod hi hj (by rw [sizeI_neg]; exact of_decide_eq_true hx)
            subst this
            rw [hj] at hi
            cases hi
            rw [Int.neg_neg]; simp
        · show (if L.back < lvl s.chosen j then lvl s.chosen j else L.back) = 0 ∨ ∃ y ∈ rest ++ [m], ∃ i : Nat, s.trail[i]? = some (-y) ∧ lvl s.chosen i = if L.back < lvl s.chosen j then lvl s.chosen j else L.back
          by_cases g : L.back < lvl s.chosen j
          · rw [if_pos g]
            exact Or.inr ⟨m, by simp, j, hj, rfl⟩
          · rw [if_neg g]
            rcases e5 with e5 | ⟨y, hy, i, d1, d2⟩
            · exact Or.inl e5
            · exact Or.inr ⟨y, by simp [hy], i, d1, d2⟩
        · show L.here = _
          rw [hcnt _ e, if_neg c, H.he]; omega
        · show 0 ≤ (if L.back < lvl s.chosen j then lvl s.chosen j else L.back) ∧ (if L.back < lvl s.chosen j then lvl s.chosen j else L.back) < (s.chosen.length : Int)
          split <;> omega
        · unfold sn at hx ⊢
          simp only [List.getD_eq_getElem?_getD, List.getElem?_set] at hx ⊢
          split
          · split
            · rfl
            · rename_i h1 h2
              rw [← h1, List.getElem?_eq_none (by omega)] at hx
              exact hx
          · exact hx
        · rw [e m hm]; simp
theorem known_w {s : St} {L : Ln} {x : Int} (ws : List Nat) : known { s with weights := ws } L x ↔ known s L x := Iff.rfl
theorem LI.w {n : Nat} {s : St} {D P : Nat} {L : Ln} (H : LI n s D P L) (ws : List Nat) : LI n { s with weights := ws } D P L := ⟨H.sl, H.se, H.lr, H.he, H.bk⟩
theorem known_mono {s : St} {L L' : Ln} (h : ∀ x, sn L x = true → sn L' x = true) {x : Int} (k : known s L x) : known s L' x := k.imp (h x) id
theorem adds_spec {n : Nat} {D P : Nat} : ∀ (c : List Int) (s : St) (L : Ln), Inv n s → Last s D → LI n s D P L → (∀ m ∈ c, lit n m ∧ (sn L m = true ∨ ∃ j : Nat, s.trail[j]? = some (-m) ∧ j < P)) →
    ∃ ws L', addsF c s L = some ({ s with weights := ws }, L') ∧ ws.length = n + 1 ∧ (∀ w ∈ ws, Fl.Fin w) ∧ LI n s D P L' ∧ (∀ x, sn L x = true → sn L' x = true) ∧ (∀ m ∈ c, known s L' m) ∧ (∀ x, lit n x → sn L' x = true → sn L x = true ∨ ∃ (j : Nat) (y : Int), s.trail[j]? = some y ∧ sizeI y = sizeI x ∧ j < P)
  | [], s, L, I, hD, H, h => ⟨s.weights, L, rfl, I.wlen, I.wok, H, fun _ h => h, by simp, fun _ _ h => Or.inl h⟩
  | m :: c, s, L, I, hD, H, h => by
    obtain ⟨hm, hk⟩ := h m (by simp)
    obtain ⟨ws, L1, a1, a2, a3, a4, a5, a6, a7⟩ := addStep_spec I hD H hm hk
    rw [addsF, a1, Option.bind_some]
    obtain ⟨ws2, L2, b1, b2, b3, b4, b5, b6, b7⟩ := adds_spec c { s with weights := ws } L1 (I.w a2 a3) ⟨hD.mem, hD.max⟩ (a4.w ws) (fun x hx => ⟨(h x (by simp [hx])).1, (h x (by simp [hx])).2.imp (a5 x) id⟩)
    refine ⟨ws2, L2, b1, b2, b3, ⟨b4.sl, b4.se, b4.lr, b4.he, b4.bk⟩, fun x hx => b5 x (a5 x hx), fun x hx => ?_, fun x hx h => (b7 x hx h).elim (fun h => a7 x hx h) Or.inr⟩
    rcases List.mem_cons.1 hx with rfl | hx
    · exact known_mono b5 a6
    · exact b6 x hx
theorem cnt_succ {L : Ln} {t : List Int} {D i : Nat} {x : Int} (hi : t[i]? = some x) : cnt L t D (i + 1) = cnt L t D i + if D ≤ i ∧ sn L x = true then 1 else 0 := by
  have hil := (List.getElem?_eq_some_iff.1 hi).1
  have hx := (List.getElem?_eq_some_iff.1 hi).2
  unfold cnt
  rw [List.take_succ_eq_append_getElem hil, hx]
  by_cases c : D ≤ i
  · rw [List.drop_append_of_le_length (by rw [List.length_take]; omega), List.countP_append, List.countP_singleton]
    by_cases c2 : sn L x = true
    · rw [if_pos c2, if_pos ⟨c, c2⟩]
    · rw [if_neg c2, if_neg (fun h => c2 h.2)]
  · rw [if_neg (fun h => c h.1), List.drop_of_length_le (by rw [List.length_append, List.length_take, List.length_singleton]; omega), List.drop_of_length_le (by rw [List.length_take]; omega)]; rfl
theorem cnt_zero {L : Ln} {t : List Int} {D P : Nat} (h : P ≤ D) : cnt L t D P = 0 := by
  unfold cnt
  rw [List.drop_of_length_le (by rw [List.length_take]; omega)]; rfl
/-- A trail literal that the analysis has looked behind. -/
def Exp (s : St) (L : Ln) (j : Nat) (x : Int) : Prop := ∃ c ∈ s.clauses, x ∈ c ∧ ∀ y ∈ c, y ≠ x → -y ∈ s.trail.take j ∧ known s L y
theorem Exp.mono {s : St} {L L' : Ln} {j : Nat} {x : Int} (h : ∀ x, sn L x = true → sn L' x = true) (k : Exp s L j x) : Exp s L' j x := by
  obtain ⟨c, h1, h2, h3⟩ := k
  exact ⟨c, h1, h2, fun y hy hne => ⟨(h3 y hy hne).1, known_mono h (h3 y hy hne).2⟩⟩
theorem mem_take_at {t : List Int} {x : Int} {i : Nat} (h : x ∈ t.take i) : ∃ j : Nat, t[j]? = some x ∧ j < i := by
  obtain ⟨j, hj⟩ := List.getElem?_of_mem h
  rw [List.getElem?_take] at hj
  split at hj
  · exact ⟨j, hj, by assumption⟩
  · cases hj
theorem loop_spec {n : Nat} {D : Nat} : ∀ (k i : Nat) (s : St) (L : Ln), Inv n s → Last s D → LI n s D (i + 1) L → i < s.trail.length → i < k → 1 ≤ cnt L s.trail D (i + 1) →
    (∀ (j : Nat) (x : Int), i < j → s.trail[j]? = some x → sn L x = true → Exp s L j x) →
    ∃ (ws : List Nat) (L' : Ln) (i' : Nat) (u : Int), learnLoop k s L (i : Int) = some ({ s with weights := ws }, L'.lem.set 0 (-u), L'.back) ∧ ws.length = n + 1 ∧ (∀ w ∈ ws, Fl.Fin w) ∧ LI n s D i' L' ∧ cnt L' s.trail D i' = 0 ∧ D ≤ i' ∧ s.trail[i']? = some u ∧ sn L' u = true ∧
      (∀ (j : Nat) (x : Int), i' < j → s.trail[j]? = some x → sn L' x = true → Exp s L' j x) ∧ (∀ x, sn L x = true → sn L' x = true)
  | 0, i, s, L, I, hD, H, hi, hk, hc, hE => by omega
  | k + 1, i, s, L, I, hD, H, hi, hk, hc, hE => by
    obtain ⟨m, hm⟩ : ∃ m, s.trail[i]? = some m := ⟨_, List.getElem?_eq_getElem hi⟩
    have hml := I.tr.tin m (List.mem_of_getElem? hm)
    have hnb := I.nb
    have hT := I.tr.len
    have hg : gi s.trail (i : Int) = some m := by unfold gi; rw [if_pos (by omega), Int.toNat_natCast]; exact hm
    rw [learnLoop, hg, Option.bind_some, gi_seen H.sl hml, Option.bind_some]
    have hs := cnt_succ (L := L) (D := D) hm
    have hDi : D ≤ i := by
      by_cases c : D ≤ i
      · exact c
      · have := cnt_zero (L := L) (t := s.trail) (show i + 1 ≤ D by omega)
        omega
    cases hn : sn L m with
    | false =>
      rw [if_pos rfl]
      rw [if_neg (fun h => by rw [hn] at h; exact Bool.false_ne_true h.2)] at hs
      have hi1 : D < i := by
        by_cases c : D < i
        · exact c
        · have := cnt_zero (L := L) (t := s.trail) (show i ≤ D by omega)
          omega
      obtain ⟨i0, rfl⟩ : ∃ i0, i = i0 + 1 := ⟨i - 1, by omega⟩
      have e : ((i0 + 1 : Nat) : Int) - 1 = (i0 : Int) := by omega
      rw [e]
      refine loop_spec k i0 s L I hD ⟨H.sl, H.se, H.lr, by rw [H.he, hs]; rfl, H.bk⟩ (by omega) (by omega) (by omega) (fun j x hj hx hsx => ?_)
      by_cases c : j = i0 + 1
      · subst c
        rw [hm] at hx
        cases hx
        rw [hn] at hsx
        cases hsx
      · exact hE j x (by omega) hx hsx
    | true =>
      rw [if_neg (by simp)]
      rw [if_pos ⟨hDi, hn⟩] at hs
      have hcb : cnt L s.trail D (i + 1) ≤ n := by
        unfold cnt
        refine Nat.le_trans (List.countP_le_length) ?_
        rw [List.length_drop, List.length_take]; omega
      obtain ⟨h, rest, e1, e2, e3, e4, e5⟩ := H.lr
      rw [if_pos ⟨by rw [H.he]; omega, by rw [H.he]; omega, by rw [e1]; simp⟩]
      have hL1 : LI n s D i { L with here := L.here - 1 } := ⟨H.sl, H.se, ⟨h, rest, e1, e2, e3, e4, e5⟩, by show L.here - 1 = (cnt L s.trail D i : Int); rw [H.he]; omega, H.bk⟩
      by_cases c0 : L.here - 1 = 0
      · rw [if_pos c0]
        exact ⟨s.weights, { L with here := L.here - 1 }, i, m, rfl, I.wlen, I.wok, hL1, by show cnt L s.trail D i = 0; have := H.he; omega, hDi, hm, hn, hE, fun _ h => h⟩
      · rw [if_neg c0]
        have hcp : 1 ≤ cnt L s.trail D i := by have := H.he; omega
        have hi1 : D < i := by
          by_cases c : D < i
          · exact c
          · have := cnt_zero (L := L) (t := s.trail) (show i ≤ D by omega)
            omega
        rcases I.rea i m hm with hch | ⟨q, c, r1, r2, r3, r4⟩
        · have := hD.max _ hch; omega
        · have hsz := sizeI_lit hml
          have hgr : gi s.reason (sizeI m) = some (q : Int) := by unfold gi; rw [if_pos (by omega)]; exact r1
          have hgc : gi s.clauses (q : Int) = some c := by unfold gi; rw [if_pos (by omega), Int.toNat_natCast]; exact r2
          rw [hgr, Option.bind_some, hgc, Option.bind_some]
          obtain ⟨ws, L2, a1, a2, a3, a4, a5, a6, a7⟩ := adds_spec c s { L with here := L.here - 1 } I hD hL1 (fun y hy => ⟨I.cin c (List.mem_of_getElem? r2) y hy, by
            by_cases g : y = m
            · subst g; exact Or.inl hn
            · obtain ⟨j, hj, hji⟩ := mem_take_at (r4 y hy g)
              exact Or.inr ⟨j, hj, hji⟩⟩)
          rw [a1, Option.bind_some]
          obtain ⟨i0, rfl⟩ : ∃ i0, i = i0 + 1 := ⟨i - 1, by omega⟩
          have e : ((i0 + 1 : Nat) : Int) - 1 = (i0 : Int) := by omega
          rw [e]
          have hcm : cnt L s.trail D (i0 + 1) ≤ cnt L2 s.trail D (i0 + 1) := by
            unfold cnt
            exact List.countP_mono_left (fun x _ hx => a5 x hx)
          obtain ⟨ws2, L3, i', u, b1, b2, b3, b4, b5, b6, b7, b8, b9, b10⟩ := loop_spec k i0 { s with weights := ws } L2 (I.w a2 a3) ⟨hD.mem, hD.max⟩ (a4.w ws) (by show i0 < s.trail.length; omega) (by omega) (by show 1 ≤ cnt L2 s.trail D (i0 + 1); omega) (fun j x hj hx hsx => by
            have hx' : s.trail[j]? = some x := hx
            by_cases g : j = i0 + 1
            · subst g
              rw [hm] at hx'
              cases hx'
              exact ⟨c, List.mem_of_getElem? r2, r3, fun y hy hne => ⟨r4 y hy hne, a6 y hy⟩⟩
            · rcases a7 x (I.tr.tin x (List.mem_of_getElem? hx')) hsx with k1 | ⟨j2, y, k1, k2, k3⟩
              · exact (hE j x (by omega) hx' k1).mono a5
              · have := nodup_at I.tr.nod k1 hx' k2
                omega)
          exact ⟨ws2, L3, i', u, b1, b2, b3, ⟨b4.sl, b4.se, b4.lr, b4.he, b4.bk⟩, b5, b6, b7, b8, b9, fun x hx => b10 x (a5 x hx)⟩

end Go.Proofs.Ytmdjlhmifhnpdaa.SatW
namespace Go.Proofs.Ytmdjlhmifhnpdaa.SatW
set_option linter.unusedVariables false
set_option linter.unusedSimpArgs false
open Go.RowKit Go.Proofs.YtmdjlhmifhnpdaaW.PrintWords Go.Proofs.YtmdjlhmifhnpdaaW.PrintLast Go.Proofs.Ytmdjlhmifhnpdaa.B

theorem lvl_mono {ch : List Int} {i j : Nat} (h : i ≤ j) : lvl ch i ≤ lvl ch j := by
  unfold lvl
  have : (ch.filter fun d => decide (d ≤ (i : Int))).length ≤ (ch.filter fun d => decide (d ≤ (j : Int))).length := by
    rw [← List.countP_eq_length_filter, ← List.countP_eq_length_filter]
    exact List.countP_mono_left (fun x _ hx => by have := of_decide_eq_true hx; exact decide_eq_true (by omega))
  omega
theorem lvl_pos {ch : List Int} {j : Nat} (h : (j : Int) ∈ ch) : lvl ch j ≠ 0 := by
  unfold lvl
  have : (j : Int) ∈ ch.filter fun d => decide (d ≤ (j : Int)) := List.mem_filter.2 ⟨h, by simp⟩
  have := List.length_pos_of_mem this
  omega
/-- A clause that is idle, all whose other literals are false. -/
theorem idle_unit {F : Int → Int} {c : List Int} {x : Int} (h : IdleF F c) (ho : ∀ y ∈ c, y ≠ x → F y = -1) : F x = 1 := by
  rcases h with ⟨y, hy, e⟩ | ⟨y, hy, z, hz, hne, e1, e2⟩
  · by_cases g : y = x
    · rw [← g]; exact e
    · have := ho y hy g; omega
  · by_cases g : y = x
    · have := ho z hz (fun e => hne (by rw [g, e])); omega
    · have := ho y hy g; omega
theorem idle_not_false {F : Int → Int} {c : List Int} (h : IdleF F c) (ho : ∀ y ∈ c, F y = -1) : False := by
  rcases h with ⟨y, hy, e⟩ | ⟨y, hy, z, hz, hne, e1, e2⟩
  · have := ho y hy; omega
  · have := ho y hy; omega
theorem sn_neg (L : Ln) (x : Int) : sn L (-x) = sn L x := by unfold sn; rw [sizeI_neg]
/-- What learn leaves. -/
structure Learned (n : Nat) (s : St) (D : Nat) (lem : List Int) (back : Int) : Prop where
  sh : ∃ (u : Int) (rest : List Int) (i : Nat), lem = -u :: rest ∧ D ≤ i ∧ s.trail[i]? = some u ∧ (rest.map sizeI).Nodup ∧ (∀ y ∈ rest, lit n y ∧ ∃ j : Nat, s.trail[j]? = some (-y) ∧ j < D ∧ lvl s.chosen j ≤ back) ∧ (back = 0 ∨ ∃ y ∈ rest, ∃ j : Nat, s.trail[j]? = some (-y) ∧ j < D ∧ lvl s.chosen j = back)
  bk : 0 ≤ back ∧ back < (s.chosen.length : Int)
  rup : Rup s.clauses lem
theorem learn_spec {n : Nat} {s : St} {D : Nat} (I : Inv n s) (hD : Last s D) {q : Nat} {c : List Int} (hq : s.clauses[q]? = some c) (hf : ∀ x ∈ c, tv s.trail x = -1) (k : Nat) (hk : n < k) :
    ∃ ws lem back, learnF k s (q : Int) = some ({ s with weights := ws }, lem, back) ∧ ws.length = n + 1 ∧ (∀ w ∈ ws, Fl.Fin w) ∧ Learned n s D lem back := by
  have hT := I.tr.len
  have hcm := List.mem_of_getElem? hq
  have hDl : D < s.trail.length := by have := I.chb _ hD.mem; omega
  have hch : 0 < s.chosen.length := List.length_pos_of_mem hD.mem
  have hsn0 : ∀ x, sn (Ln0 s.value.length) x = false := by
    intro x
    unfold sn Ln0
    simp only [List.getD_eq_getElem?_getD, List.getElem?_replicate]
    split <;> rfl
  have H0 : LI n s D s.trail.length (Ln0 s.value.length) := by
    refine ⟨by unfold Ln0; simp only [List.length_replicate]; exact I.vlen, fun x _ h => ?_, ⟨0, [], rfl, by simp, by simp, fun j x _ _ h => ?_, Or.inl rfl⟩, ?_, ⟨Int.le_refl _, by show (0 : Int) < _; omega⟩⟩
    · rw [hsn0] at h; cases h
    · rw [hsn0] at h; cases h
    · show (0 : Int) = _
      unfold cnt
      rw [List.countP_eq_zero.2 (fun x _ => by rw [hsn0]; simp)]; rfl
  have hneg : ∀ x ∈ c, ∃ j : Nat, s.trail[j]? = some (-x) ∧ j < s.trail.length := by
    intro x hx
    obtain ⟨j, hj⟩ := List.getElem?_of_mem (tv_neg (hf x hx))
    exact ⟨j, hj, (List.getElem?_eq_some_iff.1 hj).1⟩
  obtain ⟨ws1, L1, a1, a2, a3, a4, a5, a6, a7⟩ := adds_spec c s (Ln0 s.value.length) I hD H0 (fun x hx => ⟨I.cin c hcm x hx, Or.inr (hneg x hx)⟩)
  unfold learnF
  have hgc : gi s.clauses (q : Int) = some c := by unfold gi; rw [if_pos (by omega), Int.toNat_natCast]; exact hq
  rw [hgc, Option.bind_some, a1, Option.bind_some]
  obtain ⟨i0, hi0⟩ : ∃ i0, s.trail.length = i0 + 1 := ⟨s.trail.length - 1, by omega⟩
  have e : ((s.trail.length : Nat) : Int) - 1 = (i0 : Int) := by omega
  show ∃ ws lem back, learnLoop k { s with weights := ws1 } L1 ((s.trail.length : Int) - 1) = _ ∧ _
  rw [e]
  rw [hi0] at a4
  have hone : 1 ≤ cnt L1 s.trail D (i0 + 1) := by
    have hx : ∃ x ∈ c, x ∉ s.trail.take D ∧ -x ∉ s.trail.take D := by
      rcases I.dec (D : Int) hD.mem c hcm with ⟨x, hx, e1⟩ | ⟨x, hx, y, hy, hne, e1, e2⟩
      · rw [Int.toNat_natCast] at e1
        have h1 := List.mem_of_mem_take (tv_one.1 e1)
        have h2 := tv_neg (hf x hx)
        exact absurd h2 (I.tr.cons_not h1)
      · rw [Int.toNat_natCast] at e1
        exact ⟨x, hx, tv_zero.1 e1⟩
    obtain ⟨x, hx, _, h2⟩ := hx
    obtain ⟨j, hj, hjl⟩ := hneg x hx
    have hjD : D ≤ j := by
      by_cases g : D ≤ j
      · exact g
      · exact absurd (List.mem_of_getElem? (i := j) (by rw [List.getElem?_take, if_pos (by omega)]; exact hj)) h2
    have hsx : sn L1 x = true := by
      rcases a6 x hx with h | ⟨j2, y, k1, k2, k3⟩
      · exact h
      · have := nodup_at I.tr.nod k1 hj (by rw [k2, sizeI_neg])
        subst this
        rw [hD.ge hjD] at k3
        omega
    unfold cnt
    refine List.countP_pos_iff.2 ⟨-x, ?_, by rw [sn_neg]; exact hsx⟩
    refine List.mem_of_getElem? (i := j - D) ?_
    rw [List.getElem?_drop, List.getElem?_take, if_pos (by omega), show D + (j - D) = j by omega]
    exact hj
  obtain ⟨ws, L2, i', u, b1, b2, b3, b4, b5, b6, b7, b8, b9, b10⟩ := loop_spec k i0 { s with weights := ws1 } L1 (I.w a2 a3) ⟨hD.mem, hD.max⟩ (a4.w ws1) (by show i0 < s.trail.length; omega) (by omega) hone (fun j x hj hx _ => by
    have hx' : s.trail[j]? = some x := hx
    have := (List.getElem?_eq_some_iff.1 hx').1
    omega)
  obtain ⟨h0, rest, e1, e2, e3, e4, e5⟩ := b4.lr
  refine ⟨ws, L2.lem.set 0 (-u), L2.back, b1, b2, b3, ⟨⟨u, rest, i', by rw [e1]; rfl, b6, b7, e2, fun y hy => ⟨(e3 y hy).1, (e3 y hy).2.2⟩, ?_⟩, b4.bk, ?_⟩⟩
  · rcases e5 with e5 | ⟨y, hy, j, k1, k2⟩
    · exact Or.inl e5
    · obtain ⟨_, _, j2, m1, m2, m3⟩ := e3 y hy
      exact Or.inr ⟨y, hy, j, k1, by have := nodup_at I.tr.nod (show s.trail[j]? = some (-y) from k1) (show s.trail[j2]? = some (-y) from m1) rfl; omega, k2⟩
  · rintro ⟨F, hF, hl, hid⟩
    rw [e1] at hl
    have hu : F u = 1 := by have := hl (-u) (by simp); rw [hF.1] at this; omega
    have hr : ∀ y ∈ rest, F y = -1 := fun y hy => hl y (by simp [hy])
    have key : ∀ (j : Nat) (x : Int), s.trail[j]? = some x → (lvl s.chosen j = 0 ∨ sn L2 x = true) → F x = 1 := by
      intro j
      induction j using Nat.strongRecOn with
      | ind j ih =>
        intro x hx hor
        have hz : lvl s.chosen j = 0 → F x = 1 := by
          intro hz
          rcases I.rea j x hx with h | ⟨q2, c2, r1, r2, r3, r4⟩
          · exact absurd hz (lvl_pos h)
          · refine idle_unit (hid c2 (List.mem_of_getElem? r2)) (fun y hy hne => ?_)
            obtain ⟨j2, hj2, hlt⟩ := mem_take_at (r4 y hy hne)
            have h1 := ih j2 hlt (-y) hj2 (Or.inl (by have := lvl_mono (ch := s.chosen) (show j2 ≤ j by omega); have := lvl_nonneg s.chosen j2; omega))
            rw [hF.1] at h1
            omega
        rcases hor with h | h
        · exact hz h
        · by_cases g : j < D
          · have h1 := hr _ (e4 j x hx g h)
            rw [hF.1] at h1
            omega
          · by_cases g2 : j < i'
            · exfalso
              have h1 : cnt L2 s.trail D i' = 0 := b5
              unfold cnt at h1
              refine List.countP_eq_zero.1 h1 x (List.mem_of_getElem? (i := j - D) ?_) h
              rw [List.getElem?_drop, List.getElem?_take, if_pos (by omega), show D + (j - D) = j by omega]
              exact hx
            · by_cases g3 : j = i'
              · subst g3
                have h1 : s.trail[j]? = some u := b7
                rw [hx] at h1
                cases h1
                exact hu
              · obtain ⟨c2, m1, m2, m3⟩ := b9 j x (by omega) hx h
                refine idle_unit (hid c2 m1) (fun y hy hne => ?_)
                obtain ⟨m4, m5⟩ := m3 y hy hne
                obtain ⟨j2, hj2, hlt⟩ := mem_take_at m4
                have hj2' : s.trail[j2]? = some (-y) := hj2
                have h1 := ih j2 hlt (-y) hj2' (by
                  rcases m5 with m5 | ⟨j3, z, k1, k2, k3⟩
                  · exact Or.inr (by rw [sn_neg]; exact m5)
                  · have := nodup_at I.tr.nod (show s.trail[j3]? = some z from k1) hj2' (by rw [k2, sizeI_neg])
                    subst this
                    exact Or.inl k3)
                rw [hF.1] at h1
                omega
    refine idle_not_false (hid c hcm) (fun x hx => ?_)
    obtain ⟨j, hj, _⟩ := hneg x hx
    have h1 := key j (-x) hj (by
      rcases a6 x hx with h | ⟨j3, z, k1, k2, k3⟩
      · exact Or.inr (by rw [sn_neg]; exact b10 x h)
      · have := nodup_at I.tr.nod k1 hj (by rw [k2, sizeI_neg])
        subst this
        exact Or.inl k3)
    rw [hF.1] at h1
    omega

end Go.Proofs.Ytmdjlhmifhnpdaa.SatW
namespace Go.Proofs.Ytmdjlhmifhnpdaa.SatW
set_option linter.unusedVariables false
set_option linter.unusedSimpArgs false
open Go.RowKit Go.Proofs.YtmdjlhmifhnpdaaW.PrintWords Go.Proofs.YtmdjlhmifhnpdaaW.PrintLast Go.Proofs.Ytmdjlhmifhnpdaa.B

/-! ### forget, and what comes after a lemma -/
theorem unset_spec : ∀ (l val : List Int), (∀ x ∈ l, sizeI x < (val.length : Int)) → ∃ val', unsetF l val = some val' ∧ val'.length = val.length ∧ ∀ v : Nat, v < val.length → val'[v]? = if ∃ x ∈ l, sizeI x = (v : Int) then some 0 else val[v]?
  | [], val, _ => ⟨val, rfl, rfl, fun v _ => by rw [if_neg (by simp)]⟩
  | x :: l, val, h => by
    rw [unsetF, if_pos (h x (by simp))]
    obtain ⟨val', h1, h2, h3⟩ := unset_spec l (val.set (sizeI x).toNat 0) (fun y hy => by rw [List.length_set]; exact h y (by simp [hy]))
    rw [List.length_set] at h2 h3
    refine ⟨val', h1, h2, fun v hv => ?_⟩
    rw [h3 v hv]
    have hs := @sizeI_toNat x
    by_cases c : ∃ y ∈ l, sizeI y = (v : Int)
    · have hyes : ∃ y ∈ x :: l, sizeI y = (v : Int) := by obtain ⟨y, hy, e⟩ := c; exact ⟨y, by simp [hy], e⟩
      rw [if_pos c, if_pos hyes]
    · rw [if_neg c, List.getElem?_set]
      by_cases g : sizeI x = (v : Int)
      · have hyes : ∃ y ∈ x :: l, sizeI y = (v : Int) := ⟨x, by simp, g⟩
        rw [if_pos (by omega), if_pos (by omega), if_pos hyes]
      · have hno : ¬ ∃ y ∈ x :: l, sizeI y = (v : Int) := by
          rintro ⟨y, hy, e⟩
          rcases List.mem_cons.1 hy with e1 | hy
          · exact g (by rw [← e1]; exact e)
          · exact c ⟨y, hy, e⟩
        rw [if_neg (by omega), if_neg hno]
theorem chosen_split {ch : List Int} (hp : ch.Pairwise (· < ·)) {b : Nat} {m : Int} (hm : ch[b]? = some m) : (∀ d ∈ ch.take b, d < m) ∧ ∀ d ∈ ch.drop b, m ≤ d := by
  have hbl := (List.getElem?_eq_some_iff.1 hm).1
  have hme := (List.getElem?_eq_some_iff.1 hm).2
  have e : ch = ch.take b ++ m :: ch.drop (b + 1) := by
    rw [← hme, ← List.drop_eq_getElem_cons hbl, List.take_append_drop]
  have hp' := hp
  rw [e, List.pairwise_append, List.pairwise_cons] at hp'
  refine ⟨fun d hd => hp'.2.2 d hd m (by simp), fun d hd => ?_⟩
  rw [List.drop_eq_getElem_cons hbl, hme] at hd
  rcases List.mem_cons.1 hd with rfl | hd
  · exact Int.le_refl _
  · exact Int.le_of_lt (hp'.2.1.1 d hd)
theorem lvl_take {ch : List Int} (hp : ch.Pairwise (· < ·)) {b : Nat} {m : Int} (hm : ch[b]? = some m) {j : Nat} (hj : (j : Int) < m) : lvl (ch.take b) j = lvl ch j := by
  have h := (chosen_split hp hm).2
  unfold lvl
  conv => rhs; rw [← List.take_append_drop b ch]
  have hnil : (ch.drop b).filter (fun d => decide (d ≤ (j : Int))) = [] := List.filter_eq_nil_iff.2 (fun d hd => by have := h d hd; simp; omega)
  rw [List.filter_append, hnil, List.append_nil]
theorem lvl_le {ch : List Int} (hp : ch.Pairwise (· < ·)) {b : Nat} {m : Int} (hm : ch[b]? = some m) {j : Nat} (hl : lvl ch j = (b : Int)) {d : Int} (hd : d ∈ ch.take b) : d ≤ (j : Int) := by
  by_cases c : d ≤ (j : Int)
  · exact c
  · exfalso
    have hbl := (List.getElem?_eq_some_iff.1 hm).1
    have h1 := (chosen_split hp hm).1 d hd
    rw [← lvl_take hp hm (show (j : Int) < m by omega)] at hl
    unfold lvl at hl
    have h2 : ((ch.take b).filter fun d => decide (d ≤ (j : Int))).length < (ch.take b).length := by
      refine Nat.lt_of_le_of_ne (List.length_filter_le _ _) (fun e => ?_)
      have := List.filter_eq_self.1 ((List.filter_sublist).eq_of_length e) d hd
      simp at this; omega
    rw [List.length_take] at h2
    omega
theorem IdleF.app {t : List Int} {c : List Int} (h : IdleF (tv t) c) : IdleF (tv t) c := h
theorem forget_spec {n : Nat} {s : St} {D : Nat} {lem : List Int} {back : Int} (I : Inv n s) (hD : Last s D) (hL : Learned n s D lem back) :
    ∃ s', forgetF { s with lemmas := s.lemmas ++ [lem], clauses := s.clauses ++ [lem] } back = some s' ∧ Inv n s' ∧ s'.clauses = s.clauses ++ [lem] ∧ s'.lemmas = s.lemmas ++ [lem] ∧ s'.weights = s.weights ∧ s'.by_ = s.by_ ∧ s'.trail.length < s.trail.length := by
  obtain ⟨⟨u, rest, i, rfl, hi, hu, hnd, hr, hb⟩, ⟨b0, b1⟩, _⟩ := hL
  obtain ⟨b, rfl⟩ := Int.eq_ofNat_of_zero_le b0
  have hbl : b < s.chosen.length := by omega
  obtain ⟨m0, hm0⟩ : ∃ m, s.chosen[b]? = some m := ⟨_, List.getElem?_eq_getElem hbl⟩
  obtain ⟨c1, c2⟩ := I.chb m0 (List.mem_of_getElem? hm0)
  obtain ⟨m, rfl⟩ := Int.eq_ofNat_of_zero_le c1
  have hml : m < s.trail.length := by omega
  have hmD : (m : Int) ≤ D := hD.max _ (List.mem_of_getElem? hm0)
  obtain ⟨sp1, sp2⟩ := chosen_split I.chs hm0
  have hg : gi s.chosen ((b : Nat) : Int) = some (m : Int) := by unfold gi; rw [if_pos (by omega), Int.toNat_natCast]; exact hm0
  obtain ⟨val', k1, k2, k3⟩ := unset_spec (s.trail.drop m) s.value (fun x hx => by
    have := sizeI_lit (I.tr.tin x (List.mem_of_mem_drop hx))
    rw [I.vlen]; omega)
  unfold forgetF
  rw [if_neg (by show ¬ ((b : Nat) : Int) = (s.chosen.length : Int); omega)]
  show ∃ s', ((gi s.chosen ((b : Nat) : Int)).bind _) = some s' ∧ _
  rw [hg, Option.bind_some]
  rw [if_pos ⟨by omega, by show (m : Int) ≤ (s.trail.length : Int); omega⟩]
  show ∃ s', ((unsetF (s.trail.drop (m : Int).toNat) s.value).map _) = some s' ∧ _
  rw [Int.toNat_natCast, k1, Option.map_some]
  have htl : (s.trail.take m).length = m := by rw [List.length_take]; omega
  have hat : ∀ (j : Nat) (x : Int), (s.trail.take m)[j]? = some x → j < m ∧ s.trail[j]? = some x := by
    intro j x h
    rw [List.getElem?_take] at h
    split at h
    · exact ⟨by assumption, h⟩
    · cases h
  have hul := I.tr.tin u (List.mem_of_getElem? hu)
  have hneg : lit n (-u) := ⟨by have := hul.1; omega, by have := hul.2.2; omega, by have := hul.2.1; omega⟩
  refine ⟨_, rfl, ⟨?_, I.llen, I.rlen, I.wlen, I.nb, I.tr.take m, ?_, ?_, ?_, ?_, ?_, ?_, ?_, I.wok, I.bok⟩, rfl, rfl, rfl, rfl, ?_⟩
  · show val'.length = _
    rw [k2]; exact I.vlen
  · intro c hc x hx
    rcases List.mem_append.1 hc with hc | hc
    · exact I.cin c hc x hx
    · rw [List.mem_singleton.1 hc] at hx
      rcases List.mem_cons.1 hx with rfl | hx
      · exact hneg
      · exact (hr x hx).1
  · intro v hv
    show val'[v]? = some (tv (s.trail.take m) v)
    rw [k3 v (by rw [I.vlen]; omega)]
    by_cases c : ∃ x ∈ s.trail.drop m, sizeI x = (v : Int)
    · rw [if_pos c]
      obtain ⟨x, hx, e⟩ := c
      congr 1
      symm
      obtain ⟨j, hj⟩ := List.getElem?_of_mem hx
      rw [List.getElem?_drop] at hj
      have hno : ∀ y, sizeI y = (v : Int) → y ∉ s.trail.take m := by
        intro y e2 hy
        obtain ⟨j2, hj2, hlt⟩ := mem_take_at hy
        have := nodup_at I.tr.nod hj2 hj (by rw [e2, e])
        omega
      have hsv : sizeI (v : Int) = (v : Int) := by unfold sizeI; rw [if_neg (by omega)]
      rw [tv_zero]
      exact ⟨hno _ hsv, hno _ (by rw [sizeI_neg]; exact hsv)⟩
    · rw [if_neg c, I.val v hv]
      congr 1
      have hsv : sizeI (v : Int) = (v : Int) := by unfold sizeI; rw [if_neg (by omega)]
      have hiff : ∀ y, sizeI y = (v : Int) → (y ∈ s.trail ↔ y ∈ s.trail.take m) := by
        intro y e2
        refine ⟨fun hy => ?_, fun hy => List.mem_of_mem_take hy⟩
        rw [← List.take_append_drop m s.trail] at hy
        rcases List.mem_append.1 hy with hy | hy
        · exact hy
        · exact absurd ⟨y, hy, e2⟩ c
      unfold tv
      have a1 := hiff _ hsv
      have a2 := hiff _ (show sizeI (-(v : Int)) = (v : Int) by rw [sizeI_neg]; exact hsv)
      simp only [a1, a2]
  · exact I.chs.sublist (List.take_sublist _ _)
  · intro d hd
    have hd' : d ∈ s.chosen.take b := hd
    show 0 ≤ d ∧ d < (((s.trail.take m).length : Nat) : Int)
    rw [htl]
    exact ⟨(I.chb d (List.mem_of_mem_take hd')).1, sp1 d hd'⟩
  · intro j x hj
    obtain ⟨h1, h2⟩ := hat j x hj
    show s.level[(sizeI x).toNat]? = some (lvl (s.chosen.take b) j)
    rw [lvl_take I.chs hm0 (by omega)]
    exact I.lev j x h2
  · intro j x hj
    obtain ⟨h1, h2⟩ := hat j x hj
    show (j : Int) ∈ s.chosen.take b ∨ ∃ (q : Nat) (c : List Int), s.reason[(sizeI x).toNat]? = some (q : Int) ∧ (s.clauses ++ [-u :: rest])[q]? = some c ∧ x ∈ c ∧ ∀ y ∈ c, y ≠ x → -y ∈ (s.trail.take m).take j
    rcases I.rea j x h2 with h | ⟨q, c, r1, r2, r3, r4⟩
    · left
      rw [← List.take_append_drop b s.chosen] at h
      rcases List.mem_append.1 h with h | h
      · exact h
      · have := sp2 _ h; omega
    · refine Or.inr ⟨q, c, r1, ?_, r3, ?_⟩
      · rw [List.getElem?_append_left (List.getElem?_eq_some_iff.1 r2).1]; exact r2
      · rw [List.take_take, Nat.min_eq_left (by omega)]; exact r4
  · intro d hd c hc
    have hd' : d ∈ s.chosen.take b := hd
    have hdm := sp1 d hd'
    have hd0 := (I.chb d (List.mem_of_mem_take hd')).1
    show IdleF (tv ((s.trail.take m).take d.toNat)) c
    rw [List.take_take, Nat.min_eq_left (by omega)]
    rcases List.mem_append.1 hc with hc | hc
    · exact I.dec d (List.mem_of_mem_take hd') c hc
    · rw [List.mem_singleton.1 hc]
      have hb0 : b ≠ 0 := by rintro rfl; simp at hd'
      rcases hb with hb | ⟨y, hy, j, j1, j2, j3⟩
      · omega
      · have hdj := lvl_le I.chs hm0 j3 hd'
        have hop : ∀ (x : Int) (p : Nat), s.trail[p]? = some x → d.toNat ≤ p → tv (s.trail.take d.toNat) x = 0 := by
          intro x p hp hle
          rw [tv_zero]
          refine ⟨fun h => ?_, fun h => ?_⟩
          · obtain ⟨j2, hj2, hlt⟩ := mem_take_at h
            have := nodup_at I.tr.nod hj2 hp rfl
            omega
          · exact I.tr.cons_not (List.mem_of_getElem? hp) (List.mem_of_mem_take h)
        have hv := (I.tr.take d.toNat).val
        refine Or.inr ⟨-u, by simp, y, by simp [hy], ?_, ?_, ?_⟩
        · rintro rfl
          rw [Int.neg_neg] at j1
          have := nodup_at I.tr.nod j1 hu rfl
          omega
        · rw [hv.1, hop u i hu (by omega)]; rfl
        · have := hop (-y) j j1 (by omega)
          rw [hv.1] at this
          omega
  · show (s.trail.take (m : Int).toNat).length < s.trail.length
    rw [Int.toNat_natCast, htl]; exact hml

end Go.Proofs.Ytmdjlhmifhnpdaa.SatW
namespace Go.Proofs.Ytmdjlhmifhnpdaa.SatW
set_option linter.unusedVariables false
set_option linter.unusedSimpArgs false
open Go.RowKit Go.Proofs.YtmdjlhmifhnpdaaW.PrintWords Go.Proofs.YtmdjlhmifhnpdaaW.PrintLast Go.Proofs.Ytmdjlhmifhnpdaa.B

/-! ### the loop -/
theorem oneB_W : Fl.W oneB := by unfold Fl.W oneB; omega
theorem after_spec {n : Nat} {s : St} {D : Nat} {lem : List Int} {back : Int} (I : Inv n s) (hD : Last s D) (hL : Learned n s D lem back) (kf : Nat) (hk : 2 * n + 4 ≤ kf) :
    ∃ s', afterF kf s lem back = some s' ∧ Inv n s' ∧ s'.clauses = s.clauses ++ [lem] ∧ s'.lemmas = s.lemmas ++ [lem] ∧ s'.trail.length < s.trail.length := by
  obtain ⟨s4, h1, I4, h2, h3, h4, h5, h6⟩ := forget_spec I hD hL
  have hnb := I.nb
  have hw : Fl.Ws s4.weights := fun x hx => (I4.wok x hx).1
  obtain ⟨r1, r2⟩ := Fl.rescale_Fin s4.weights I4.wok
  unfold afterF
  rw [h1, Option.bind_some, Fl.decay_f _ I4.bok, Option.bind_some, Fl.rescale_f _ hw (by rw [I4.wlen]; omega) kf (by rw [I4.wlen]; omega), Option.bind_some]
  refine ⟨_, rfl, ⟨I4.vlen, I4.llen, I4.rlen, by show (Fl.rescale s4.weights).1.length = _; rw [r1]; exact I4.wlen, I4.nb, I4.tr, I4.cin, I4.val, I4.chs, I4.chb, I4.lev, I4.rea, I4.dec, r2, ?_⟩, h2, h3, h6⟩
  show Fl.W (if (Fl.rescale s4.weights).2 = true then oneB else Fl.decay s4.by_)
  split
  · exact oneB_W
  · exact Fl.decay_W _
/-- Each lemma follows from what stands before it. -/
def Chain (l0 ls : List (List Int)) : Prop := ∀ (i : Nat) (c : List Int), ls[i]? = some c → Rup (l0 ++ ls.take i) c
theorem Chain.snoc {l0 ls : List (List Int)} {c : List Int} (h : Chain l0 ls) (hc : Rup (l0 ++ ls) c) : Chain l0 (ls ++ [c]) := by
  intro i d hd
  rcases getElem?_snoc hd with ⟨h1, h2⟩ | ⟨rfl, rfl⟩
  · rw [List.take_append_of_le_length (by omega)]; exact h i d h2
  · rw [List.take_append_of_le_length (Nat.le_refl _), List.take_length]; exact hc
/-- Two clauses of the same literals. -/
def Same (a b : List Int) : Prop := ∀ x, x ∈ a ↔ x ∈ b
theorem IdleF.same {F : Int → Int} {a b : List Int} (h : Same a b) (k : IdleF F a) : IdleF F b := by
  rcases k with ⟨x, hx, e⟩ | ⟨x, hx, y, hy, e⟩
  · exact Or.inl ⟨x, (h x).1 hx, e⟩
  · exact Or.inr ⟨x, (h x).1 hx, y, (h y).1 hy, e⟩
theorem Learned.fresh {n : Nat} {s : St} {D : Nat} {lem : List Int} {back : Int} (I : Inv n s) (hD : Last s D) (hL : Learned n s D lem back) : ∀ c ∈ s.clauses, ¬ Same c lem := by
  intro c hc hs
  obtain ⟨⟨u, rest, i, rfl, hi, hu, hnd, hr, hb⟩, _, _⟩ := hL
  have h1 := (I.dec (D : Int) hD.mem c hc).same hs
  rw [Int.toNat_natCast] at h1
  have hv := (I.tr.take D).val
  have hu0 : tv (s.trail.take D) u = 0 := by
    rw [tv_zero]
    refine ⟨fun h => ?_, fun h => ?_⟩
    · obtain ⟨j2, hj2, hlt⟩ := mem_take_at h
      have := nodup_at I.tr.nod hj2 hu rfl
      omega
    · exact I.tr.cons_not (List.mem_of_getElem? hu) (List.mem_of_mem_take h)
  have h2 := idle_unit (x := -u) h1 (fun y hy hne => by
    rcases List.mem_cons.1 hy with e | hy
    · exact absurd e hne
    · obtain ⟨_, j, j1, j2, _⟩ := hr y hy
      rw [(I.tr.take D).neg_iff]
      exact List.mem_of_getElem? (i := j) (by rw [List.getElem?_take, if_pos (by omega)]; exact j1))
  rw [hv.1, hu0] at h2
  omega
structure Lm (n : Nat) (l0 : List (List Int)) (s : St) : Prop where
  cl : s.clauses = l0 ++ s.lemmas
  ch : Chain l0 s.lemmas
  ap : s.lemmas.Pairwise fun a b => ¬ Same a b
  nd : ∀ c ∈ s.lemmas, (c.map sizeI).Nodup ∧ c ≠ [] ∧ ∀ x ∈ c, lit n x
theorem Learned.nd {n : Nat} {s : St} {D : Nat} {lem : List Int} {back : Int} (I : Inv n s) (hL : Learned n s D lem back) : (lem.map sizeI).Nodup ∧ lem ≠ [] ∧ ∀ x ∈ lem, lit n x := by
  obtain ⟨⟨u, rest, i, rfl, hi, hu, hnd, hr, hb⟩, _, _⟩ := hL
  have hul := I.tr.tin u (List.mem_of_getElem? hu)
  refine ⟨?_, by simp, fun x hx => ?_⟩
  · rw [List.map_cons, List.nodup_cons]
    refine ⟨fun h => ?_, hnd⟩
    obtain ⟨y, hy, e⟩ := List.mem_map.1 h
    obtain ⟨_, j, j1, j2, _⟩ := hr y hy
    have := nodup_at I.tr.nod j1 hu (by rw [sizeI_neg, e, sizeI_neg])
    omega
  · rcases List.mem_cons.1 hx with rfl | hx
    · exact ⟨by have := hul.1; omega, by have := hul.2.2; omega, by have := hul.2.1; omega⟩
    · exact (hr x hx).1
theorem Lm.after {n : Nat} {l0 : List (List Int)} {s s' : St} {D : Nat} {lem : List Int} {back : Int} (I : Inv n s) (hD : Last s D) (hL : Learned n s D lem back) (H : Lm n l0 s) (h1 : s'.clauses = s.clauses ++ [lem]) (h2 : s'.lemmas = s.lemmas ++ [lem]) : Lm n l0 s' := by
  refine ⟨by rw [h1, h2, H.cl, List.append_assoc], by rw [h2]; exact H.ch.snoc (by rw [← H.cl]; exact hL.rup), ?_, ?_⟩
  · rw [h2, List.pairwise_append]
    refine ⟨H.ap, by simp, fun a ha b hb => ?_⟩
    rw [List.mem_singleton.1 hb]
    exact hL.fresh I hD a (by rw [H.cl]; simp [ha])
  · intro c hc
    rw [h2] at hc
    rcases List.mem_append.1 hc with hc | hc
    · exact H.nd c hc
    · rw [List.mem_singleton.1 hc]; exact hL.nd I
/-- What an answer is. -/
inductive Res (n : Nat) (l0 : List (List Int)) (fuel : Int) : Ans → Prop
  | yes (t val : List Int) : Tr n t → (∀ v : Nat, 1 ≤ v → v ≤ n → tv t v ≠ 0) → (∀ c ∈ l0, ∃ x ∈ c, x ∈ t) → val.length = n + 1 → (∀ v : Nat, v ≤ n → val[v]? = some (tv t v)) → Res n l0 fuel (1, val.map fun x => decide (x > 0), [])
  | no (ls : List (List Int)) : Chain l0 ls → Rup (l0 ++ ls) [] → (∀ c ∈ ls, ∀ x ∈ c, lit n x) → (∀ c ∈ ls, c.length ≤ n) → (ls.length : Int) ≤ max fuel 0 → Res n l0 fuel (2, [], ls ++ [[]])
  | unknown (ls : List (List Int)) : fuel < (ls.length : Int) → (ls.Pairwise fun a b => ¬ Same a b) → (∀ c ∈ ls, (c.map sizeI).Nodup ∧ c ≠ [] ∧ ∀ x ∈ c, lit n x) → Res n l0 fuel (0, [], [])
theorem level0_rup {n : Nat} {s : St} (I : Inv n s) (h0 : s.chosen = []) {c : List Int} (hc : c ∈ s.clauses) (hf : ∀ x ∈ c, tv s.trail x = -1) : Rup s.clauses [] := by
  rintro ⟨F, hF, _, hid⟩
  have key : ∀ (j : Nat) (x : Int), s.trail[j]? = some x → F x = 1 := by
    intro j
    induction j using Nat.strongRecOn with
    | ind j ih =>
      intro x hx
      rcases I.rea j x hx with h | ⟨q2, c2, r1, r2, r3, r4⟩
      · rw [h0] at h; simp at h
      · refine idle_unit (hid c2 (List.mem_of_getElem? r2)) (fun y hy hne => ?_)
        obtain ⟨j2, hj2, hlt⟩ := mem_take_at (r4 y hy hne)
        have h1 := ih j2 hlt (-y) hj2
        rw [hF.1] at h1
        omega
  refine idle_not_false (hid c hc) (fun x hx => ?_)
  obtain ⟨j, hj⟩ := List.getElem?_of_mem (tv_neg (hf x hx))
  have h1 := key j (-x) hj
  rw [hF.1] at h1
  omega
theorem last_of {n : Nat} {s : St} (I : Inv n s) (h : s.chosen ≠ []) : ∃ D, Last s D := by
  have h1 := List.getLast_mem h
  obtain ⟨d0, _⟩ := I.chb _ h1
  obtain ⟨D, hD⟩ := Int.eq_ofNat_of_zero_le d0
  refine ⟨D, by rw [← hD]; exact h1, fun d hd => ?_⟩
  rw [← hD]
  obtain ⟨j, hj⟩ := List.getElem?_of_mem hd
  have hjl := (List.getElem?_eq_some_iff.1 hj).1
  have hje := (List.getElem?_eq_some_iff.1 hj).2
  rw [List.getLast_eq_getElem]
  by_cases g : j = s.chosen.length - 1
  · subst g; rw [hje]; exact Int.le_refl _
  · have := List.pairwise_iff_getElem.1 I.chs j (s.chosen.length - 1) hjl (by omega) (by omega)
    rw [hje] at this
    omega
theorem okb_of {n : Nat} {s : St} (I : Inv n s) (h1 : ∀ c ∈ s.clauses, c.length ≤ 1000000) (h2 : s.clauses.length < 1000000000) (h3 : s.lemmas.length < 1000000000) : Okb s := by
  have hnb := I.nb
  refine ⟨⟨by omega, fun c hc => ⟨h1 c hc, fun x hx => ?_⟩, fun y hy => ?_⟩, fun x hx => ?_, by rw [I.vlen]; omega, h3, h2⟩
  · have := I.cin c hc x hx
    obtain ⟨_, a, b⟩ := this
    omega
  · obtain ⟨j, hj⟩ := List.getElem?_of_mem hy
    have hjl := (List.getElem?_eq_some_iff.1 hj).1
    rw [I.vlen] at hjl
    rw [I.val j (by omega)] at hj
    cases hj
    rcases tv_cases s.trail j with h | h | h <;> omega
  · obtain ⟨_, a, b⟩ := I.tr.tin x hx
    omega

end Go.Proofs.Ytmdjlhmifhnpdaa.SatW
namespace Go.Proofs.Ytmdjlhmifhnpdaa.SatW
set_option linter.unusedVariables false
set_option linter.unusedSimpArgs false
open Go.RowKit Go.Proofs.YtmdjlhmifhnpdaaW.PrintWords Go.Proofs.YtmdjlhmifhnpdaaW.PrintLast Go.Proofs.Ytmdjlhmifhnpdaa.B

theorem lm_len {n : Nat} {l0 : List (List Int)} {s : St} (H : Lm n l0 s) : ∀ c ∈ s.lemmas, c.length ≤ n := by
  intro c hc
  obtain ⟨h1, _, h2⟩ := H.nd c hc
  have := nodup_bound n (c.map sizeI) h1 (fun x hx => by
    obtain ⟨y, hy, rfl⟩ := List.mem_map.1 hx
    exact sizeI_lit (h2 y hy))
  rwa [List.length_map] at this
theorem lm_okb {n : Nat} {l0 : List (List Int)} {s : St} (I : Inv n s) (H : Lm n l0 s) (hl1 : ∀ c ∈ l0, c.length ≤ 1000000) (hl2 : l0.length ≤ 1000000) (hm : s.lemmas.length ≤ 900000000) : Okb s := by
  refine okb_of I (fun c hc => ?_) (by rw [H.cl, List.length_append]; omega) (by omega)
  rw [H.cl] at hc
  rcases List.mem_append.1 hc with hc | hc
  · exact hl1 c hc
  · have := lm_len H c hc
    have := I.nb
    omega
theorem Learned.w {n : Nat} {s : St} {D : Nat} {lem : List Int} {back : Int} (h : Learned n s D lem back) (ws : List Nat) : Learned n { s with weights := ws } D lem back := ⟨h.sh, h.bk, h.rup⟩
theorem loop_main {n : Nat} {l0 : List (List Int)} {fuel : Int} {kf : Nat} (hkf : 2 * n + 4 ≤ kf) (hl1 : ∀ c ∈ l0, c.length ≤ 1000000) (hl2 : l0.length ≤ 1000000) (hfu : fuel ≤ 900000000) : ∀ (k : Nat) (s : St), Inv n s → Lm n l0 s → (s.lemmas.length : Int) ≤ max fuel 0 →
    (fuel.toNat - s.lemmas.length) * (n + 2) + (n + 1 - s.trail.length) < k → ∃ r, solveLoop k kf fuel s = some r ∧ Res n l0 fuel r
  | 0, s, I, H, hb, hk => by omega
  | k + 1, s, I, H, hb, hk => by
    have hnb := I.nb
    obtain ⟨s2, r, sp1, I2, Sp⟩ := spread_inv kf s I (by omega)
    have H2 : Lm n l0 s2 := ⟨by rw [Sp.cl, Sp.lm]; exact H.cl, by rw [Sp.lm]; exact H.ch, by rw [Sp.lm]; exact H.ap, by rw [Sp.lm]; exact H.nd⟩
    have ok1 := lm_okb I H hl1 hl2 (by omega)
    have hlm := Sp.lm
    have ok2 := lm_okb I2 H2 hl1 hl2 (by rw [hlm]; omega)
    obtain ⟨ext, hext⟩ := Sp.ext
    have hel : s2.trail.length = s.trail.length + ext.length := by rw [hext, List.length_append]
    rw [solveLoop]
    unfold stepF
    rw [if_pos ok1, sp1, Option.bind_some]
    simp only
    rw [if_pos ok2]
    rcases Sp.ans with ⟨rfl, hid⟩ | ⟨q, c, rfl, hq, hf⟩
    · rw [if_pos rfl]
      obtain ⟨s3, b, ch1, ch2⟩ := choose_spec I2 hid
      rw [ch1, Option.bind_some]
      rcases ch2 with ⟨rfl, rfl, hall⟩ | ⟨rfl, I3, x, hx, hx0, t1, t2, t3, t4⟩
      · rw [if_neg (by simp), Option.bind_some]
        refine ⟨_, rfl, ?_⟩
        refine Res.yes s3.trail s3.value I2.tr hall (fun c hc => ?_) I2.vlen I2.val
        have hop : ∀ y ∈ c, tv s3.trail y ≠ 0 := by
          intro y hy h0
          have hl := I2.cin c (by rw [H2.cl]; simp [hc]) y hy
          obtain ⟨z1, z2⟩ := sizeI_lit hl
          have h1 := hall (sizeI y).toNat (by omega) (by omega)
          rw [sizeI_toNat] at h1
          unfold sizeI at h1
          split at h1
          · rw [I2.tr.val.1, h0] at h1; exact h1 rfl
          · exact h1 h0
        rcases hid c (by rw [H2.cl]; simp [hc]) with ⟨y, hy, e⟩ | ⟨y, hy, z, hz, _, e, _⟩
        · exact ⟨y, hy, tv_one.1 e⟩
        · exact absurd e (hop y hy)
      · rw [if_pos rfl, Option.bind_some]
        have H3 : Lm n l0 s3 := ⟨by rw [t3, t4]; exact H2.cl, by rw [t4]; exact H2.ch, by rw [t4]; exact H2.ap, by rw [t4]; exact H2.nd⟩
        have h3l := I3.tr.len
        rw [t1, List.length_append, List.length_singleton] at h3l
        exact loop_main hkf hl1 hl2 hfu k s3 I3 H3 (by rw [t4, hlm]; exact hb) (by rw [t4, hlm, t1, List.length_append, List.length_singleton]; omega)
    · rw [if_neg (by omega)]
      by_cases c0 : s2.chosen.length = 0
      · rw [if_pos c0, Option.bind_some]
        refine ⟨_, rfl, Res.no s2.lemmas H2.ch ?_ (fun c hc => (H2.nd c hc).2.2) (lm_len H2) (by rw [hlm]; exact hb)⟩
        rw [← H2.cl]
        exact level0_rup I2 (List.eq_nil_of_length_eq_zero c0) (List.mem_of_getElem? hq) hf
      · rw [if_neg c0]
        obtain ⟨D, hD⟩ := last_of I2 (fun e => c0 (by rw [e]; rfl))
        obtain ⟨ws, lem, back, le1, le2, le3, hL⟩ := learn_spec I2 hD hq hf kf (by omega)
        by_cases c1 : fuel ≤ (s2.lemmas.length : Int)
        · rw [if_pos c1, Option.bind_some]
          have H4 := Lm.after (s' := { s2 with clauses := s2.clauses ++ [lem], lemmas := s2.lemmas ++ [lem] }) I2 hD hL H2 rfl rfl
          refine ⟨_, rfl, Res.unknown (s2.lemmas ++ [lem]) ?_ H4.ap H4.nd⟩
          rw [List.length_append, List.length_singleton]; omega
        · rw [if_neg c1, le1, Option.bind_some]
          have I3 := I2.w le2 le3
          obtain ⟨s6, af1, I6, af2, af3, af4⟩ := after_spec I3 (D := D) ⟨hD.mem, hD.max⟩ (hL.w ws) kf hkf
          simp only
          rw [af1, Option.map_some, Option.bind_some]
          have H6 := Lm.after (s := s2) (s' := s6) I2 hD hL H2 af2 af3
          have h6 : s6.lemmas.length = s.lemmas.length + 1 := by
            rw [af3, List.length_append, List.length_singleton]
            show s2.lemmas.length + 1 = _
            rw [hlm]
          rw [hlm] at c1
          refine loop_main hkf hl1 hl2 hfu k s6 I6 H6 (by rw [h6]; omega) ?_
          obtain ⟨a, ha⟩ : ∃ a, fuel.toNat - s.lemmas.length = a + 1 := ⟨fuel.toNat - s.lemmas.length - 1, by omega⟩
          rw [ha, Nat.succ_mul] at hk
          rw [h6, show fuel.toNat - (s.lemmas.length + 1) = a by omega]
          omega

end Go.Proofs.Ytmdjlhmifhnpdaa.SatW
namespace Go.Proofs.Ytmdjlhmifhnpdaa.SatW
set_option linter.unusedVariables false
set_option linter.unusedSimpArgs false
open Go.RowKit Go.Proofs.YtmdjlhmifhnpdaaW.PrintWords Go.Proofs.YtmdjlhmifhnpdaaW.PrintLast Go.Proofs.Ytmdjlhmifhnpdaa.B

/-! ### Solve -/
theorem rightF_iff {l0 : List (List Int)} {a1 : Int} : rightF l0 a1 = true ↔ (0 ≤ a1 ∧ a1 ≤ 10000) ∧ ∀ c ∈ l0, ∀ x ∈ c, lit a1.toNat x := by
  unfold rightF
  simp only [Bool.and_eq_true, decide_eq_true_eq, List.all_eq_true, Bool.not_eq_true', List.any_eq_false]
  constructor
  · rintro ⟨⟨h1, h2⟩, h3⟩
    refine ⟨⟨h1, h2⟩, fun c hc x hx => ?_⟩
    have := h3 c hc x hx
    unfold badB at this
    simp only [Bool.or_eq_true, beq_iff_eq, decide_eq_true_eq, not_or] at this
    exact ⟨this.1.1, by omega, by omega⟩
  · rintro ⟨⟨h1, h2⟩, h3⟩
    refine ⟨⟨h1, h2⟩, fun c hc x hx => ?_⟩
    obtain ⟨p, q, r⟩ := h3 c hc x hx
    unfold badB
    simp only [Bool.or_eq_true, beq_iff_eq, decide_eq_true_eq, not_or]
    exact ⟨⟨p, by omega⟩, by omega⟩
theorem inv_start {n : Nat} {l0 : List (List Int)} (hn : n ≤ 10000) (h : ∀ c ∈ l0, ∀ x ∈ c, lit n x) : Inv n (st0 l0 (n + 1)) ∧ Lm n l0 (st0 l0 (n + 1)) := by
  refine ⟨⟨List.length_replicate, List.length_replicate, List.length_replicate, List.length_replicate, hn, ⟨by simp [st0], by simp [st0]⟩, h, fun v hv => ?_, by simp [st0], by simp [st0], fun j x hj => by simp [st0] at hj, fun j x hj => by simp [st0] at hj, by simp [st0], fun w hw => ?_, oneB_W⟩, ⟨by simp [st0], fun i c hc => by simp [st0] at hc, by simp [st0], by simp [st0]⟩⟩
  · show (List.replicate (n + 1) (0 : Int))[v]? = some (tv [] v)
    rw [List.getElem?_replicate, if_pos (by omega)]; rfl
  · rw [List.eq_of_mem_replicate hw]
    exact ⟨by unfold Fl.W; omega, by unfold Fl.rung Fl.inf; omega⟩
theorem solve_main {l0 : List (List Int)} {a1 a2 : Int} (hr : rightF l0 a1 = true) (hl1 : ∀ c ∈ l0, c.length ≤ 1000000) (hl2 : l0.length ≤ 1000000) (hfu : a2 ≤ 900000000) : ∃ k r, solveF k l0 a1 a2 = some r ∧ Res a1.toNat l0 a2 r := by
  obtain ⟨⟨h1, h2⟩, h3⟩ := rightF_iff.1 hr
  obtain ⟨I, H⟩ := inv_start (n := a1.toNat) (by omega) h3
  have e : (a1 + 1).toNat = a1.toNat + 1 := by omega
  refine ⟨(a2.toNat) * (a1.toNat + 2) + (a1.toNat + 1) + 1 + (2 * a1.toNat + 4), ?_⟩
  unfold solveF
  rw [hr, if_neg (by simp), if_pos (by omega), e]
  exact loop_main (by omega) hl1 hl2 hfu _ _ I H (by show ((0 : Nat) : Int) ≤ _; omega) (by show (a2.toNat - 0) * _ + (a1.toNat + 1 - 0) < _; simp only [Nat.sub_zero]; omega)
theorem solve_wrong {l0 : List (List Int)} {a1 a2 : Int} (hr : rightF l0 a1 = false) (k : Nat) : solveF k l0 a1 a2 = some (0, [], []) := by
  unfold solveF; rw [hr, if_pos rfl]

end Go.Proofs.Ytmdjlhmifhnpdaa.SatW
namespace Go.Proofs.Ytmdjlhmifhnpdaa.SatW
set_option linter.unusedVariables false
set_option linter.unusedSimpArgs false
open Go.RowKit Go.Proofs.YtmdjlhmifhnpdaaW.PrintWords Go.Proofs.YtmdjlhmifhnpdaaW.PrintLast Go.Proofs.Ytmdjlhmifhnpdaa.B

theorem spread_mono : ∀ (k : Nat) (s : St), LeO (spreadF k s) (spreadF (k + 1) s)
  | 0, s => LeO.none _
  | k + 1, s => by
    intro r h
    rw [spreadF] at h ⊢
    obtain ⟨q, h1, h⟩ := Option.bind_eq_some_iff.mp h
    rw [h1, Option.bind_some]
    split at h
    · rw [if_pos (by assumption)]; exact h
    · rw [if_neg (by assumption)]
      split at h
      · rw [if_pos (by assumption)]; exact h
      · rw [if_neg (by assumption)]
        obtain ⟨s1, h2, h⟩ := Option.bind_eq_some_iff.mp h
        rw [h2, Option.bind_some]
        exact spread_mono k s1 r h
theorem learnLoop_mono : ∀ (k : Nat) (s : St) (L : Ln) (i : Int), LeO (learnLoop k s L i) (learnLoop (k + 1) s L i)
  | 0, s, L, i => LeO.none _
  | k + 1, s, L, i => by
    intro r h
    rw [learnLoop] at h ⊢
    obtain ⟨n, h1, h⟩ := Option.bind_eq_some_iff.mp h
    rw [h1, Option.bind_some]
    obtain ⟨b, h2, h⟩ := Option.bind_eq_some_iff.mp h
    rw [h2, Option.bind_some]
    split at h
    · rw [if_pos (by assumption)]; exact learnLoop_mono k s L _ r h
    · rw [if_neg (by assumption)]
      split at h
      · rw [if_pos (by assumption)]
        split at h
        · rw [if_pos (by assumption)]; exact h
        · rw [if_neg (by assumption)]
          obtain ⟨q, h3, h⟩ := Option.bind_eq_some_iff.mp h
          rw [h3, Option.bind_some]
          obtain ⟨c, h4, h⟩ := Option.bind_eq_some_iff.mp h
          rw [h4, Option.bind_some]
          obtain ⟨p, h5, h⟩ := Option.bind_eq_some_iff.mp h
          rw [h5, Option.bind_some]
          exact learnLoop_mono k p.1 p.2 _ r h
      · cases h
theorem learn_mono (k : Nat) (s : St) (cf : Int) : LeO (learnF k s cf) (learnF (k + 1) s cf) := by
  intro r h
  unfold learnF at h ⊢
  obtain ⟨c, h1, h⟩ := Option.bind_eq_some_iff.mp h
  rw [h1, Option.bind_some]
  obtain ⟨p, h2, h⟩ := Option.bind_eq_some_iff.mp h
  rw [h2, Option.bind_some]
  exact learnLoop_mono k p.1 p.2 _ r h
theorem after_mono (k : Nat) (s : St) (lem : List Int) (back : Int) : LeO (afterF k s lem back) (afterF (k + 1) s lem back) := by
  intro r h
  unfold afterF at h ⊢
  obtain ⟨c, h1, h⟩ := Option.bind_eq_some_iff.mp h
  rw [h1, Option.bind_some]
  obtain ⟨b, h2, h⟩ := Option.bind_eq_some_iff.mp h
  rw [h2, Option.bind_some]
  obtain ⟨p, h3, h⟩ := Option.bind_eq_some_iff.mp h
  rw [weigh_Rescale.mono _ _ _ h3, Option.bind_some]
  exact h
theorem step_mono (k : Nat) (fuel : Int) (s : St) : LeO (stepF k fuel s) (stepF (k + 1) fuel s) := by
  intro r h
  unfold stepF at h ⊢
  split at h
  · rw [if_pos (by assumption)]
    obtain ⟨p, h1, h⟩ := Option.bind_eq_some_iff.mp h
    rw [spread_mono k s _ h1, Option.bind_some]
    split at h
    · rw [if_pos (by assumption)]
      split at h
      · rw [if_pos (by assumption)]; exact h
      · rw [if_neg (by assumption)]
        split at h
        · rw [if_pos (by assumption)]; exact h
        · rw [if_neg (by assumption)]
          split at h
          · rw [if_pos (by assumption)]; exact h
          · rw [if_neg (by assumption)]
            obtain ⟨q, h2, h⟩ := Option.bind_eq_some_iff.mp h
            rw [learn_mono k _ _ _ h2, Option.bind_some]
            obtain ⟨s6, h3, h⟩ := Option.map_eq_some_iff.1 h
            rw [after_mono k _ _ _ _ h3, Option.map_some, h]
    · cases h
  · cases h
theorem loop_mono_k : ∀ (k kf : Nat) (fuel : Int) (s : St), LeO (solveLoop k kf fuel s) (solveLoop (k + 1) kf fuel s)
  | 0, kf, fuel, s => LeO.none _
  | k + 1, kf, fuel, s => by
    intro r h
    rw [solveLoop] at h ⊢
    obtain ⟨p, h1, h⟩ := Option.bind_eq_some_iff.mp h
    rw [h1, Option.bind_some]
    cases p with
    | inl s' => exact loop_mono_k k kf fuel s' r h
    | inr a => exact h
theorem loop_mono_f : ∀ (k kf : Nat) (fuel : Int) (s : St), LeO (solveLoop k kf fuel s) (solveLoop k (kf + 1) fuel s)
  | 0, kf, fuel, s => LeO.none _
  | k + 1, kf, fuel, s => by
    intro r h
    rw [solveLoop] at h ⊢
    obtain ⟨p, h1, h⟩ := Option.bind_eq_some_iff.mp h
    rw [step_mono kf fuel s _ h1, Option.bind_some]
    cases p with
    | inl s' => exact loop_mono_f k kf fuel s' r h
    | inr a => exact h
theorem solve_mono (l0 : List (List Int)) (a1 a2 : Int) (k : Nat) : LeO (solveF k l0 a1 a2) (solveF (k + 1) l0 a1 a2) := by
  intro r h
  unfold solveF at h ⊢
  split at h
  · rw [if_pos (by assumption)]; exact h
  · rw [if_neg (by assumption)]
    split at h
    · rw [if_pos (by assumption)]
      exact loop_mono_f _ _ _ _ _ (loop_mono_k _ _ _ _ _ h)
    · cases h

end Go.Proofs.Ytmdjlhmifhnpdaa.SatW
namespace Go.Proofs.Ytmdjlhmifhnpdaa.SatW
set_option linter.unusedVariables false
set_option linter.unusedSimpArgs false
open Go.RowKit Go.Proofs.YtmdjlhmifhnpdaaW.PrintWords Go.Proofs.YtmdjlhmifhnpdaaW.PrintLast Go.Proofs.Ytmdjlhmifhnpdaa.B

/-! ### Counting -/
def dig (c : List Int) (v : Nat) : Nat := if (v : Int) ∈ c then 1 else if -(v : Int) ∈ c then 2 else 0
def code : Nat → List Int → Nat
  | 0, _ => 0
  | n + 1, c => dig c (n + 1) * 3 ^ n + code n c
theorem dig_lt (c : List Int) (v : Nat) : dig c v < 3 := by
  unfold dig
  split
  · omega
  · split <;> omega
theorem code_lt (c : List Int) : ∀ n, code n c < 3 ^ n
  | 0 => by simp [code]
  | n + 1 => by
    have h1 := code_lt c n
    have h2 := dig_lt c (n + 1)
    rw [code, Nat.pow_succ]
    have : dig c (n + 1) * 3 ^ n ≤ 2 * 3 ^ n := Nat.mul_le_mul_right _ (by omega)
    omega
theorem code_inj (c d : List Int) : ∀ n, code n c = code n d → ∀ v : Nat, 1 ≤ v → v ≤ n → dig c v = dig d v
  | 0, _, v, h1, h2 => by omega
  | n + 1, h, v, h1, h2 => by
    rw [code, code] at h
    have a := code_lt c n
    have b := code_lt d n
    have hd : dig c (n + 1) = dig d (n + 1) ∧ code n c = code n d := by
      have e1 : (dig c (n + 1) * 3 ^ n + code n c) / 3 ^ n = dig c (n + 1) := by
        rw [Nat.add_comm, Nat.add_mul_div_right _ _ (by omega), Nat.div_eq_of_lt a, Nat.zero_add]
      have e2 : (dig d (n + 1) * 3 ^ n + code n d) / 3 ^ n = dig d (n + 1) := by
        rw [Nat.add_comm, Nat.add_mul_div_right _ _ (by omega), Nat.div_eq_of_lt b, Nat.zero_add]
      rw [h] at e1
      have e3 := e1.symm.trans e2
      refine ⟨e3, ?_⟩
      rw [e3] at h
      omega
    by_cases c1 : v = n + 1
    · subst c1; exact hd.1
    · exact code_inj c d n hd.2 v h1 (by omega)
theorem not_both {c : List Int} (hn : (c.map sizeI).Nodup) {x : Int} (h0 : x ≠ 0) (hx : x ∈ c) : -x ∉ c := by
  intro h
  have := map_inj_of_nodup hn hx h (sizeI_neg x).symm
  omega
theorem same_of_code {n : Nat} {c d : List Int} (hc : (c.map sizeI).Nodup ∧ ∀ x ∈ c, lit n x) (hd : (d.map sizeI).Nodup ∧ ∀ x ∈ d, lit n x) (h : code n c = code n d) : Same c d := by
  have key : ∀ (c d : List Int), (c.map sizeI).Nodup → (∀ x ∈ c, lit n x) → (∀ v : Nat, 1 ≤ v → v ≤ n → dig c v = dig d v) → ∀ x ∈ c, x ∈ d := by
    intro c d hn hl hg x hx
    obtain ⟨l1, l2, l3⟩ := hl x hx
    by_cases p : 0 < x
    · have := hg x.toNat (by omega) (by omega)
      have e : ((x.toNat : Nat) : Int) = x := by omega
      unfold dig at this
      rw [e, if_pos hx] at this
      split at this
      · assumption
      · split at this <;> omega
    · have := hg (-x).toNat (by omega) (by omega)
      have e : (((-x).toNat : Nat) : Int) = -x := by omega
      unfold dig at this
      rw [e, Int.neg_neg, if_neg (not_both hn l1 hx), if_pos hx] at this
      split at this
      · omega
      · split at this
        · assumption
        · omega
  exact fun x => ⟨key c d hc.1 hc.2 (code_inj c d n h) x, key d c hd.1 hd.2 (fun v h1 h2 => (code_inj c d n h v h1 h2).symm) x⟩
theorem code_pos {n : Nat} {c : List Int} (hc : (c.map sizeI).Nodup ∧ ∀ x ∈ c, lit n x) (h0 : c ≠ []) : code n c ≠ 0 := by
  intro h
  have h1 : code n ([] : List Int) = 0 := by
    have : ∀ n, code n ([] : List Int) = 0 := by
      intro n
      induction n with
      | zero => rfl
      | succ n ih => rw [code, ih]; simp [dig]
    exact this n
  have hs := same_of_code hc ⟨by simp, by simp⟩ (h.trans h1.symm)
  cases c with
  | nil => exact h0 rfl
  | cons x c => have := (hs x).1 (by simp); simp at this
theorem count_lt {n : Nat} {ls : List (List Int)} (hp : ls.Pairwise fun a b => ¬ Same a b) (h : ∀ c ∈ ls, (c.map sizeI).Nodup ∧ c ≠ [] ∧ ∀ x ∈ c, lit n x) : ls.length < 3 ^ n := by
  have hnd : (ls.map fun c => (code n c : Int)).Nodup := by
    rw [List.Nodup, List.pairwise_map]
    refine hp.imp_of_mem (fun {a b} ha hb hab e => hab ?_)
    exact same_of_code ⟨(h a ha).1, (h a ha).2.2⟩ ⟨(h b hb).1, (h b hb).2.2⟩ (by omega)
  have hpow : 0 < 3 ^ n := Nat.pow_pos (by omega)
  have := nodup_bound (3 ^ n - 1) (ls.map fun c => (code n c : Int)) hnd (fun x hx => by
    obtain ⟨c, hc, rfl⟩ := List.mem_map.1 hx
    have h1 := code_lt c n
    have h2 := code_pos ⟨(h c hc).1, (h c hc).2.2⟩ (h c hc).2.1
    omega)
  rw [List.length_map] at this
  omega
theorem Res.fuel {n : Nat} {l0 : List (List Int)} {fuel : Int} {r : Ans} (h : Res n l0 fuel r) (hf : ((3 ^ n : Nat) : Int) ≤ fuel + 1) : r.1 ≠ 0 := by
  cases h with
  | yes t val => simp
  | no ls => simp
  | unknown ls h1 h2 h3 =>
    exfalso
    have := count_lt h2 h3
    omega

end Go.Proofs.Ytmdjlhmifhnpdaa.SatW
namespace Go.Proofs.Ytmdjlhmifhnpdaa.SatW
set_option linter.unusedVariables false
set_option linter.unusedSimpArgs false
open Go.RowKit Go.Proofs.YtmdjlhmifhnpdaaW.PrintWords Go.Proofs.YtmdjlhmifhnpdaaW.PrintLast Go.Proofs.Ytmdjlhmifhnpdaa.B

/-- Clauses that unit propagation alone makes false: the answer is No at once. -/
theorem solve_conflict {l0 : List (List Int)} {a1 : Int} (a2 : Int) (hr : rightF l0 a1 = true) (hl1 : ∀ c ∈ l0, c.length ≤ 1000000) (hl2 : l0.length ≤ 1000000) (hR : Rup l0 []) : ∃ k, solveF k l0 a1 a2 = some (2, [], [[]]) := by
  obtain ⟨⟨h1, h2⟩, h3⟩ := rightF_iff.1 hr
  obtain ⟨I, H⟩ := inv_start (n := a1.toNat) (by omega) h3
  have e : (a1 + 1).toNat = a1.toNat + 1 := by omega
  refine ⟨a1.toNat + 2, ?_⟩
  unfold solveF
  rw [hr, if_neg (by simp), if_pos (by omega), e, solveLoop]
  obtain ⟨s2, r, sp1, I2, Sp⟩ := spread_inv (a1.toNat + 2) _ I (by omega)
  have H2 : Lm a1.toNat l0 s2 := ⟨by rw [Sp.cl, Sp.lm]; exact H.cl, by rw [Sp.lm]; exact H.ch, by rw [Sp.lm]; exact H.ap, by rw [Sp.lm]; exact H.nd⟩
  have hlm : s2.lemmas = [] := Sp.lm
  have hch : s2.chosen = [] := Sp.ch
  unfold stepF
  rw [if_pos (lm_okb I H hl1 hl2 (by show 0 ≤ _; omega)), sp1, Option.bind_some]
  simp only
  rw [if_pos (lm_okb I2 H2 hl1 hl2 (by rw [hlm]; show 0 ≤ _; omega))]
  rcases Sp.ans with ⟨rfl, hid⟩ | ⟨q, c, rfl, hq, hf⟩
  · exact absurd ⟨tv s2.trail, I2.tr.val, by simp, fun d hd => hid d (by rw [H2.cl]; simp [hd])⟩ hR
  · rw [if_neg (by omega), if_pos (by rw [hch]; rfl), Option.bind_some, hlm]
    rfl
/-- Clauses that all are true on the trail: the answer is Yes, whatever the fuel. -/
theorem loop_true {n : Nat} {l0 : List (List Int)} {kf : Nat} (fuel : Int) (hkf : 2 * n + 4 ≤ kf) (hl1 : ∀ c ∈ l0, c.length ≤ 1000000) (hl2 : l0.length ≤ 1000000) : ∀ (k : Nat) (s : St), Inv n s → Lm n l0 s → s.lemmas = [] → (∀ c ∈ l0, ∃ x ∈ c, x ∈ s.trail) → n + 1 - s.trail.length < k → ∃ t val : List Int, solveLoop k kf fuel s = some (1, val.map (fun x => decide (x > 0)), []) ∧ Tr n t ∧ (∀ c ∈ l0, ∃ x ∈ c, x ∈ t) ∧ val.length = n + 1 ∧ ∀ v : Nat, v ≤ n → val[v]? = some (tv t v)
  | 0, s, I, H, hm, ht, hk => by omega
  | k + 1, s, I, H, hm, ht, hk => by
    obtain ⟨s2, r, sp1, I2, Sp⟩ := spread_inv kf s I (by omega)
    have H2 : Lm n l0 s2 := ⟨by rw [Sp.cl, Sp.lm]; exact H.cl, by rw [Sp.lm]; exact H.ch, by rw [Sp.lm]; exact H.ap, by rw [Sp.lm]; exact H.nd⟩
    have hm2 : s2.lemmas = [] := Sp.lm.trans hm
    obtain ⟨ext, hext⟩ := Sp.ext
    have hel : s2.trail.length = s.trail.length + ext.length := by rw [hext, List.length_append]
    have ht2 : ∀ c ∈ l0, ∃ x ∈ c, x ∈ s2.trail := fun c hc => by
      obtain ⟨x, hx, hxt⟩ := ht c hc
      exact ⟨x, hx, by rw [hext]; simp [hxt]⟩
    have hcl : s2.clauses = l0 := by rw [H2.cl, hm2, List.append_nil]
    rw [solveLoop]
    unfold stepF
    rw [if_pos (lm_okb I H hl1 hl2 (by rw [hm]; show 0 ≤ _; omega)), sp1, Option.bind_some]
    simp only
    rw [if_pos (lm_okb I2 H2 hl1 hl2 (by rw [hm2]; show 0 ≤ _; omega))]
    rcases Sp.ans with ⟨rfl, hid⟩ | ⟨q, c, rfl, hq, hf⟩
    · rw [if_pos rfl]
      obtain ⟨s3, b, ch1, ch2⟩ := choose_spec I2 hid
      rw [ch1, Option.bind_some]
      rcases ch2 with ⟨rfl, rfl, hall⟩ | ⟨rfl, I3, x, hx, hx0, t1, t2, t3, t4⟩
      · rw [if_neg (by simp), Option.bind_some]
        exact ⟨s3.trail, s3.value, rfl, I2.tr, ht2, I2.vlen, I2.val⟩
      · rw [if_pos rfl, Option.bind_some]
        have H3 : Lm n l0 s3 := ⟨by rw [t3, t4]; exact H2.cl, by rw [t4]; exact H2.ch, by rw [t4]; exact H2.ap, by rw [t4]; exact H2.nd⟩
        have h3l := I3.tr.len
        rw [t1, List.length_append, List.length_singleton] at h3l
        exact loop_true fuel hkf hl1 hl2 k s3 I3 H3 (t4.trans hm2) (fun c hc => by
          obtain ⟨y, hy, hyt⟩ := ht2 c hc
          exact ⟨y, hy, by rw [t1]; simp [hyt]⟩) (by rw [t1, List.length_append, List.length_singleton]; omega)
    · exfalso
      have hc := List.mem_of_getElem? hq
      rw [hcl] at hc
      obtain ⟨x, hx, hxt⟩ := ht2 c hc
      have h1 := hf x hx
      rw [tv_one.2 hxt] at h1
      omega

end Go.Proofs.Ytmdjlhmifhnpdaa.SatW
