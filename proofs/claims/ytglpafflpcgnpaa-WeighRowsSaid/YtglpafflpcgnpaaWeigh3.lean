/- Decay, and what a rescaled row is. -/
import Derived.Test.YtglpafflpcgnpaaWeigh2
import Derived.Test.YtglpafflpcgnpaaQx8
namespace Go.Proofs.Ytglpafflpcgnpaa.Fl
set_option linter.unusedVariables false
open Ieee Go.Proofs.YtglpafflpcgnpaaW.PrintWords Go.Proofs.Ytglpafflpcgnpaa.Q Go.RowKit

/-- Decay. -/
def decay (x : Nat) : Nat := tame (fDiv (tame x) 4606732058837280358)
theorem div_ok (x : Nat) (hx : rung x < inf) : fDivOk x 4606732058837280358 = true ∧ W (fDiv x 4606732058837280358) := by
  obtain ⟨t, M, e, _⟩ := div_c95 x hx
  unfold fDivOk fDiv
  have e' : Ieee.double.div x 4606732058837280358 = some (word (sgn x) (min (F t M) inf)) := e
  rw [e']
  exact ⟨rfl, word_lt _ _ (by have := inf_lt; omega)⟩
theorem decay_f (x : Nat) (hx : W x) : weigh_Decay.f x = some (decay x) := by
  unfold weigh_Decay.f decay
  obtain ⟨a, b⟩ := div_ok (tame x) (tame_fin x)
  rw [tame_f x hx, Option.bind_some, if_pos a, tame_f _ b]; rfl
theorem rdecay_f (x : Nat) (hx : W x) : ashlarref02_Decay.f x = some (decay x) := by
  unfold ashlarref02_Decay.f decay
  obtain ⟨a, b⟩ := div_ok (tame x) (tame_fin x)
  rw [rtame_f x hx, Option.bind_some, if_pos a, rtame_f _ b]; rfl
theorem rbump_f (x y : Nat) (hx : W x) (hy : W y) : ashlarref02_Bump.f x y = some (bump x y) := by
  unfold ashlarref02_Bump.f
  rw [rtame_f x hx, Option.bind_some, rtame_f y hy, Option.bind_some]
  obtain ⟨a, b⟩ := add_ok (tame x) (tame y) (tame_fin x) (tame_fin y)
  rw [if_pos a, b, rtame_f _ (addW_W _ _)]; rfl
theorem decay_W (x : Nat) : W (decay x) := tame_W _ (div_ok _ (tame_fin x)).2
theorem decay_fin (x : Nat) : rung (decay x) < inf := tame_fin _
theorem decay_ge (x : Nat) : sgn (decay x) = sgn (tame x) ∧ rung (tame x) ≤ rung (decay x) := by
  obtain ⟨t, M, e, h⟩ := div_c95 (tame x) (tame_fin x)
  have e' : Ieee.double.div (tame x) 4606732058837280358 = some (word (sgn (tame x)) (min (F t M) inf)) := e
  have hd : decay x = word (sgn (tame x)) (min (F t M) top) := by
    unfold decay fDiv
    rw [e']
    exact tame_word _ _
  have ht := top_lt
  have hi := top_inf
  have hf := tame_fin x
  have := F_ge t _ _ h
  rw [hd, sgn_word _ _ (by omega), rung_word _ _ (by omega)]
  exact ⟨rfl, by omega⟩
theorem finite_sv (x : Nat) (h : rung x < inf) : -(V top : Int) ≤ sv x ∧ sv x ≤ (V top : Int) := by
  have := V_le (show rung x ≤ top by have := top_inf; omega)
  unfold sv
  split <;> omega
def row (b : Bool) (x : Nat) : Nat := if b then mulT x else tame x
theorem rescale_row (l : List Nat) : rescale l = (l.map (row (l.any farB)), l.any farB) := by
  unfold rescale row
  cases l.any farB <;> simp
theorem mulT_eq (x : Nat) : mulT x = word (sgn (tame x)) (min (F 1074 (V (rung (tame x)) * V less)) inf) := by
  unfold mulT mulW
  have e : rung less = less := by decide
  have e2 : sgn less = false := by decide
  rw [e, e2, Bool.xor_false]
theorem mul_mono {a b : Nat} (h : a ≤ b) : F 1074 (V a * V less) ≤ F 1074 (V b * V less) := F_mono _ (Nat.mul_le_mul_right _ (V_le h))
theorem mul_top : F 1074 (V top * V less) ≤ 7748537163665533883 := by decide +kernel
theorem mul_bd (x : Nat) : F 1074 (V (rung (tame x)) * V less) ≤ 7748537163665533883 := Nat.le_trans (mul_mono (show rung (tame x) ≤ top by have := tame_fin x; have := top_inf; omega)) mul_top
theorem mulT_rung (x : Nat) : rung (mulT x) ≤ 7748537163665533883 := by
  have := mul_bd x
  have hi := inf_lt
  rw [mulT_eq, rung_word _ _ (by omega)]
  omega
theorem row_keep (b : Bool) (x y : Nat) (h : K (tame x) < K (tame y)) : K (row b x) ≤ K (row b y) := by
  unfold row
  cases b with
  | false => simp only [Bool.false_eq_true, if_false]; omega
  | true =>
    simp only [if_true]
    rw [mulT_eq, mulT_eq, K_word _ _ (Nat.min_le_right _ _), K_word _ _ (Nat.min_le_right _ _)]
    have hx := tame_fin x
    have hy := tame_fin y
    have nx : ¬ inf < rung (tame x) := by omega
    have ny : ¬ inf < rung (tame y) := by omega
    unfold K at h
    rw [if_neg nx, if_neg ny] at h
    cases hs : sgn (tame x) <;> cases ht : sgn (tame y) <;> rw [hs, ht] at h <;> simp only [Bool.false_eq_true, if_false, if_true] at h ⊢
    · have := mul_mono (show rung (tame x) ≤ rung (tame y) by omega); omega
    · omega
    · omega
    · have := mul_mono (show rung (tame y) ≤ rung (tame x) by omega); omega
theorem row_W (b : Bool) (x : Nat) (hx : W x) : W (row b x) := by
  unfold row
  split
  · rw [mulT_eq]; exact word_lt _ _ (by have := inf_lt; omega)
  · exact tame_W x hx
theorem getD_map (l : List Nat) (f : Nat → Nat) (i : Nat) (h : i < l.length) : (l.map f).getD i 0 = f (l.getD i 0) := by
  rw [List.getD_eq_getElem?_getD, List.getElem?_map, List.getD_eq_getElem?_getD, List.getElem?_eq_getElem h]; rfl
end Go.Proofs.Ytglpafflpcgnpaa.Fl
