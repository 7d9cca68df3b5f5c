/- The plain law of WeighKeeps: what the printed functions compute answers true. -/
import Derived.Test.YtglpafflpcgnpaaWeigh3
import Derived.Test.YtglpafflpcgnpaaQx7
namespace Go.Proofs.Ytglpafflpcgnpaa.Pure
set_option linter.unusedVariables false
open Go.RowKit Go.Proofs.Ytglpafflpcgnpaa.Q Go.Proofs.YtglpafflpcgnpaaW.PrintWords Go.Proofs.YtglpafflpcgnpaaW.PrintLast Go.Proofs.Ytglpafflpcgnpaa.Fl

theorem keeps_j3 (l : List Nat) (far some_ : Bool) (i j k : Nat) : ashlarlaw02_WeighKeeps.j3 (k + 1) true l (l.map (row far)) far some_ (i : Int) (j : Int) false = ashlarlaw02_WeighKeeps.l1 k true l (l.map (row far)) far some_ (i : Int) (wrap64 ((j : Int) + 1)) := by
  simp only [ashlarlaw02_WeighKeeps.j3]
  rw [if_neg (by decide)]
theorem keeps_l1 (l : List Nat) (hw : Ws l) (hl : l.length ≤ 100) (far some_ : Bool) (i : Nat) (hil : i < l.length) (d : Nat) : ∀ (k j : Nat), i - j = d → j ≤ i → 2 * d + 1 < k →
    ashlarlaw02_WeighKeeps.l1 k true l (l.map (row far)) far some_ (i : Int) (j : Int) = ashlarlaw02_WeighKeeps.l0 (k - 2 * d - 1) true l (l.map (row far)) far some_ ((i + 1 : Nat) : Int) := by
  induction d with
  | zero =>
    intro k j hd hj hk
    obtain ⟨k, rfl⟩ : ∃ m, k = m + 1 := ⟨k - 1, by omega⟩
    simp only [ashlarlaw02_WeighKeeps.l1]
    rw [if_neg (by omega), wrap_succ (by omega) (by omega)]
    rfl
  | succ d ih =>
    intro k j hd hj hk
    obtain ⟨k, rfl⟩ : ∃ m, k = m + 2 := ⟨k - 2, by omega⟩
    have hjl : j < l.length := by omega
    have wi := W_getD l hw i
    have wj := W_getD l hw j
    have hlen : (l.map (row far)).length = l.length := List.length_map _
    have gi := getD_map l (row far) i hil
    have gj := getD_map l (row far) j hjl
    have hrec := ih k (j + 1) (by omega) (by omega) (by omega)
    have hkk : k + 2 - 2 * (d + 1) - 1 = k - 2 * d - 1 := by omega
    have hj3 := keeps_j3 l far some_ i j k
    rw [wrap_succ (by omega) (by omega)] at hj3
    have hj3' : ashlarlaw02_WeighKeeps.j3 (k + 1) true l (l.map (row far)) far some_ (i : Int) (j : Int) false = ashlarlaw02_WeighKeeps.l0 (k - 2 * d - 1) true l (l.map (row far)) far some_ ((i + 1 : Nat) : Int) := by rw [hj3]; exact hrec
    rw [hkk]
    rw [ashlarlaw02_WeighKeeps.l1]
    generalize ashlarlaw02_WeighKeeps.l0 (k - 2 * d - 1) true l (l.map (row far)) far some_ ((i + 1 : Nat) : Int) = res at *
    have L := less_k (k + 1) (by omega)
    have r1 := rd_nat (l.map (row far)) i
    have r2 := rd_nat (l.map (row far)) j
    rw [gi] at r1
    rw [gj] at r2
    rw [r1, r2, rd_nat, rd_nat]
    generalize l.getD i 0 = x at *
    generalize l.getD j 0 = y at *
    have L1 := L (tame x) (tame y) (tame_W x wi) (tame_W y wj)
    have L2 := L (tame y) (tame x) (tame_W y wj) (tame_W x wi)
    have L3 := L (row far y) (row far x) (row_W far y wj) (row_W far x wi)
    have L4 := L (row far x) (row far y) (row_W far x wi) (row_W far y wj)
    rw [if_pos (by omega), if_pos (by omega), if_pos (by omega), tame_f x wi, Option.bind_some, if_pos (by omega), if_pos (by omega), tame_f y wj, Option.bind_some, L1, Option.bind_some]
    by_cases c1 : K (tame x) < K (tame y)
    · have k1 := row_keep far x y c1
      rw [if_pos (decide_eq_true c1), if_pos (by rw [hlen]; omega), if_pos (by rw [hlen]; omega), L3, Option.bind_some, if_neg (by simp only [decide_eq_true_eq]; omega), Option.bind_some, Option.bind_some, L2, Option.bind_some, if_neg (by simp only [decide_eq_true_eq]; omega)]
      exact hj3'
    · rw [if_neg (by simpa using c1), Option.bind_some, Option.bind_some, L2, Option.bind_some]
      by_cases c2 : K (tame y) < K (tame x)
      · have k2 := row_keep far y x c2
        rw [if_pos (decide_eq_true c2), if_pos (by rw [hlen]; omega), if_pos (by rw [hlen]; omega), L4, Option.bind_some, decide_eq_false (by omega)]
        exact hj3'
      · rw [if_neg (by simpa using c2)]
        exact hj3'
theorem keeps_l0 (l : List Nat) (hw : Ws l) (hl : l.length ≤ 100) (far : Bool) (hfar : far = l.any farB) (d : Nat) : ∀ (k i : Nat), l.length - i = d → i ≤ l.length → d * 210 + 210 < k →
    ashlarlaw02_WeighKeeps.l0 k true l (l.map (row far)) far ((l.take i).any farB) (i : Int) = some true := by
  induction d with
  | zero =>
    intro k i hd hi hk
    obtain ⟨k, rfl⟩ : ∃ m, k = m + 1 := ⟨k - 1, by omega⟩
    simp only [ashlarlaw02_WeighKeeps.l0]
    rw [if_neg (by omega), List.take_of_length_le (by omega), ← hfar, if_pos trivial]
    simp
  | succ d ih =>
    intro k i hd hi hk
    obtain ⟨k, rfl⟩ : ∃ m, k = m + 2 := ⟨k - 2, by omega⟩
    have hil : i < l.length := by omega
    have wi := W_getD l hw i
    rw [ashlarlaw02_WeighKeeps.l0]
    have hj1 : ∀ b, ashlarlaw02_WeighKeeps.j1 (k + 1) true l (l.map (row far)) far b (i : Int) = ashlarlaw02_WeighKeeps.l0 (k - 2 * i - 1) true l (l.map (row far)) far b ((i + 1 : Nat) : Int) := by
      intro b
      rw [ashlarlaw02_WeighKeeps.j1]
      exact keeps_l1 l hw hl far b i hil i k 0 (by omega) (by omega) (by omega)
    have hrec := ih (k - 2 * i - 1) (i + 1) (by omega) (by omega) (by omega)
    have e2 : (l.take (i + 1)).any farB = ((l.take i).any farB || farB (l.getD i 0)) := by rw [take_snoc l i 0 hil, List.any_append]; simp
    rw [e2] at hrec
    rw [if_pos (by omega)]
    cases hb : (l.take i).any farB with
    | true => rw [hb] at hrec; rw [if_pos rfl, hj1]; exact hrec
    | false =>
      rw [hb] at hrec
      obtain ⟨t, ht, hg⟩ := far_f (l.getD i 0) wi
      rw [if_neg (by decide), if_pos (by omega), rd_nat, tame_f _ wi, Option.bind_some, ht, Option.bind_some, hg, hj1]
      exact hrec
theorem WeighKeeps : ∀ (l0 : List Int), l0.length ≤ maxLen → (∀ x ∈ l0, (Lit.int .u64 x).wf = true) → ∃ k, ashlarlaw02_WeighKeeps.f k l0 = some true := by
  intro l hm hwf
  obtain ⟨n, hn⟩ : ∃ n, n = 30000 := ⟨30000, rfl⟩
  refine ⟨n, ?_⟩
  unfold ashlarlaw02_WeighKeeps.f
  have hl := flo_len l
  have hw := flo_W l hwf
  rw [shown_f n (by omega), Option.bind_some, floats_f l n (by omega), Option.bind_some, rescale_f (flo l) hw (by omega) n (by omega), Option.bind_some, rescale_row]
  rw [if_pos (by rw [List.length_map])]
  have := keeps_l0 (flo l) hw (by omega) _ rfl (flo l).length n 0 (by omega) (by omega) (by omega)
  exact this

end Go.Proofs.Ytglpafflpcgnpaa.Pure
