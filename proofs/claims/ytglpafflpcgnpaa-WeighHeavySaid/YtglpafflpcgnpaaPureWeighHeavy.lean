/- The plain law of WeighHeavy: what the printed functions compute answers true. -/
import Derived.Test.YtglpafflpcgnpaaWeigh2
import Derived.Test.YtglpafflpcgnpaaQx5
namespace Go.Proofs.Ytglpafflpcgnpaa.Pure
set_option linter.unusedVariables false
open Go.RowKit Go.Proofs.Ytglpafflpcgnpaa.Q Go.Proofs.YtglpafflpcgnpaaW.PrintWords Go.Proofs.YtglpafflpcgnpaaW.PrintLast Go.Proofs.Ytglpafflpcgnpaa.Fl

theorem mulT_W (x : Nat) : W (mulT x) := word_lt _ _ (by have := inf_lt; omega)
theorem rescale_W (l : List Nat) (h : Ws l) : Ws (rescale l).1 := by
  unfold rescale
  split
  · intro x hx
    rw [List.mem_map] at hx
    obtain ⟨y, _, rfl⟩ := hx
    exact mulT_W y
  · intro x hx
    rw [List.mem_map] at hx
    obtain ⟨y, hy, rfl⟩ := hx
    exact tame_W y (h y hy)
theorem rescale_len (l : List Nat) : (rescale l).1.length = l.length := by unfold rescale; split <;> simp
theorem heavy_loop (l : List Nat) (hw : Ws l) (hl : l.length ≤ 100) (h : Nat) (ht : Top l h) (d : Nat) : ∀ (k i : Nat), l.length - i = d → i ≤ l.length → d + 300 < k → ashlarlaw02_WeighHeavy.l0 k true l (h : Int) (i : Int) = some true := by
  induction d with
  | zero =>
    intro k i hd hi hk
    obtain ⟨k, rfl⟩ : ∃ m, k = m + 1 := ⟨k - 1, by omega⟩
    simp only [ashlarlaw02_WeighHeavy.l0]
    have hlt := ht.1
    rw [if_neg (by omega), rescale_f l hw (by omega) k (by omega), Option.bind_some]
    have rl := rescale_len l
    have rw_ := rescale_W l hw
    rcases heavy_f (rescale l).1 rw_ (by omega) with ⟨e, _⟩ | ⟨m, e, hm⟩
    · rw [e] at rl; simp at rl; omega
    · have hm1 := hm.1
      rw [e, Option.bind_some, if_pos trivial, if_pos (by omega), if_pos (by omega), if_pos (by omega), if_pos (by omega), if_pos (by omega), rd_nat, rd_nat, less_k k (by omega) _ _ (W_getD _ rw_ _) (W_getD _ rw_ _), Option.bind_some]
      have := hm.2.1 h (by omega)
      rw [decide_eq_false (by omega)]; rfl
  | succ d ih =>
    intro k i hd hi hk
    obtain ⟨k, rfl⟩ : ∃ m, k = m + 1 := ⟨k - 1, by omega⟩
    simp only [ashlarlaw02_WeighHeavy.l0]
    have hlt := ht.1
    have hA := ht.2.1 i (by omega)
    rw [if_pos (by omega), if_pos (by omega), if_pos (by omega), if_pos (by omega), rd_nat, rd_nat, less_k k (by omega) _ _ (W_getD _ hw _) (W_getD _ hw _), Option.bind_some, if_neg (by simp only [decide_eq_true_eq]; omega), wrap_succ (by omega) (by omega)]
    have hr := ih k (i + 1) (by omega) (by omega) (by omega)
    by_cases c : i < h
    · have := ht.2.2 i c
      rw [if_pos (by omega), less_k k (by omega) _ _ (W_getD _ hw _) (W_getD _ hw _), Option.bind_some, if_pos (decide_eq_true this)]; exact hr
    · rw [if_neg (by omega)]; exact hr
theorem WeighHeavy : ∀ (l0 : List Int), l0.length ≤ maxLen → (∀ x ∈ l0, (Lit.int .u64 x).wf = true) → ∃ k, ashlarlaw02_WeighHeavy.f k l0 = some true := by
  intro l hm hwf
  obtain ⟨n, hn⟩ : ∃ n, n = 1000 := ⟨1000, rfl⟩
  refine ⟨n + 1, ?_⟩
  unfold ashlarlaw02_WeighHeavy.f
  have hl := flo_len l
  have hw := flo_W l hwf
  rw [shown_f (n + 1) (by omega), Option.bind_some, floats_f l (n + 1) (by omega), Option.bind_some]
  rcases heavy_f (flo l) hw (by omega) with ⟨e, h⟩ | ⟨h, e, ht⟩
  · rw [h, Option.bind_some, e]; rfl
  · have h1 := ht.1
    rw [e, Option.bind_some, if_neg (by omega), if_neg (by omega), decide_eq_false (by omega)]
    simp only [ashlarlaw02_WeighHeavy.j0]
    rw [if_neg (by decide)]
    exact heavy_loop (flo l) hw (by omega) h ht (flo l).length n 0 (by omega) (by omega) (by omega)

end Go.Proofs.Ytglpafflpcgnpaa.Pure
