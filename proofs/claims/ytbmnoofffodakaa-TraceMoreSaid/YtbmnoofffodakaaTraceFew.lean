/- The few first clauses and lines, and small words for the laws of the chapter trace. -/
import Derived.Test.YtbmnoofffodakaaTraceCheck
namespace Go.Proofs.Ytbmnoofffodakaa.PT
open Go.RowKit Go.Proofs.Ytbmnoofffodakaa.Q Go.Proofs.YtbmnoofffodakaaW.PrintWords Go.Proofs.YtbmnoofffodakaaW.PrintLast Go.Proofs.YtbmnoofffodakaaW.PrintMore

theorem mn_val (n : Nat) (m : Int) (hm : 0 ≤ m) : ((mn (n : Int) m) : Int).toNat = min n m.toNat ∧ 0 ≤ mn (n : Int) m ∧ mn (n : Int) m ≤ (n : Int) := by unfold mn; split <;> omega
theorem take_mn {α : Type} (l : List α) (m : Int) (hm : 0 ≤ m) : l.take ((mn (l.length : Int) m) : Int).toNat = l.take m.toNat := by
  rw [(mn_val l.length m hm).1]
  by_cases h : l.length ≤ m.toNat
  · rw [Nat.min_eq_left h, List.take_of_length_le (Nat.le_refl _), List.take_of_length_le h]
  · rw [Nat.min_eq_right (by omega)]
def fewF (l : List (List Int)) : List (List Int) := (l.take 40).map (·.take 10)
theorem few_loop (rest : List (List Int)) : ∀ (pre : List (List Int)) (out : List (List Int)), (pre ++ rest).length ≤ 9223372036854775807 → out.length = pre.length → pre.length ≤ 40 →
    Ev (fun k => ashlarlaw10_few.l0 k (pre ++ rest) out (pre.length : Int)) (out ++ (rest.take (40 - pre.length)).map (·.take 10)) := by
  induction rest with
  | nil =>
    intro pre out _ ho hp
    refine Ev.succ ?_
    simp only [ashlarlaw10_few.l0, Option.bind_some]
    rw [List.append_nil]
    refine Ev.neg (by omega) ?_
    rw [List.take_nil, List.map_nil, List.append_nil]
    exact Ev.some_ _
  | cons c rest ih =>
    intro pre out hl ho hp
    have hll : (pre ++ c :: rest).length = pre.length + rest.length + 1 := by simp; omega
    refine Ev.succ ?_
    simp only [ashlarlaw10_few.l0, Option.bind_some, rd_L1_mid]
    refine Ev.pos (by omega) ?_
    by_cases h50 : pre.length = 40
    · refine Ev.neg (by omega) ?_
      rw [h50, Nat.sub_self, List.take_zero, List.map_nil, List.append_nil]
      exact Ev.some_ _
    · have h := mn_val c.length 10 (by decide)
      have hc : (c.take 10).length ≤ 10 := List.length_take_le _ _
      have e20 : ((10 : Int).toNat) = 10 := rfl
      refine Ev.pos (by omega) (Ev.pos (by omega) (Ev.pos h.2.1 (Ev.pos h.2.2 ?_)))
      rw [take_mn c 10 (by decide), e20, List.nil_append]
      refine Ev.pos (by simp only [List.length_nil]; omega) (Ev.pos (by omega) ?_)
      have hnx : wrap64 ((pre.length : Int) + 1) = ((pre ++ [c]).length : Int) := by rw [w64 (by omega) (by omega)]; simp
      have happ : pre ++ c :: rest = (pre ++ [c]) ++ rest := by simp
      have := ih (pre ++ [c]) (out ++ [c.take 10]) (by rw [← happ]; exact hl) (by simp [ho]) (by simp; omega)
      rw [← happ] at this
      rw [hnx]
      have e : 40 - pre.length = (40 - (pre ++ [c]).length) + 1 := by simp; omega
      rw [e, List.take_succ_cons, List.map_cons]
      simp only [List.append_assoc, List.singleton_append] at this
      exact this
theorem few_ok (l : List (List Int)) (hl : l.length ≤ maxLen) : Ev (fun k => ashlarlaw10_few.f k l) (fewF l) := by
  have := few_loop l [] [] (by simp only [List.nil_append]; exact Nat.le_trans hl (by decide)) rfl (by decide)
  exact this
theorem few_small (l : List (List Int)) : (fewF l).length ≤ 40 ∧ ∀ c ∈ fewF l, c.length ≤ 10 := by
  refine ⟨by unfold fewF; rw [List.length_map]; exact List.length_take_le _ _, fun c hc => ?_⟩
  obtain ⟨d, _, rfl⟩ := List.mem_map.1 hc
  exact List.length_take_le _ _
theorem few_wf (l : List (List Int)) : WfC (fewF l) := ⟨by have := (few_small l).1; omega, fun c hc => by have := (few_small l).2 c hc; omega⟩
theorem Chain.left (p q : List (List Int)) : ∀ (l : List (List Int)), Chain l (p ++ q) → Chain l p := by
  induction p with
  | nil => intro l _; trivial
  | cons c p ih => intro l h; exact ⟨h.1, ih _ h.2⟩
end Go.Proofs.Ytbmnoofffodakaa.PT
