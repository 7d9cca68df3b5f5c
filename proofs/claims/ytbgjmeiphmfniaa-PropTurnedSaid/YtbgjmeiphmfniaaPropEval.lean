/- What prop.Eval's printed text comes to. -/
import Derived.Test.YtbgjmeiphmfniaaPropLink
import Derived.Test.YtbgjmeiphmfniaaQx2
namespace Go.Proofs.Ytbgjmeiphmfniaa.PT
open Go.RowKit Go.Proofs.Ytbgjmeiphmfniaa.Q Go.Proofs.YtbgjmeiphmfniaaW.PrintWords Go.Proofs.YtbgjmeiphmfniaaW.PrintLast Go.Proofs.YtbgjmeiphmfniaaW.PrintMore

theorem look_val {a : List Int} (ha : WfA a) {c : List Int} (hc : c.length ≤ 9223372036854775806) : ∃ w n, Ev (fun k => prop_look.f k c a) (w, n) ∧ (w = 1 ↔ flsB a c = true) ∧ ((w = 2 ∨ w = 3) ↔ (flsB a c = false ∧ truB a c = false)) := by
  obtain ⟨w, n, hE, hK⟩ := look_ok ha hc
  refine ⟨w, n, hE, ?_⟩
  rcases hK with ⟨hw, ht⟩ | ⟨hw, hf⟩ | ⟨hw, hu⟩ | ⟨hw, ht, hic⟩
  · have := (tru_idle ht).1
    rw [ht, this]
    simp
    omega
  · have : truB a c = false := Bool.eq_false_iff.2 fun h => by have := (tru_idle h).1; rw [hf] at this; cases this
    rw [hf, this]
    simp
    omega
  · have h1 : flsB a c = false := Bool.eq_false_iff.2 fun h => unt_not_fls hu h
    have h2 : truB a c = false := Bool.eq_false_iff.2 fun h => idle_not_unt (tru_idle h) hu
    rw [h1, h2]
    simp
    omega
  · rw [hic.1, ht]
    simp
    omega

theorem eval_loop {a : List Int} (ha : WfA a) (rest : List (List Int)) : ∀ (pre : List (List Int)), WfC (pre ++ rest) → pre.any (flsB a) = false →
    Ev (fun k => prop_Eval.l0 k a (if pre.all (truB a) then 1 else 0) (pre ++ rest) ((pre ++ rest).length : Int) (pre.length : Int)) (evalV (pre ++ rest) a) := by
  induction rest with
  | nil =>
    intro pre _ hp
    refine Ev.succ ?_
    simp only [prop_Eval.l0]
    rw [List.append_nil]
    refine Ev.neg (by omega) ?_
    have e : evalV pre a = if pre.all (truB a) then 1 else 0 := by
      unfold evalV
      rw [hp]
      rfl
    rw [e]
    exact Ev.some_ _
  | cons c rest ih =>
    intro pre hwf hp
    have hll : (pre ++ c :: rest).length = pre.length + rest.length + 1 := by simp; omega
    have h1 := hwf.1
    have hnx : wrap64 ((pre.length : Int) + 1) = ((pre ++ [c]).length : Int) := by rw [w64 (by omega) (by omega)]; simp
    have happ : pre ++ c :: rest = (pre ++ [c]) ++ rest := by simp
    obtain ⟨w, n, hE, hw1, hw2⟩ := look_val ha (hwf.2 c (by simp))
    refine Ev.succ ?_
    simp only [prop_Eval.l0, rd_L2_mid, hnx]
    refine Ev.pos (by omega) (Ev.pos (by omega) (Ev.pos (by omega) (Ev.bind hE ?_)))
    by_cases hf : flsB a c = true
    · refine Ev.pos (hw1.2 hf) ?_
      have : evalV (pre ++ c :: rest) a = -1 := by
        unfold evalV
        rw [if_pos]
        rw [List.any_append, List.any_cons, hf]
        simp
      rw [this]
      exact Ev.some_ _
    · refine Ev.neg (fun h => hf (hw1.1 h)) ?_
      have hf' : flsB a c = false := Bool.eq_false_iff.2 hf
      have hp' : (pre ++ [c]).any (flsB a) = false := by rw [List.any_append, hp]; simp [hf']
      have := ih (pre ++ [c]) (by rw [← happ]; exact hwf) hp'
      rw [← happ] at this
      by_cases ht : truB a c = true
      · have hn : ¬ (w = 2 ∨ w = 3) := fun h => by have := (hw2.1 h).2; rw [ht] at this; cases this
        refine Ev.neg (fun h => hn (.inl h)) (Ev.neg (fun h => hn (.inr h)) ?_)
        have e : (pre ++ [c]).all (truB a) = pre.all (truB a) := by rw [List.all_append]; simp [ht]
        rw [e] at this
        exact this
      · have ht' : truB a c = false := Bool.eq_false_iff.2 ht
        have e : (pre ++ [c]).all (truB a) = false := by rw [List.all_append]; simp [ht']
        rw [e] at this
        rcases hw2.2 ⟨hf', ht'⟩ with h | h
        · exact Ev.pos h this
        · exact Ev.neg (by omega) (Ev.pos h this)

theorem eval_ok {a : List Int} (ha : WfA a) {l : List (List Int)} (hl : WfC l) : Ev (fun k => prop_Eval.f k l a) (evalV l a) := eval_loop ha l [] hl rfl
end Go.Proofs.Ytbgjmeiphmfniaa.PT
