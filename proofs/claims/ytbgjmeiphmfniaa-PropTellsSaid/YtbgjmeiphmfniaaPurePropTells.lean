/- The law PropTells, in plain Lean: what follows at once is what the document says. -/
import Derived.Test.YtbgjmeiphmfniaaPropFew
import Derived.Test.YtbgjmeiphmfniaaPropRef
import Derived.Test.YtbgjmeiphmfniaaQx5
namespace Go.Proofs.Ytbgjmeiphmfniaa.Pure
open Go.RowKit Go.Proofs.Ytbgjmeiphmfniaa.Q Go.Proofs.Ytbgjmeiphmfniaa.PT Go.Proofs.YtbgjmeiphmfniaaW.PrintWords Go.Proofs.YtbgjmeiphmfniaaW.PrintLast Go.Proofs.YtbgjmeiphmfniaaW.PrintMore

theorem PropTells : ∀ (l0 : List (List Int)) (l1 : List Int), l0.length ≤ maxLen → (∀ c ∈ l0, c.length ≤ maxLen ∧ ∀ x ∈ c, (Lit.int .i64 x).wf = true) → l1.length ≤ maxLen → (∀ x ∈ l1, (Lit.int .i8 x).wf = true) → ∃ k, ashlarlaw08_PropTells.f k l0 l1 = some true := by
  intro l0 l1 h0 h1 h2 h3
  refine Ev.rounds ?_
  obtain ⟨ha, hs⟩ := few_wfA h3
  have hl := few_small' l0
  have hlr : WfR ((l0.take 50).map (·.take 20)) := ⟨by have := hl.1; omega, fun c hc => by have := hl.2 c hc; omega⟩
  obtain ⟨b, r, hE, hR⟩ := unit_ok hl.wf ha
  obtain ⟨b', r', hE', hR'⟩ := refUnit_ok hlr (a := l1.take 50) (by omega)
  obtain ⟨rfl, rfl⟩ := hR.det hR'
  have hf := few_ok ([] : List (List Int)) (l1.take 50) (by simp [maxLen])
  have hbl := hR.length
  unfold ashlarlaw08_PropTells.f
  refine Ev.bind shown_ok (Ev.bind (few_ok l0 l1 h0) (Ev.bind hf (Ev.bind hE (Ev.bind hE' (Ev.pos rfl (Ev.bind (same_ok b b (by omega)) (Ev.pos (decide_eq_true rfl) ?_)))))))
  simp only
  refine Ev.pos (by simp) (Ev.bind (eval_ok ha hl.wf) (Ev.bind (refEval_ok (by omega) hlr) (Ev.pos rfl (Ev.bind (same_ok _ _ (by omega)) ?_))))
  have e : (l1.take 50).take 50 = l1.take 50 := by rw [List.take_take]; rfl
  rw [e, decide_eq_true rfl]
  exact Ev.some_ _
end Go.Proofs.Ytbgjmeiphmfniaa.Pure
