/- The law SatFuel, in plain Lean: without fuel nothing is learned. -/
import Derived.Test.YtmdjlhmifhnpdaaZg
import Derived.Test.YtmdjlhmifhnpdaaZlSatFuel
namespace Go.Proofs.Ytmdjlhmifhnpdaa.Pure
open Go.RowKit Go.Proofs.Ytmdjlhmifhnpdaa.Q Go.Proofs.Ytmdjlhmifhnpdaa.PT Go.Proofs.YtmdjlhmifhnpdaaW.PrintWords Go.Proofs.YtmdjlhmifhnpdaaW.PrintLast Go.Proofs.YtmdjlhmifhnpdaaW.PrintMore

theorem four_none : Ev (fun k => sat_Solve.f k [[1, 2], [1, -2], [-1, 2], [-1, -2]] 2 0) (0, [], []) := solve_ev (k := 40) (by decide +kernel)
theorem four_less : Ev (fun k => sat_Solve.f k [[1, 2], [1, -2], [-1, 2], [-1, -2]] 2 (-7)) (0, [], []) := solve_ev (k := 40) (by decide +kernel)
theorem fuel_end : Ev (fun k => ashlarlaw09_SatFuel.j0 k true false) true := by
  refine Ev.succ ?_
  simp only [ashlarlaw09_SatFuel.j0, Option.bind_some]
  exact Ev.neg (by decide) (Ev.bind four_none (Ev.bind four_less (Ev.pos trivial (Ev.pos rfl (Ev.some_ _)))))
theorem SatFuel : ∀ (l0 : List (List Int)) (a1 : Int) (a2 : Int), l0.length ≤ maxLen → (∀ c ∈ l0, c.length ≤ maxLen ∧ ∀ x ∈ c, (Lit.int .i64 x).wf = true) → (Lit.int .i64 a1).wf = true → (Lit.int .i64 a2).wf = true → ∃ k, ashlarlaw09_SatFuel.f k l0 a1 a2 = some true := by
  intro l0 a1 a2 hl _ _ _
  have hw := few_wfr l0
  refine Ev.rounds ?_
  unfold ashlarlaw09_SatFuel.f
  refine Ev.bind shown_ok (Ev.bind (few_ok l0 hl) ?_)
  by_cases hP : RightP (fewF l0) (mn a1 50)
  · obtain ⟨r, hE, hF, _⟩ := solve_fit (fuel := mn a2 20) hw.1 hw.2 hP (by unfold mn; split <;> omega)
    refine Ev.bind hE ?_
    by_cases h2 : r.1 = 2
    · refine Ev.pos h2 ?_
      have h3 := hF.lems h2
      rw [w64 (by omega) (by omega), decide_eq_false (by unfold mx; split <;> omega)]
      exact fuel_end
    · exact Ev.neg h2 fuel_end
  · exact Ev.bind (solve_not hP) (Ev.neg (by decide) fuel_end)
end Go.Proofs.Ytmdjlhmifhnpdaa.Pure
