/- The law SatAnswers, in plain Lean: an answer is one that may be. -/
import Derived.Test.YtmdjlhmifhnpdaaZg
import Derived.Test.YtmdjlhmifhnpdaaZlSatAnswers
namespace Go.Proofs.Ytmdjlhmifhnpdaa.Pure
open Go.RowKit Go.Proofs.Ytmdjlhmifhnpdaa.Q Go.Proofs.Ytmdjlhmifhnpdaa.PT Go.Proofs.YtmdjlhmifhnpdaaW.PrintWords Go.Proofs.YtmdjlhmifhnpdaaW.PrintLast Go.Proofs.YtmdjlhmifhnpdaaW.PrintMore

theorem few_idem (l : List (List Int)) : fewF (fewF l) = fewF l := by
  have h := few_small l
  obtain ⟨L, hL⟩ : ∃ L, fewF l = L := ⟨_, rfl⟩
  rw [hL] at h ⊢
  unfold fewF
  rw [List.take_of_length_le h.1]
  refine (List.map_congr_left (g := id) fun c hc => ?_).trans (List.map_id _)
  exact List.take_of_length_le (h.2 c hc)
theorem SatAnswers : ∀ (l0 : List (List Int)) (a1 : Int) (a2 : Int), l0.length ≤ maxLen → (∀ c ∈ l0, c.length ≤ maxLen ∧ ∀ x ∈ c, (Lit.int .i64 x).wf = true) → (Lit.int .i64 a1).wf = true → (Lit.int .i64 a2).wf = true → ∃ k, ashlarlaw09_SatAnswers.f k l0 a1 a2 = some true := by
  intro l0 a1 a2 hl _ _ _
  have hw := few_wfr l0
  have h40 := (few_small l0).1
  have hfe := few_ok (fewF l0) (Nat.le_trans h40 (by decide))
  rw [few_idem] at hfe
  refine Ev.rounds ?_
  unfold ashlarlaw09_SatAnswers.f
  refine Ev.bind shown_ok (Ev.bind (few_ok l0 hl) (Ev.bind hfe ?_))
  obtain ⟨b, hR, hb⟩ := right_ok (mn a1 100) hw.1
  by_cases hP : RightP (fewF l0) (mn a1 100)
  · obtain ⟨r, hE, hF, _⟩ := solve_fit (fuel := mn a2 1000) hw.1 hw.2 hP (by unfold mn; split <;> omega)
    exact Ev.bind hE (Ev.bind (same_ok hw.1) (Ev.pos rfl (Ev.bind hR (Ev.pos (hb.2 hP) (Ev.pos rfl (Ev.bind hF.good (Ev.some_ _)))))))
  · exact Ev.bind (solve_not hP) (Ev.bind (same_ok hw.1) (Ev.pos rfl (Ev.bind hR (Ev.neg (fun h => hP (hb.1 h)) (Ev.pos rfl (Ev.pos rfl (Ev.pos rfl (Ev.some_ _))))))))
end Go.Proofs.Ytmdjlhmifhnpdaa.Pure
