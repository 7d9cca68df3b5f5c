/- The law TraceEnds, in plain Lean: a proof is shown as soon as its first empty line comes, and not before. -/
import Derived.Test.YtbmnoofffodakaaTraceFew
import Derived.Test.YtbmnoofffodakaaQx10
namespace Go.Proofs.Ytbmnoofffodakaa.Pure
open Go.RowKit Go.Proofs.Ytbmnoofffodakaa.Q Go.Proofs.Ytbmnoofffodakaa.PT Go.Proofs.YtbmnoofffodakaaW.PrintWords Go.Proofs.YtbmnoofffodakaaW.PrintLast Go.Proofs.YtbmnoofffodakaaW.PrintMore

theorem ends_loop {l m : List (List Int)} (hl : WfC l) (hm : WfC m) (hll : l.length ≤ 40) (hml : m.length ≤ 40) (ho : Okay l m) (rest : List (List Int)) : ∀ (pre : List (List Int)), pre ++ rest = m → [] ∈ rest →
    Ev (fun k => ashlarlaw10_TraceEnds.l0 k l m true (pre.length : Int)) true := by
  induction rest with
  | nil => intro pre _ h; simp at h
  | cons c rest ih =>
    intro pre hp he
    have hml2 : m.length = pre.length + rest.length + 1 := by rw [← hp]; simp; omega
    have hlt : (pre.length : Int) < (m.length : Int) := by omega
    have hnx : wrap64 ((pre.length : Int) + 1) = ((pre ++ [c]).length : Int) := by rw [w64 (by omega) (by omega)]; simp
    have happ : (pre ++ [c]) ++ rest = m := by rw [← hp]; simp
    have hrd : rd_L1 m (pre.length : Int) = c := by rw [← hp]; exact rd_L1_mid _ _ _
    have htk : m.take (pre ++ [c]).length = pre ++ [c] := by rw [← happ, List.take_left]
    have hpl : (pre ++ [c]).length = pre.length + 1 := by simp
    have hsub : ∀ d ∈ pre ++ [c], d ∈ m := fun d hd => by rw [← happ]; exact List.mem_append_left _ hd
    obtain ⟨r, hE, hr⟩ := check_ok (l := l) (m := pre ++ [c]) hl ⟨by omega, fun d hd => hm.2 d (hsub d hd)⟩ ⟨by omega, by omega⟩
    refine Ev.succ ?_
    simp only [ashlarlaw10_TraceEnds.l0, hrd, hnx, Int.toNat_natCast, htk]
    refine Ev.pos hlt (Ev.pos (by omega) ?_)
    by_cases hc : c = []
    · subst hc
      have : r = true := hr.2 ⟨fun d hd => ho.1 d (by
          rcases List.mem_append.1 hd with h | h
          · exact List.mem_append_left _ h
          · exact List.mem_append_right _ (hsub d h)), ⟨pre, rfl⟩, by
          have h := ho.2.2
          rw [← happ] at h
          exact Chain.left _ _ _ h⟩
      subst this
      refine Ev.pos (by first | rfl | trivial) (Ev.pos (by first | rfl | trivial) (Ev.pos (by omega) (Ev.pos (by omega) (Ev.bind hE (Ev.some_ _)))))
    · have hcl : ¬ ((c.length : Int) = 0) := fun h => hc (List.eq_nil_of_length_eq_zero (by omega))
      refine Ev.neg hcl (Ev.pos (by omega) (Ev.pos (by omega) (Ev.bind hE ?_)))
      cases r with
      | true =>
        obtain ⟨i, e⟩ := (hr.1 rfl).2.1
        have := (List.append_inj' e rfl).2
        simp at this
        exact (hc this).elim
      | false =>
        refine Ev.neg (by decide) ?_
        refine ih (pre ++ [c]) happ ?_
        rcases List.mem_cons.1 he with h | h
        · exact (hc h.symm).elim
        · exact h
theorem TraceEnds : ∀ (l0 : List (List Int)) (l1 : List (List Int)), l0.length ≤ maxLen → (∀ c ∈ l0, c.length ≤ maxLen ∧ ∀ x ∈ c, (Lit.int .i64 x).wf = true) → l1.length ≤ maxLen → (∀ c ∈ l1, c.length ≤ maxLen ∧ ∀ x ∈ c, (Lit.int .i64 x).wf = true) → ∃ k, ashlarlaw10_TraceEnds.f k l0 l1 = some true := by
  intro l0 l1 h0 _ h1 _
  obtain ⟨r, hE, hr⟩ := check_ok (few_wf l0) (few_wf l1) ⟨by have := (few_small l0).1; omega, by have := (few_small l1).1; omega⟩
  refine Ev.rounds (g := fun k => ashlarlaw10_TraceEnds.f k l0 l1) ?_
  unfold ashlarlaw10_TraceEnds.f
  refine Ev.bind shown_ok (Ev.bind (few_ok l0 h0) (Ev.bind (few_ok l1 h1) (Ev.bind hE ?_)))
  cases r with
  | false => exact Ev.neg (by decide) (Ev.some_ _)
  | true =>
    refine Ev.pos rfl ?_
    have ho := hr.1 rfl
    refine ends_loop (few_wf l0) (few_wf l1) (few_small l0).1 (few_small l1).1 ho (fewF l1) [] rfl ?_
    obtain ⟨i, e⟩ := ho.2.1
    rw [e]
    simp
end Go.Proofs.Ytbmnoofffodakaa.Pure
