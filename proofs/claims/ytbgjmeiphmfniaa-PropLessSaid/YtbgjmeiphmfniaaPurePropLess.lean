/- The law PropLess, in plain Lean: fewer clauses say less. -/
import Derived.Test.YtbgjmeiphmfniaaPropFew
import Derived.Test.YtbgjmeiphmfniaaQx9
namespace Go.Proofs.Ytbgjmeiphmfniaa.Pure
open Go.RowKit Go.Proofs.Ytbgjmeiphmfniaa.Q Go.Proofs.Ytbgjmeiphmfniaa.PT Go.Proofs.YtbgjmeiphmfniaaW.PrintWords Go.Proofs.YtbgjmeiphmfniaaW.PrintLast Go.Proofs.YtbgjmeiphmfniaaW.PrintMore

theorem less_l1 {a x y : List Int} {one : Bool} (hy : y.length = a.length) (hx : x.length = a.length) (hs : a.length ≤ 1000) (h : one = false → ∀ j : Int, 0 ≤ j → j < (a.length : Int) → rd y j ≠ 0 → rd x j = rd y j) (d : Nat) : ∀ (j : Nat), a.length - j = d → Ev (fun k => ashlarlaw08_PropLess.l1 k a true x one y (j : Int)) true := by
  induction d with
  | zero =>
    intro j hj
    refine Ev.succ ?_
    simp only [ashlarlaw08_PropLess.l1]
    refine Ev.neg (by omega) (Ev.succ ?_)
    simp only [ashlarlaw08_PropLess.j4]
    exact Ev.neg (by simp) (Ev.some_ _)
  | succ d ih =>
    intro j hj
    refine Ev.succ ?_
    simp only [ashlarlaw08_PropLess.l1]
    refine Ev.pos (by omega) (Ev.succ ?_)
    simp only [ashlarlaw08_PropLess.j4]
    cases one with
    | true => exact Ev.neg (by simp) (Ev.some_ _)
    | false =>
      have next := ih (j + 1) (by omega)
      have e : wrap64 ((j : Int) + 1) = ((j + 1 : Nat) : Int) := by rw [w64 (by omega) (by omega)]; omega
      rw [e]
      refine Ev.pos (by simp) (Ev.pos (by omega) (Ev.pos (by omega) ?_))
      by_cases h0 : rd y (j : Int) = 0
      · exact Ev.pos h0 next
      · exact Ev.neg h0 (Ev.pos (by omega) (Ev.pos (h rfl _ (by omega) (by omega) h0).symm next))

theorem less_end {l less : List (List Int)} (hl : Small l) (hm : Small less) (hsub : Sub less l) {a : List Int} (ha : WfA a) (hs : a.length ≤ 1000) {out : List Bool} {i : Int} (hi : ¬ i < (l.length : Int)) :
    Ev (fun k => ashlarlaw08_PropLess.l0 k l a out true less i) true := by
  obtain ⟨b, r, hE, hR⟩ := unit_ok hl.wf ha
  obtain ⟨b', r', hE', hR'⟩ := unit_ok hm.wf ha
  have hne := hsub.eval a
  have key : r = false → Agr b' b ∧ r' = false := fun h => hR'.least (hsub.closed (hR.closed h)) hR.agr
  refine Ev.succ ?_
  simp only [ashlarlaw08_PropLess.l0]
  refine Ev.neg hi (Ev.bind hE (Ev.bind hE' ?_))
  have j1 : Ev (fun k => ashlarlaw08_PropLess.j1 k a true b r b' (decide (evalV less a < evalV l a))) true := by
    refine Ev.succ ?_
    simp only [ashlarlaw08_PropLess.j1]
    refine Ev.neg (by simp; omega) ?_
    have h1 : Ev (fun k => ashlarlaw08_PropLess.l1 k a true b r b' 0) true :=
      less_l1 hR'.length hR.length hs (fun h j h0 h1 hj => hR'.vals_le hR (key h).1 h0 h1 hj) _ 0 rfl
    have j2 : ∀ q, q = false → Ev (fun k => ashlarlaw08_PropLess.j2 k a true b r b' q) true := by
      intro q hq
      refine Ev.succ ?_
      simp only [ashlarlaw08_PropLess.j2]
      exact Ev.neg (by rw [hq]; simp) h1
    by_cases h : r = true
    · exact Ev.pos h (j2 _ rfl)
    · refine Ev.neg h (Ev.pos (by rw [hR.length]) (j2 _ ?_))
      rw [hR'.length]
      simp
  by_cases h' : r' = true
  · refine Ev.pos h' ?_
    have h : r = true := by
      cases r with
      | true => rfl
      | false => have := (key rfl).2; rw [h'] at this; cases this
    exact Ev.pos h (Ev.bind (eval_ok ha hm.wf) (Ev.bind (eval_ok ha hl.wf) j1))
  · exact Ev.neg h' (Ev.bind (eval_ok ha hm.wf) (Ev.bind (eval_ok ha hl.wf) j1))

theorem less_loop {l : List (List Int)} (hl : Small l) {a : List Int} (ha : WfA a) (hs : a.length ≤ 1000) {out : List Bool} (d : Nat) : ∀ (i : Nat) (less : List (List Int)), l.length - i = d → i ≤ l.length → less.length ≤ i → (∀ c ∈ less, c ∈ l) →
    Ev (fun k => ashlarlaw08_PropLess.l0 k l a out true less (i : Int)) true := by
  have h1 := hl.1
  induction d with
  | zero =>
    intro i less hi hle hless hmem
    exact less_end hl ⟨by omega, fun c hc => hl.2 c (hmem c hc)⟩ (fun c hc => ⟨c, hmem c hc, fun _ => Iff.rfl⟩) ha hs (by omega)
  | succ d ih =>
    intro i less hi hle hless hmem
    have e : wrap64 ((i : Int) + 1) = ((i + 1 : Nat) : Int) := by rw [w64 (by omega) (by omega)]; omega
    have hlt : i < l.length := by omega
    have hrow : rd_L2 l (i : Int) = l[i] := by
      unfold rd_L2
      rw [Int.toNat_natCast, List.getD_eq_getElem?_getD, List.getElem?_eq_getElem hlt]
      rfl
    have take_ := ih (i + 1) (less ++ [l[i]]) (by omega) (by omega) (by simp; omega) (fun c hc => by
      rcases List.mem_append.1 hc with hc | hc
      · exact hmem c hc
      · rw [List.mem_singleton.1 hc]; exact List.getElem_mem hlt)
    have skip_ := ih (i + 1) less (by omega) (by omega) (by omega) hmem
    refine Ev.succ ?_
    simp only [ashlarlaw08_PropLess.l0, hrow, e]
    refine Ev.pos (by omega) ?_
    by_cases ho : (i : Int) ≥ (out.length : Int)
    · exact Ev.pos ho (Ev.pos (by omega) (Ev.pos (by omega) take_))
    · refine Ev.neg ho (Ev.pos (by omega) (Ev.pos (by omega) ?_))
      by_cases hb : rdOf false out (i : Int) = true
      · exact Ev.pos hb skip_
      · exact Ev.neg hb (Ev.pos (by omega) take_)

theorem PropLess : ∀ (l0 : List (List Int)) (l1 : List Int) (l2 : List Bool), l0.length ≤ maxLen → (∀ c ∈ l0, c.length ≤ maxLen ∧ ∀ x ∈ c, (Lit.int .i64 x).wf = true) → l1.length ≤ maxLen → (∀ x ∈ l1, (Lit.int .i8 x).wf = true) → l2.length ≤ maxLen → ∃ k, ashlarlaw08_PropLess.f k l0 l1 l2 = some true := by
  intro l0 l1 l2 h0 h1 h2 h3 _
  refine Ev.rounds ?_
  have ha := few_wfA h3
  unfold ashlarlaw08_PropLess.f
  refine Ev.bind shown_ok (Ev.bind (few_ok l0 l1 h0) ?_)
  exact less_loop (few_small' l0) ha.1 (by omega) _ 0 [] rfl (by omega) (by simp) (by simp)
end Go.Proofs.Ytbgjmeiphmfniaa.Pure
