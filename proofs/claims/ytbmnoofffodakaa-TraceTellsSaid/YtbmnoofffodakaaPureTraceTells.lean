/- The law TraceTells, in plain Lean: the checker and the reference tell the same. -/
import Derived.Test.YtbmnoofffodakaaTraceFew
import Derived.Test.YtbmnoofffodakaaTraceRef
import Derived.Test.YtbmnoofffodakaaQx8
namespace Go.Proofs.Ytbmnoofffodakaa.Pure
open Go.RowKit Go.Proofs.Ytbmnoofffodakaa.Q Go.Proofs.Ytbmnoofffodakaa.PT Go.Proofs.YtbmnoofffodakaaW.PrintWords Go.Proofs.YtbmnoofffodakaaW.PrintLast Go.Proofs.YtbmnoofffodakaaW.PrintMore

theorem shown_loop {l m : List (List Int)} (hl : l.length ≤ 40 ∧ ∀ c ∈ l, c.length ≤ 10) (hm : m.length ≤ 40 ∧ ∀ c ∈ m, c.length ≤ 10) (hs : ∀ c ∈ l ++ m, Small c) (rest : List (List Int)) : ∀ (pre : List (List Int)), pre ++ rest = m →
    ∃ r, Ev (fun k => ashlarref09_Shown.l0 k m (m.length : Int) (l ++ pre) (pre.length : Int)) r ∧ (r = true ↔ Chain (l ++ pre) rest) := by
  induction rest with
  | nil =>
    intro pre hp
    rw [List.append_nil] at hp
    subst hp
    refine ⟨true, Ev.succ ?_, by simp [Chain]⟩
    simp only [ashlarref09_Shown.l0]
    exact Ev.neg (by omega) (Ev.some_ _)
  | cons c rest ih =>
    intro pre hp
    have hl1 := hl.1
    have hm1 := hm.1
    have hll : m.length = pre.length + rest.length + 1 := by rw [← hp]; simp; omega
    have hlt : (pre.length : Int) < (m.length : Int) := by omega
    have hnx : wrap64 ((pre.length : Int) + 1) = ((pre ++ [c]).length : Int) := by rw [w64 (by omega) (by omega)]; simp
    have hrd : rd_L1 m (pre.length : Int) = c := by rw [← hp]; exact rd_L1_mid _ _ _
    have hcm : c ∈ m := by rw [← hp]; simp
    have hlen : (l ++ pre).length = l.length + pre.length := by simp
    have hsub : ∀ d ∈ l ++ pre, d ∈ l ++ m := fun d hd => by
      rw [← hp]
      simp only [List.mem_append, List.mem_cons] at hd ⊢
      rcases hd with h | h
      · exact .inl h
      · exact .inr (.inl h)
    have hsz : ∀ d ∈ l ++ m, d.length ≤ 10 := fun d hd => by
      rcases List.mem_append.1 hd with h | h
      · exact hl.2 d h
      · exact hm.2 d h
    obtain ⟨r, hE, hr⟩ := refFollows_ok (L := l ++ pre) (c := c) ⟨by omega, fun d hd => by have := hsz d (hsub d hd); omega⟩ (by have := hm.2 c hcm; omega) (fun d hd => hs d (hsub d hd)) (hs c (List.mem_append_right _ hcm))
    obtain ⟨r2, hE2, hr2⟩ := ih (pre ++ [c]) (by rw [← hp]; simp)
    rw [← List.append_assoc] at hr2 hE2
    have step : ∀ v, Ev (fun k => if r = true then (if (l ++ pre).length < 5864062014805 then ashlarref09_Shown.l0 k m (m.length : Int) ((l ++ pre) ++ [c]) ((pre ++ [c]).length : Int) else none) else some false) v → Ev (fun k => ashlarref09_Shown.l0 k m (m.length : Int) (l ++ pre) (pre.length : Int)) v := by
      intro v hv
      refine Ev.succ ?_
      simp only [ashlarref09_Shown.l0, hrd, hnx]
      exact Ev.pos hlt (Ev.pos (by omega) (Ev.pos hlt (Ev.bind hE hv)))
    cases r with
    | true =>
      refine ⟨r2, step _ (Ev.pos rfl (Ev.pos (by omega) hE2)), ?_⟩
      rw [hr2]
      exact ⟨fun h => ⟨hr.1 rfl, h⟩, fun h => h.2⟩
    | false =>
      refine ⟨false, step _ (Ev.neg (by decide) (Ev.some_ _)), ?_⟩
      exact ⟨fun h => (by cases h), fun h => (by have := hr.2 h.1; cases this)⟩
theorem refCheck_ok {l m : List (List Int)} (hl : l.length ≤ 40 ∧ ∀ c ∈ l, c.length ≤ 10) (hm : m.length ≤ 40 ∧ ∀ c ∈ m, c.length ≤ 10) : ∃ r, Ev (fun k => ashlarref10_Check.f k l m) r ∧ (r = true ↔ Okay l m) := by
  have hm1 := hm.1
  obtain ⟨b1, hE1, hb1⟩ := may_ok (l := l) ⟨by have := hl.1; omega, fun c hc => by have := hl.2 c hc; omega⟩
  obtain ⟨b2, hE2, hb2⟩ := may_ok (l := m) ⟨by have := hm.1; omega, fun c hc => by have := hm.2 c hc; omega⟩
  have stop : Ev (fun k => ashlarref09_Shown.j0 k l m (m.length : Int) true) false := by
    refine Ev.succ ?_
    simp only [ashlarref09_Shown.j0]
    exact Ev.pos (by first | rfl | trivial) (Ev.some_ _)
  have wrapUp : ∀ {r : Bool}, Ev (fun k => ashlarref09_Shown.f k l m) r → Ev (fun k => ashlarref10_Check.f k l m) r := fun h => Ev.bind h (Ev.some_ _)
  by_cases k1 : b1 = true
  · by_cases k2 : b2 = true
    · have hs : ∀ c ∈ l ++ m, Small c := fun c hc => by
        rcases List.mem_append.1 hc with h | h
        · exact hb1.1 k1 c h
        · exact hb2.1 k2 c h
      by_cases k3 : m.length = 0
      · refine ⟨false, wrapUp (Ev.bind hE1 (Ev.bind hE2 (Ev.pos k1 (Ev.pos k2 (Ev.pos (by omega) stop))))), fun h => (by cases h), fun h => ?_⟩
        obtain ⟨i, e⟩ := h.2.1
        rw [e] at k3
        simp at k3
      · have hm0 : m ≠ [] := fun e => k3 (by rw [e]; rfl)
        have hsplit := List.dropLast_concat_getLast hm0
        have hw : wrap64 ((m.length : Int) - 1) = (m.length : Int) - 1 := w64 (by omega) (by omega)
        have hidx : (m.length : Int) - 1 = ((m.dropLast).length : Int) := by
          rw [List.length_dropLast]; omega
        have hlast : rd_L1 m ((m.length : Int) - 1) = m.getLast hm0 := by
          rw [hidx]
          have := rd_L1_mid m.dropLast [] (m.getLast hm0)
          rw [hsplit] at this
          exact this
        have into : ∀ r, Ev (fun k => ashlarref09_Shown.j0 k l m (m.length : Int) (((m.getLast hm0).length : Int) != 0)) r → Ev (fun k => ashlarref10_Check.f k l m) r := by
          intro r h
          refine wrapUp (Ev.bind hE1 (Ev.bind hE2 (Ev.pos k1 (Ev.pos k2 (Ev.neg (by omega) ?_)))))
          rw [hw, hlast]
          exact Ev.pos (by omega) (Ev.pos (by omega) h)
        by_cases k4 : m.getLast hm0 = []
        · obtain ⟨r, hE, hr⟩ := shown_loop hl hm hs m [] rfl
          rw [List.append_nil] at hE hr
          refine ⟨r, into r (Ev.succ ?_), ?_⟩
          · rw [k4]
            simp only [ashlarref09_Shown.j0, Option.bind_some, List.nil_append]
            refine Ev.neg (by decide) (Ev.pos (by have := hl.1; simp only [List.length_nil]; omega) hE)
          · rw [hr]
            refine ⟨fun h => ⟨hs, ⟨m.dropLast, ?_⟩, h⟩, fun h => h.2.2⟩
            rw [k4] at hsplit
            exact hsplit.symm
        · have hne : (((m.getLast hm0).length : Int) != 0) = true := bne_iff_ne.2 (fun e => k4 (List.eq_nil_of_length_eq_zero (by omega)))
          refine ⟨false, into false (by rw [hne]; exact stop), fun h => (by cases h), fun h => ?_⟩
          obtain ⟨i, e⟩ := h.2.1
          exact (k4 (by simp [e])).elim
    · refine ⟨false, wrapUp (Ev.bind hE1 (Ev.bind hE2 (Ev.pos k1 (Ev.neg k2 stop)))), fun h => (by cases h), fun h => (k2 (hb2.2 fun c hc => h.1 c (List.mem_append_right _ hc))).elim⟩
  · refine ⟨false, wrapUp (Ev.bind hE1 (Ev.bind hE2 (Ev.neg k1 stop))), fun h => (by cases h), fun h => (k1 (hb1.2 fun c hc => h.1 c (List.mem_append_left _ hc))).elim⟩
theorem TraceTells : ∀ (l0 : List (List Int)) (l1 : List (List Int)), l0.length ≤ maxLen → (∀ c ∈ l0, c.length ≤ maxLen ∧ ∀ x ∈ c, (Lit.int .i64 x).wf = true) → l1.length ≤ maxLen → (∀ c ∈ l1, c.length ≤ maxLen ∧ ∀ x ∈ c, (Lit.int .i64 x).wf = true) → ∃ k, ashlarlaw10_TraceTells.f k l0 l1 = some true := by
  intro l0 l1 h0 _ h1 _
  obtain ⟨r, hE, hr⟩ := check_ok (few_wf l0) (few_wf l1) ⟨by have := (few_small l0).1; omega, by have := (few_small l1).1; omega⟩
  obtain ⟨r2, hE2, hr2⟩ := refCheck_ok (few_small l0) (few_small l1)
  have he : (r == r2) = true := by
    rw [← hr] at hr2
    cases r <;> cases r2 <;> simp_all
  refine Ev.rounds (g := fun k => ashlarlaw10_TraceTells.f k l0 l1) ?_
  unfold ashlarlaw10_TraceTells.f
  refine Ev.bind shown_ok (Ev.bind (few_ok l0 h0) (Ev.bind (few_ok l1 h1) (Ev.pos rfl (Ev.bind hE (Ev.bind hE2 ?_)))))
  rw [he]
  exact Ev.some_ _
end Go.Proofs.Ytbmnoofffodakaa.Pure
