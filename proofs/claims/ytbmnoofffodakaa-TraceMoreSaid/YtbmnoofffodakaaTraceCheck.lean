/- What trace.Check comes to: every line follows from the clauses and the lines ahead of it; the last line is empty; no literal is odd. -/
import Derived.Test.YtbmnoofffodakaaTraceEval
import Derived.Test.YtbmnoofffodakaaQx4
namespace Go.Proofs.Ytbmnoofffodakaa.PT
open Go.RowKit Go.Proofs.Ytbmnoofffodakaa.Q Go.Proofs.YtbmnoofffodakaaW.PrintWords Go.Proofs.YtbmnoofffodakaaW.PrintLast Go.Proofs.YtbmnoofffodakaaW.PrintMore

def Chain : List (List Int) → List (List Int) → Prop
  | _, [] => True
  | L, c :: rest => Rup L c ∧ Chain (L ++ [c]) rest
def Okay (l m : List (List Int)) : Prop := (∀ c ∈ l ++ m, Small c) ∧ (∃ i, m = i ++ [[]]) ∧ Chain l m
theorem wrong_iff (x : Int) : wrongB x = false ↔ x ≠ 0 ∧ -10000 ≤ x ∧ x ≤ 10000 := by
  unfold wrongB
  simp only [Bool.or_eq_false_iff, beq_eq_false_iff_ne, decide_eq_false_iff_not]
  omega
theorem odd_iff (c : List Int) : oddB c = false ↔ Small c := by
  unfold oddB Small
  rw [List.any_eq_false]
  constructor
  · intro h x hx
    exact (wrong_iff x).1 (Bool.eq_false_iff.2 (h x hx))
  · intro h x hx
    rw [(wrong_iff x).2 (h x hx)]
    decide
theorem odds_iff (l : List (List Int)) : l.any oddB = false ↔ ∀ c ∈ l, Small c := by
  rw [List.any_eq_false]
  exact ⟨fun h c hc => (odd_iff c).1 (Bool.eq_false_iff.2 (h c hc)), fun h c hc => by rw [(odd_iff c).2 (h c hc)]; decide⟩
theorem chain_loop {l m : List (List Int)} {n : Int} (h0 : 0 ≤ n) (h1 : n ≤ 10000) (hl : WfC (l ++ m)) (hs : ∀ c ∈ l ++ m, Small c ∧ ∀ x ∈ c, x ≤ n ∧ -x ≤ n) (rest : List (List Int)) : ∀ (pre : List (List Int)), pre ++ rest = m →
    ∃ r, Ev (fun k => trace_Check.l0 k l m (l ++ m) n (pre.length : Int)) r ∧ (r = true ↔ Chain (l ++ pre) rest) := by
  induction rest with
  | nil =>
    intro pre hp
    rw [List.append_nil] at hp
    subst hp
    refine ⟨true, Ev.succ ?_, by simp [Chain]⟩
    simp only [trace_Check.l0]
    exact Ev.neg (by omega) (Ev.some_ _)
  | cons c rest ih =>
    intro pre hp
    have hl1 := hl.1
    rw [List.length_append] at hl1
    have hll : m.length = pre.length + rest.length + 1 := by rw [← hp]; simp; omega
    have hlt : (pre.length : Int) < (m.length : Int) := by omega
    have hnx : wrap64 ((pre.length : Int) + 1) = ((pre ++ [c]).length : Int) := by rw [w64 (by omega) (by omega)]; simp
    have happ : (pre ++ [c]) ++ rest = m := by rw [← hp]; simp
    have hrd : rd_L1 m (pre.length : Int) = c := by rw [← hp]; exact rd_L1_mid _ _ _
    have hcm : c ∈ l ++ m := by rw [← hp]; simp
    have hj : wrap64 ((l.length : Int) + (pre.length : Int)) = ((l ++ pre).length : Int) := by rw [w64 (by omega) (by omega)]; simp
    have htk : (l ++ m).take (l ++ pre).length = l ++ pre := by
      rw [← hp, ← List.append_assoc, List.take_left]
    have hsub : ∀ d ∈ l ++ pre, d ∈ l ++ m := fun d hd => by
      rw [← hp]
      simp only [List.mem_append, List.mem_cons] at hd ⊢
      rcases hd with h | h
      · exact .inl h
      · exact .inr (.inl h)
    have hlp : (l ++ pre).length ≤ (l ++ m).length := by simp only [List.length_append]; omega
    obtain ⟨r, hE, hr⟩ := follows_ok (L := l ++ pre) (c := c) h0 h1 ⟨by have := hl.1; omega, fun d hd => hl.2 d (hsub d hd)⟩ (hl.2 c hcm) (fun d hd => hs d (hsub d hd)) (hs c hcm).1 (hs c hcm).2
    obtain ⟨r2, hE2, hr2⟩ := ih (pre ++ [c]) happ
    rw [← List.append_assoc] at hr2
    have step : ∀ v, Ev (fun k => if r = true then trace_Check.l0 k l m (l ++ m) n (wrap64 ((pre.length : Int) + 1)) else some false) v → Ev (fun k => trace_Check.l0 k l m (l ++ m) n (pre.length : Int)) v := by
      intro v hv
      refine Ev.succ ?_
      simp only [trace_Check.l0, hrd, hj, Int.toNat_natCast, htk]
      exact Ev.pos hlt (Ev.pos (by omega) (Ev.pos (by omega) (Ev.pos (by omega) (Ev.bind hE hv))))
    cases r with
    | true =>
      refine ⟨r2, step _ (Ev.pos rfl (by rw [hnx]; exact hE2)), ?_⟩
      rw [hr2]
      exact ⟨fun h => ⟨hr.1 rfl, h⟩, fun h => h.2⟩
    | false =>
      refine ⟨false, step _ (Ev.neg (by decide) (Ev.some_ _)), ?_⟩
      exact ⟨fun h => (by cases h), fun h => (by have := hr.2 h.1; cases this)⟩
theorem check_ok {l m : List (List Int)} (hl : WfC l) (hm : WfC m) (hlen : l.length ≤ 1000000000 ∧ m.length ≤ 1000000000) : ∃ r, Ev (fun k => trace_Check.f k l m) r ∧ (r = true ↔ Okay l m) := by
  have hW : WfC (l ++ m) := ⟨by simp only [List.length_append]; omega, fun c hc => by
    rcases List.mem_append.1 hc with h | h
    · exact hl.2 c h
    · exact hm.2 c h⟩
  have step : ∀ v, Ev (fun k => if (l ++ m).any oddB = true then (some false) else (if m.length = 0 then (some false) else (if 0 < (rd_L1 m (wrap64 ((m.length : Int) - 1))).length then (some false) else ((trace_vars.f k (l ++ m)).bind fun n => trace_Check.l0 k l m (l ++ m) n 0)))) v → Ev (fun k => trace_Check.f k l m) v := fun v hv => by
    unfold trace_Check.f
    exact Ev.pos (by omega) hv
  by_cases h1 : (l ++ m).any oddB = true
  · refine ⟨false, step _ (Ev.pos h1 (Ev.some_ _)), fun h => (by cases h), fun h => ?_⟩
    rw [(odds_iff _).2 h.1] at h1
    cases h1
  · have hs := (odds_iff _).1 (Bool.eq_false_iff.2 h1)
    by_cases h2 : m.length = 0
    · refine ⟨false, step _ (Ev.neg h1 (Ev.pos h2 (Ev.some_ _))), fun h => (by cases h), fun h => ?_⟩
      obtain ⟨i, e⟩ := h.2.1
      rw [e] at h2
      simp at h2
    · have hm0 : m ≠ [] := fun e => h2 (by rw [e]; rfl)
      have hsplit := List.dropLast_concat_getLast hm0
      have hidx : wrap64 ((m.length : Int) - 1) = ((m.dropLast).length : Int) := by
        rw [w64 (by omega) (by omega), List.length_dropLast]; omega
      have hlast : rd_L1 m (wrap64 ((m.length : Int) - 1)) = m.getLast hm0 := by
        rw [hidx]
        have := rd_L1_mid m.dropLast [] (m.getLast hm0)
        rw [hsplit] at this
        exact this
      by_cases h3 : 0 < (rd_L1 m (wrap64 ((m.length : Int) - 1))).length
      · refine ⟨false, step _ (Ev.neg h1 (Ev.neg h2 (Ev.pos h3 (Ev.some_ _)))), fun h => (by cases h), fun h => ?_⟩
        obtain ⟨i, e⟩ := h.2.1
        rw [hlast] at h3
        have : m.getLast hm0 = [] := by
          simp [e]
        rw [this] at h3
        simp at h3
      · have hv := vF_spec (l ++ m) 0 hs (by omega) (by omega)
        obtain ⟨r, hE, hr⟩ := chain_loop (l := l) (m := m) (n := vF 0 (l ++ m)) hv.1 hv.2.1 hW (fun c hc => ⟨hs c hc, hv.2.2 c hc⟩) m [] rfl
        refine ⟨r, step _ (Ev.neg h1 (Ev.neg h2 (Ev.neg h3 (Ev.bind (vars_ok hW hs) hE)))), ?_⟩
        rw [List.append_nil] at hr
        rw [hr]
        refine ⟨fun h => ⟨hs, ⟨m.dropLast, ?_⟩, h⟩, fun h => h.2.2⟩
        rw [hlast] at h3
        have : m.getLast hm0 = [] := List.eq_nil_of_length_eq_zero (by omega)
        rw [this] at hsplit
        exact hsplit.symm
theorem shown_ok : Ev (fun k => ashlarlaw10_shown.f k) true := Ev.of (fun k => ashlarlaw10_shown.mono k) (k := 60) (by decide +kernel)
end Go.Proofs.Ytbmnoofffodakaa.PT
