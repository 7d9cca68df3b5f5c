/- The law PropOrder, in plain Lean: without a conflict the order of clauses, and of literals, does not matter. -/
import Derived.Test.YtbgjmeiphmfniaaPropFew
import Derived.Test.YtbgjmeiphmfniaaQx8
namespace Go.Proofs.Ytbgjmeiphmfniaa.Pure
open Go.RowKit Go.Proofs.Ytbgjmeiphmfniaa.Q Go.Proofs.Ytbgjmeiphmfniaa.PT Go.Proofs.YtbgjmeiphmfniaaW.PrintWords Go.Proofs.YtbgjmeiphmfniaaW.PrintLast Go.Proofs.YtbgjmeiphmfniaaW.PrintMore

def back (l : List (List Int)) : List (List Int) := (l.map List.reverse).reverse
theorem mem_back {l : List (List Int)} {c : List Int} : c ∈ back l ↔ ∃ d ∈ l, d.reverse = c := by simp [back]
theorem sub_back (l : List (List Int)) : Sub l (back l) := fun c hc => ⟨c.reverse, mem_back.2 ⟨c, hc, rfl⟩, by simp⟩
theorem back_sub (l : List (List Int)) : Sub (back l) l := fun c hc => by
  obtain ⟨d, hd, rfl⟩ := mem_back.1 hc
  exact ⟨d, hd, by simp⟩
theorem back_small {l : List (List Int)} (h : Small l) : Small (back l) := by
  refine ⟨by simp only [back, List.length_reverse, List.length_map]; exact h.1, fun c hc => ?_⟩
  obtain ⟨d, hd, rfl⟩ := mem_back.1 hc
  rw [List.length_reverse]
  exact h.2 d hd

theorem order_end {l : List (List Int)} (hl : Small l) {a : List Int} (ha : WfA a) (hs : a.length ≤ 1000) (x7 : Int) (h7 : ¬ x7 ≥ 0) : Ev (fun k => ashlarlaw08_PropOrder.l0 k l a true (back l) x7) true := by
  obtain ⟨b, r, hE, hR⟩ := unit_ok hl.wf ha
  obtain ⟨b', r', hE', hR'⟩ := unit_ok (back_small hl).wf ha
  obtain ⟨hr, hb⟩ := hR.agree hR' (fun z => ⟨fun h => (back_sub l).closed h, fun h => (sub_back l).closed h⟩)
  subst hr
  have he := eval_same (sub_back l) (back_sub l) a
  refine Ev.succ ?_
  simp only [ashlarlaw08_PropOrder.l0]
  refine Ev.neg h7 (Ev.bind hE (Ev.bind hE' (Ev.pos trivial (Ev.pos (by simp) ?_))))
  by_cases h : r = true
  · refine Ev.pos h (Ev.bind (eval_ok ha hl.wf) (Ev.bind (eval_ok ha (back_small hl).wf) ?_))
    rw [he]
    simp only [beq_self_eq_true]
    exact Ev.some_ _
  · have := hb (Bool.eq_false_iff.2 h)
    subst this
    refine Ev.neg h (Ev.bind (same_ok b b (by rw [hR.length]; omega)) (Ev.pos (decide_eq_true rfl) (Ev.bind (eval_ok ha hl.wf) (Ev.bind (eval_ok ha (back_small hl).wf) ?_))))
    rw [he]
    simp only [beq_self_eq_true]
    exact Ev.some_ _

theorem order_inner {l : List (List Int)} {a : List Int} {out : List (List Int)} {i : Int} {row : List Int} (hi : 0 ≤ i) (hil : i < (l.length : Int)) (hrow : rd_L2 l i = row) (hr : row.length ≤ 1000) (ho : out.length ≤ 1000)
    (H : Ev (fun k => ashlarlaw08_PropOrder.l0 k l a true (out ++ [row.reverse]) (wrap64 (i - 1))) true) (m : Nat) : m ≤ row.length → Ev (fun k => ashlarlaw08_PropOrder.l1 k l a true out i (row.drop m).reverse ((m : Int) - 1)) true := by
  induction m with
  | zero =>
    intro _
    refine Ev.succ ?_
    simp only [ashlarlaw08_PropOrder.l1]
    refine Ev.neg (by omega) (Ev.pos (by omega) ?_)
    rw [List.drop_zero]
    exact H
  | succ m ih =>
    intro hm
    have hlt : m < row.length := by omega
    refine Ev.succ ?_
    simp only [ashlarlaw08_PropOrder.l1, hrow]
    have e1 : ((m + 1 : Nat) : Int) - 1 = (m : Int) := by omega
    rw [e1]
    refine Ev.pos (by omega) (Ev.pos hi (Ev.pos hil (Ev.pos (by omega) (Ev.pos (by omega) (Ev.pos (by simp; omega) ?_)))))
    have e2 : (row.drop (m + 1)).reverse ++ [rd row (m : Int)] = (row.drop m).reverse := by
      rw [List.drop_eq_getElem_cons hlt, List.reverse_cons]
      congr 1
      unfold rd
      rw [Int.toNat_natCast, List.getD_eq_getElem?_getD, List.getElem?_eq_getElem hlt]
      rfl
    rw [e2, w64 (by omega) (by omega)]
    exact ih (by omega)
theorem order_loop {l : List (List Int)} (hl : Small l) {a : List Int} (ha : WfA a) (hs : a.length ≤ 1000) (m : Nat) : m ≤ l.length → Ev (fun k => ashlarlaw08_PropOrder.l0 k l a true (back (l.drop m)) ((m : Int) - 1)) true := by
  have h1 := hl.1
  induction m with
  | zero => exact fun _ => order_end hl ha hs _ (by omega)
  | succ m ih =>
    intro hm
    have hlt : m < l.length := by omega
    have hrow : rd_L2 l (m : Int) = l[m] := by
      unfold rd_L2
      rw [Int.toNat_natCast, List.getD_eq_getElem?_getD, List.getElem?_eq_getElem hlt]
      rfl
    have hrl := hl.2 _ (List.getElem_mem hlt)
    have hob : (back (l.drop (m + 1))).length ≤ 1000 := by simp [back]; omega
    have e1 : ((m + 1 : Nat) : Int) - 1 = (m : Int) := by omega
    have e3 : back (l.drop (m + 1)) ++ [l[m].reverse] = back (l.drop m) := by
      unfold back
      rw [List.drop_eq_getElem_cons hlt, List.map_cons, List.reverse_cons]
    have H := order_inner (l := l) (a := a) (out := back (l.drop (m + 1))) (i := (m : Int)) (row := l[m]) (by omega) (by omega) hrow (by omega) hob (by rw [e3, w64 (by omega) (by omega)]; exact ih (by omega)) l[m].length (Nat.le_refl _)
    rw [List.drop_eq_nil_of_le (Nat.le_refl _), List.reverse_nil] at H
    refine Ev.succ ?_
    simp only [ashlarlaw08_PropOrder.l0]
    rw [e1]
    refine Ev.pos (by omega) (Ev.pos (by omega) (Ev.pos (by omega) ?_))
    rw [hrow, w64 (by omega) (by omega)]
    exact H

theorem PropOrder : ∀ (l0 : List (List Int)) (l1 : List Int), l0.length ≤ maxLen → (∀ c ∈ l0, c.length ≤ maxLen ∧ ∀ x ∈ c, (Lit.int .i64 x).wf = true) → l1.length ≤ maxLen → (∀ x ∈ l1, (Lit.int .i8 x).wf = true) → ∃ k, ashlarlaw08_PropOrder.f k l0 l1 = some true := by
  intro l0 l1 h0 h1 h2 h3
  refine Ev.rounds ?_
  have ha := few_wfA h3
  have hs := few_small' l0
  unfold ashlarlaw08_PropOrder.f
  refine Ev.bind shown_ok (Ev.bind (few_ok l0 l1 h0) ?_)
  have := order_loop hs ha.1 (by omega) _ (Nat.le_refl _)
  rw [List.drop_eq_nil_of_le (Nat.le_refl _)] at this
  have hl := hs.1
  simp only
  rw [w64 (by omega) (by omega)]
  exact this
end Go.Proofs.Ytbgjmeiphmfniaa.Pure
