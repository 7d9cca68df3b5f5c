/- The law PropFull, in plain Lean: where nothing is open nothing follows. -/
import Derived.Test.YtbgjmeiphmfniaaPropFew
import Derived.Test.YtbgjmeiphmfniaaQx8
namespace Go.Proofs.Ytbgjmeiphmfniaa.Pure
open Go.RowKit Go.Proofs.Ytbgjmeiphmfniaa.Q Go.Proofs.Ytbgjmeiphmfniaa.PT Go.Proofs.YtbgjmeiphmfniaaW.PrintWords Go.Proofs.YtbgjmeiphmfniaaW.PrintLast Go.Proofs.YtbgjmeiphmfniaaW.PrintMore

def fill (a : List Int) : List Int := a.map fun x => if x = 0 then -1 else x
theorem fill_no (a : List Int) (n : Int) : lv (fill a) n ≠ 0 := by
  intro h
  have key : ∀ j : Int, 0 ≤ j → j < ((fill a).length : Int) → rd (fill a) j ≠ 0 := by
    intro j h0 h1 h2
    unfold rd at h2
    have hj : j.toNat < (fill a).length := by omega
    rw [List.getD_eq_getElem?_getD, List.getElem?_eq_getElem hj] at h2
    simp only [fill, List.getElem_map, Option.getD_some] at h2
    split at h2 <;> omega
  rcases lv_open h with ⟨h0, h1, h2⟩ | ⟨h0, h1, h2⟩
  · exact key _ (by omega) h1 h2
  · exact key _ (by omega) h1 h2
theorem full_tell {a : List Int} (c : List Int) (h : ∀ n, lv a n ≠ 0) (hf : flsB a c = false) : truB a c = true := by
  cases ht : truB a c with
  | true => rfl
  | false =>
    have : flsB a c = true := flsB_iff.2 fun x hx => by
      rcases lv_cases a x with e | e | e
      · have : truB a c = true := truB_iff.2 ⟨x, hx, e⟩
        rw [ht] at this
        cases this
      · exact e
      · exact (h x e).elim
    rw [hf] at this
    cases this

theorem full_end {l : List (List Int)} (hl : Small l) {a : List Int} (ha : WfA a) (hn : ∀ n, lv a n ≠ 0) (hs : a.length ≤ 1000) :
    Ev (fun k => (prop_Unit.f k l a).bind fun bt => ((prop_Eval.f k l a).bind fun t => (if true = true then ((ashlarlaw08_same.f k bt.1 a).bind fun s => (if s = true then (if (bt.2 == (t == (-1))) = true then (if bt.2 = true then (some true) else (some (t == 1))) else (some false)) else (some false))) else (some false)))) true := by
  obtain ⟨b, r, hE, hR⟩ := unit_ok hl.wf ha
  have hb : b = a ∧ r = l.any (flsB a) := by
    cases hR with
    | done h =>
      refine ⟨rfl, ?_⟩
      symm
      rw [List.any_eq_false]
      intro c hc hf
      exact idle_not_fls (h c hc) hf
    | conf hl' hi hc => exact ⟨rfl, by rw [hl']; simp [List.any_append, hc]⟩
    | step hl' hi hc => exact (hn _ (untB_iff.1 hc).2.1).elim
  obtain ⟨rfl, rfl⟩ := hb
  refine Ev.bind hE (Ev.bind (eval_ok ha hl.wf) (Ev.pos rfl (Ev.bind (same_ok b b (by omega)) ?_)))
  refine Ev.pos (decide_eq_true rfl) ?_
  by_cases h : l.any (flsB b) = true
  · have e : evalV l b = -1 := by unfold evalV; rw [if_pos h]
    rw [e]
    refine Ev.pos (by simp [h]) (Ev.pos h (Ev.some_ _))
  · have h' : l.any (flsB b) = false := Bool.eq_false_iff.2 h
    have e : evalV l b = 1 := by
      unfold evalV
      rw [if_neg h, if_pos]
      rw [List.all_eq_true]
      intro c hc
      exact full_tell c hn (by simpa using (List.any_eq_false.1 h') c hc)
    rw [e]
    refine Ev.pos (by simp only [h']; decide) (Ev.neg h ?_)
    exact Ev.some_ _

theorem full_loop {l : List (List Int)} (hl : Small l) {a : List Int} (ha : WfA (fill a)) (hs : a.length ≤ 1000) (rest : List Int) : ∀ (pre : List Int), a = pre ++ rest →
    Ev (fun k => ashlarlaw08_PropFull.l0 k l (fill pre ++ rest) true (pre.length : Int)) true := by
  induction rest with
  | nil =>
    intro pre hp
    refine Ev.succ ?_
    simp only [ashlarlaw08_PropFull.l0]
    rw [List.append_nil] at hp ⊢
    subst hp
    refine Ev.neg (by simp [fill]) ?_
    exact full_end hl ha (fill_no a) (by simp [fill]; omega)
  | cons x rest ih =>
    intro pre hp
    have hfl : (fill pre).length = pre.length := by simp [fill]
    have hll : a.length = pre.length + rest.length + 1 := by rw [hp]; simp; omega
    have hnx : wrap64 ((pre.length : Int) + 1) = ((pre ++ [x]).length : Int) := by rw [w64 (by omega) (by omega)]; simp
    have hrd : rd (fill pre ++ x :: rest) (pre.length : Int) = x := by rw [← hfl]; exact rd_mid _ _ _
    have next := ih (pre ++ [x]) (by rw [hp]; simp)
    refine Ev.succ ?_
    simp only [ashlarlaw08_PropFull.l0, hrd, hnx]
    refine Ev.pos (by simp [hfl]; omega) (Ev.pos (by omega) ?_)
    have hf : fill (pre ++ [x]) = fill pre ++ [if x = 0 then -1 else x] := by simp [fill]
    rw [hf, List.append_assoc, List.singleton_append] at next
    by_cases hx : x = 0
    · rw [if_pos hx] at next
      refine Ev.pos hx ?_
      rw [Int.toNat_natCast, ← hfl, List.set_append_right _ _ (Nat.le_refl _), Nat.sub_self, List.set_cons_zero]
      exact next
    · rw [if_neg hx] at next
      exact Ev.neg hx next

theorem PropFull : ∀ (l0 : List (List Int)) (l1 : List Int), l0.length ≤ maxLen → (∀ c ∈ l0, c.length ≤ maxLen ∧ ∀ x ∈ c, (Lit.int .i64 x).wf = true) → l1.length ≤ maxLen → (∀ x ∈ l1, (Lit.int .i8 x).wf = true) → ∃ k, ashlarlaw08_PropFull.f k l0 l1 = some true := by
  intro l0 l1 h0 h1 h2 h3
  refine Ev.rounds ?_
  have ha := few_wfA h3
  have hw : WfA (fill (l1.take 50)) := by
    refine ⟨fun x hx => ?_, by simp only [fill, List.length_map]; exact ha.1.2⟩
    obtain ⟨y, hy, rfl⟩ := List.mem_map.1 hx
    have := ha.1.1 y hy
    split <;> omega
  unfold ashlarlaw08_PropFull.f
  refine Ev.bind shown_ok (Ev.bind (few_ok l0 l1 h0) ?_)
  exact full_loop (few_small' l0) hw (by omega) (l1.take 50) [] rfl
end Go.Proofs.Ytbgjmeiphmfniaa.Pure
