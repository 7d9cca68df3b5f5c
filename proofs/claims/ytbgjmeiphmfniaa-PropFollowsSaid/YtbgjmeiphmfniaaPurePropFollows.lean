/- The law PropFollows, in plain Lean: whatever makes all clauses true, and agrees, agrees with what follows. -/
import Derived.Test.YtbgjmeiphmfniaaPropFew
import Derived.Test.YtbgjmeiphmfniaaQx6
namespace Go.Proofs.Ytbgjmeiphmfniaa.Pure
open Go.RowKit Go.Proofs.Ytbgjmeiphmfniaa.Q Go.Proofs.Ytbgjmeiphmfniaa.PT Go.Proofs.YtbgjmeiphmfniaaW.PrintWords Go.Proofs.YtbgjmeiphmfniaaW.PrintLast Go.Proofs.YtbgjmeiphmfniaaW.PrintMore

/-- f says what a says, and has no variable open. -/
def Fills (a f : List Int) : Prop := f.length = a.length ∧ (∀ j : Int, 0 ≤ j → rd a j ≠ 0 → rd f j = rd a j)
theorem Fills.agr {a f : List Int} (h : Fills a f) : Agr a f := by
  intro x hx
  unfold lv at hx ⊢
  rw [h.1]
  split
  · rename_i hc
    rw [if_pos hc] at hx
    have : rd a x ≠ 0 := fun e => hx (by rw [e]; rfl)
    rw [h.2 x (by omega) this]
  · rename_i hc
    rw [if_neg hc] at hx
    split
    · rename_i hd
      rw [if_pos hd] at hx
      have : rd a (-x) ≠ 0 := fun e => hx (by rw [e]; rfl)
      rw [h.2 (-x) (by omega) this]
    · rfl
theorem Fills.set {a f : List Int} {i : Int} (h : Fills a f) {v : Int} (h0 : 0 ≤ i) (ha : rd a i = 0) : Fills a (f.set i.toNat v) := by
  refine ⟨by rw [List.length_set]; exact h.1, fun j hj hn => ?_⟩
  rw [rd_set _ _ _ _ hj, if_neg (fun e => hn (by rw [show j = i by omega]; exact ha))]
  exact h.2 j hj hn

theorem follows_l2 {a x f : List Int} {r : Bool} (hx : x.length = a.length) (hf : f.length = a.length) (hs : a.length ≤ 1000) (hr : r = false) (h : Agr x f) (d : Nat) : ∀ (j : Nat), 1 ≤ j → a.length - j = d → Ev (fun k => ashlarlaw08_PropFollows.l2 k a true f x r (j : Int)) true := by
  induction d with
  | zero =>
    intro j _ hj
    refine Ev.succ ?_
    simp only [ashlarlaw08_PropFollows.l2]
    refine Ev.neg (by omega) (Ev.pos trivial ?_)
    rw [hr]
    exact Ev.some_ _
  | succ d ih =>
    intro j hj1 hj
    have next := ih (j + 1) (by omega) (by omega)
    have e : wrap64 ((j : Int) + 1) = ((j + 1 : Nat) : Int) := by rw [w64 (by omega) (by omega)]; omega
    have hxl : lv x (j : Int) = sg (rd x (j : Int)) := lv_pos (by omega) (by omega)
    have hfl : lv f (j : Int) = sg (rd f (j : Int)) := lv_pos (by omega) (by omega)
    have hag := h (j : Int)
    rw [hxl, hfl] at hag
    have c1 := sg_cases (rd x (j : Int))
    have c2 := sg_cases (rd f (j : Int))
    refine Ev.succ ?_
    simp only [ashlarlaw08_PropFollows.l2, e]
    refine Ev.pos (by omega) (Ev.pos (by omega) (Ev.pos (by omega) ?_))
    by_cases g1 : rd x (j : Int) > 0
    · have : sg (rd f (j : Int)) = 1 := by
        have : sg (rd x (j : Int)) = 1 := by omega
        have := hag (by omega)
        omega
      exact Ev.pos g1 (Ev.pos (by omega) (Ev.neg (by omega) (Ev.neg (by omega) next)))
    · refine Ev.neg g1 ?_
      by_cases g2 : rd x (j : Int) < 0
      · have : sg (rd f (j : Int)) = -1 := by
          have : sg (rd x (j : Int)) = -1 := by omega
          have := hag (by omega)
          omega
        exact Ev.pos g2 (Ev.pos (by omega) (Ev.neg (by omega) next))
      · exact Ev.neg g2 next

theorem follows_l1 {l : List (List Int)} {a x f : List Int} {r : Bool} (hx : x.length = a.length) (hs : a.length ≤ 1000) (hv : ∀ j : Int, 0 ≤ j → rd x j = rd a j ∨ (rd a j = 0 ∧ 0 < j ∧ (rd x j = 1 ∨ rd x j = -1)))
    (H : Ev (fun k => (prop_Eval.f k l f).bind fun t => (if t = 1 then (ashlarlaw08_PropFollows.l2 k a true f x r 1) else (some true))) true) (d : Nat) : ∀ (j : Nat), a.length - j = d → Ev (fun k => ashlarlaw08_PropFollows.l1 k l a true f x r (j : Int)) true := by
  induction d with
  | zero =>
    intro j hj
    refine Ev.succ ?_
    simp only [ashlarlaw08_PropFollows.l1]
    exact Ev.neg (by omega) H
  | succ d ih =>
    intro j hj
    have next := ih (j + 1) (by omega)
    have e : wrap64 ((j : Int) + 1) = ((j + 1 : Nat) : Int) := by rw [w64 (by omega) (by omega)]; omega
    have hvj := hv (j : Int) (by omega)
    refine Ev.succ ?_
    simp only [ashlarlaw08_PropFollows.l1, e]
    refine Ev.pos (by omega) (Ev.pos (by omega) ?_)
    by_cases g0 : rd a (j : Int) = 0
    · refine Ev.pos g0 (Ev.pos (by omega) ?_)
      exact Ev.neg (by omega) (Ev.neg (by omega) next)
    · refine Ev.neg g0 (Ev.pos (by omega) (Ev.pos (by omega) ?_))
      by_cases g1 : rd x (j : Int) < -1
      · exact Ev.pos g1 (Ev.neg (by omega) next)
      · refine Ev.neg g1 ?_
        by_cases g2 : rd x (j : Int) > 1
        · exact Ev.pos g2 next
        · exact Ev.neg g2 next

theorem follows_end {l : List (List Int)} (hl : Small l) {a f : List Int} (ha : WfA a) (hf : WfA f) (hs : a.length ≤ 1000) (hff : Fills a f) :
    Ev (fun k => (prop_Unit.f k l a).bind fun bt286 => (if (bt286.1.length : Int) = (a.length : Int) then (if bt286.2 = true then ((prop_Eval.f k l bt286.1).bind fun t290 => (ashlarlaw08_PropFollows.j1 k l a true f bt286.1 bt286.2 (t290 != (-1)))) else (ashlarlaw08_PropFollows.j1 k l a true f bt286.1 bt286.2 false)) else (ashlarlaw08_PropFollows.j1 k l a true f bt286.1 bt286.2 true))) true := by
  obtain ⟨b, r, hE, hR⟩ := unit_ok hl.wf ha
  refine Ev.bind hE (Ev.pos (by rw [hR.length]) ?_)
  have H : Ev (fun k => (prop_Eval.f k l f).bind fun t => (if t = 1 then (ashlarlaw08_PropFollows.l2 k a true f b r 1) else (some true))) true := by
    refine Ev.bind (eval_ok hf hl.wf) ?_
    by_cases h1 : evalV l f = 1
    · obtain ⟨g1, g2⟩ := hR.sound (eval_one.1 h1) hff.agr
      exact Ev.pos h1 (follows_l2 hR.length hff.1 hs g2 g1 _ 1 (Nat.le_refl _) rfl)
    · exact Ev.neg h1 (Ev.some_ _)
  have j1 : ∀ q, q = false → Ev (fun k => ashlarlaw08_PropFollows.j1 k l a true f b r q) true := by
    intro q hq
    refine Ev.succ ?_
    simp only [ashlarlaw08_PropFollows.j1]
    exact Ev.neg (by rw [hq]; simp) (follows_l1 hR.length hs (fun j hj => hR.vals j hj) H _ 0 rfl)
  by_cases h : r = true
  · refine Ev.pos h (Ev.bind (eval_ok (hR.wf ha) hl.wf) (j1 _ ?_))
    obtain ⟨c, hc, hfl⟩ := hR.conflict h
    have : evalV l b = -1 := eval_neg.2 (List.any_eq_true.2 ⟨c, hc, hfl⟩)
    rw [this]
    rfl
  · exact Ev.neg h (j1 _ rfl)

theorem wf_set {f : List Int} (hf : WfA f) (i : Nat) {v : Int} (hv : -128 ≤ v ∧ v ≤ 127) : WfA (f.set i v) := by
  refine ⟨fun x hx => ?_, by rw [List.length_set]; exact hf.2⟩
  rcases List.mem_or_eq_of_mem_set hx with h | h
  · exact hf.1 x h
  · rw [h]; exact hv
theorem follows_loop {l : List (List Int)} (hl : Small l) {a : List Int} (ha : WfA a) (hs : a.length ≤ 1000) {more : List Bool} (d : Nat) : ∀ (i : Nat) (f : List Int), 1 ≤ i → a.length - i = d → WfA f → f.length = a.length → (∀ j : Int, 0 ≤ j → rd a j ≠ 0 → rd f j = rd a j) → (∀ j : Int, (i : Int) ≤ j → rd f j = rd a j) →
    Ev (fun k => ashlarlaw08_PropFollows.l0 k l a more true f (i : Int)) true := by
  induction d with
  | zero =>
    intro i f _ hi hf hfl h1 h2
    refine Ev.succ ?_
    simp only [ashlarlaw08_PropFollows.l0]
    exact Ev.neg (by omega) (follows_end hl ha hf hs ⟨hfl, h1⟩)
  | succ d ih =>
    intro i f hi1 hi hf hfl h1 h2
    have e : wrap64 ((i : Int) + 1) = ((i + 1 : Nat) : Int) := by rw [w64 (by omega) (by omega)]; omega
    have hii := h2 (i : Int) (by omega)
    refine Ev.succ ?_
    simp only [ashlarlaw08_PropFollows.l0, e, Option.bind_some]
    refine Ev.pos (by omega) (Ev.pos (by omega) ?_)
    have step : ∀ (v w : Int), (-128 ≤ v ∧ v ≤ 127) → (-128 ≤ w ∧ w ≤ 127) → rd f (i : Int) = 0 → Ev (fun k => ashlarlaw08_PropFollows.l0 k l a more true ((f.set (i : Int).toNat v).set (i : Int).toNat w) ((i + 1 : Nat) : Int)) true := by
      intro v w hv hw h0
      have hF := (Fills.set (i := (i : Int)) (v := w) (Fills.set (i := (i : Int)) (v := v) ⟨hfl, h1⟩ (by omega) (by omega)) (by omega) (by omega))
      refine ih (i + 1) _ (by omega) (by omega) (wf_set (wf_set hf _ hv) _ hw) hF.1 hF.2 (fun j hj => ?_)
      rw [rd_set _ _ _ _ (by omega), if_neg (by omega), rd_set _ _ _ _ (by omega), if_neg (by omega)]
      exact h2 j (by omega)
    have step1 : rd f (i : Int) = 0 → Ev (fun k => ashlarlaw08_PropFollows.l0 k l a more true (f.set (i : Int).toNat (-1)) ((i + 1 : Nat) : Int)) true := by
      intro h0
      have hF := (Fills.set (i := (i : Int)) (v := -1) ⟨hfl, h1⟩ (by omega) (by omega))
      refine ih (i + 1) _ (by omega) (by omega) (wf_set hf _ (by omega)) hF.1 hF.2 (fun j hj => ?_)
      rw [rd_set _ _ _ _ (by omega), if_neg (by omega)]
      exact h2 j (by omega)
    by_cases h0 : rd f (i : Int) = 0
    · refine Ev.pos h0 ?_
      by_cases hm : (i : Int) < (more.length : Int)
      · refine Ev.pos hm ?_
        by_cases hb : rdOf false more (i : Int) = true
        · exact Ev.pos hb (step (-1) 1 (by omega) (by omega) h0)
        · exact Ev.neg hb (step1 h0)
      · exact Ev.neg hm (step1 h0)
    · exact Ev.neg h0 (ih (i + 1) f (by omega) (by omega) hf hfl h1 (fun j hj => h2 j (by omega)))

theorem PropFollows : ∀ (l0 : List (List Int)) (l1 : List Int) (l2 : List Bool), l0.length ≤ maxLen → (∀ c ∈ l0, c.length ≤ maxLen ∧ ∀ x ∈ c, (Lit.int .i64 x).wf = true) → l1.length ≤ maxLen → (∀ x ∈ l1, (Lit.int .i8 x).wf = true) → l2.length ≤ maxLen → ∃ k, ashlarlaw08_PropFollows.f k l0 l1 l2 = some true := by
  intro l0 l1 l2 h0 h1 h2 h3 _
  refine Ev.rounds ?_
  have ha := few_wfA h3
  unfold ashlarlaw08_PropFollows.f
  refine Ev.bind shown_ok (Ev.bind (few_ok l0 l1 h0) ?_)
  simp only [Option.bind_some, List.nil_append, List.length_nil]
  refine Ev.pos (by omega) ?_
  exact follows_loop (few_small' l0) ha.1 (by omega) _ 1 (l1.take 50) (Nat.le_refl _) rfl ha.1 rfl (fun _ _ _ => rfl) (fun _ _ => rfl)
end Go.Proofs.Ytbgjmeiphmfniaa.Pure
