/- The law PropOnce, in plain Lean: what followed at once follows no further. -/
import Derived.Test.YtbgjmeiphmfniaaPropFew
import Derived.Test.YtbgjmeiphmfniaaPropRef
import Derived.Test.YtbgjmeiphmfniaaQx7
namespace Go.Proofs.Ytbgjmeiphmfniaa.Pure
open Go.RowKit Go.Proofs.Ytbgjmeiphmfniaa.Q Go.Proofs.Ytbgjmeiphmfniaa.PT Go.Proofs.YtbgjmeiphmfniaaW.PrintWords Go.Proofs.YtbgjmeiphmfniaaW.PrintLast Go.Proofs.YtbgjmeiphmfniaaW.PrintMore

/-- What the law's count of open literals tells: how many were counted, and the last one. -/
def Counts (a pre : List Int) (n last : Int) : Prop := 0 ≤ n ∧ n ≤ (pre.length : Int) ∧ (n = 0 → ∀ x ∈ pre, lv a x ≠ 0) ∧ (n = 1 → last ∈ pre ∧ lv a last = 0 ∧ ∀ x ∈ pre, lv a x = 0 → x = last)

theorem once_inner {l : List (List Int)} {a x : List Int} {c : List Int} {i : Int} {ext : List Int} (hi : 0 ≤ i) (hil : i < (l.length : Int)) (hrow : rd_L2 l i = c) (hc : c.length ≤ 1000) (hx : x.length ≤ 1000) (hid : idle x c)
    (H : Ev (fun k => ashlarlaw08_PropOnce.l0 k l a ext true x (wrap64 (i + 1))) true) (rest : List Int) : ∀ (pre : List Int) (n last : Int), c = pre ++ rest → Counts x pre n last → Ev (fun k => ashlarlaw08_PropOnce.l1 k l a ext true x i n last (pre.length : Int)) true := by
  induction rest with
  | nil =>
    intro pre n last hp hcn
    rw [List.append_nil] at hp
    subst hp
    refine Ev.succ ?_
    simp only [ashlarlaw08_PropOnce.l1, hrow]
    refine Ev.pos hi (Ev.pos hil (Ev.neg (by omega) ?_))
    by_cases h1 : n = 1
    · refine Ev.pos h1 (Ev.bind (holds_ok (by omega) (by omega)) (Ev.pos ?_ H))
      obtain ⟨g1, g2, g3⟩ := hcn.2.2.2 h1
      cases ht : truB x c with
      | true => rfl
      | false =>
        refine (idle_not_unt hid (n := last) (untB_iff.2 ⟨g1, g2, fun y hy => ?_⟩)).elim
        rcases lv_cases x y with e | e | e
        · have : truB x c = true := truB_iff.2 ⟨y, hy, e⟩
          rw [ht] at this
          cases this
        · exact .inl e
        · exact .inr (g3 y hy e)
    · exact Ev.neg h1 H
  | cons y rest ih =>
    intro pre n last hp hcn
    obtain ⟨g1, g2, g3, g4⟩ := hcn
    have hcl : c.length = pre.length + rest.length + 1 := by rw [hp]; simp; omega
    have hnx : wrap64 ((pre.length : Int) + 1) = ((pre ++ [y]).length : Int) := by rw [w64 (by omega) (by omega)]; simp
    have hy : rd c (pre.length : Int) = y := by rw [hp]; exact rd_mid _ _ _
    have hn1 : wrap64 (n + 1) = n + 1 := w64 (by omega) (by omega)
    have next := fun n last h => ih (pre ++ [y]) n last (by rw [hp]; simp) h
    refine Ev.succ ?_
    simp only [ashlarlaw08_PropOnce.l1, hrow, hy, hnx, hn1]
    refine Ev.pos hi (Ev.pos hil (Ev.pos (by omega) (Ev.pos (by omega) (Ev.bind (open_of (by omega) y) ?_))))
    have hlen : ((pre ++ [y]).length : Int) = (pre.length : Int) + 1 := by simp
    by_cases ho : lv x y = 0
    · refine Ev.pos (beq_iff_eq.2 ho) ?_
      by_cases h0 : n = 0
      · refine Ev.pos h0 (next _ _ ⟨by omega, by omega, by omega, fun _ => ⟨by simp, ho, fun z hz hz0 => ?_⟩⟩)
        rcases List.mem_append.1 hz with hz | hz
        · exact (g3 h0 z hz hz0).elim
        · exact List.mem_singleton.1 hz
      · refine Ev.neg h0 ?_
        by_cases h1 : y = last
        · refine Ev.pos h1 (next _ _ ⟨g1, by omega, fun h => (h0 h).elim, fun h => ?_⟩)
          obtain ⟨q1, q2, q3⟩ := g4 h
          refine ⟨List.mem_append_left _ q1, q2, fun z hz hz0 => ?_⟩
          rcases List.mem_append.1 hz with hz | hz
          · exact q3 z hz hz0
          · rw [List.mem_singleton.1 hz, h1]
        · exact Ev.neg h1 (next _ _ ⟨by omega, by omega, by omega, by omega⟩)
    · refine Ev.neg (fun e => ho (beq_iff_eq.1 e)) (next _ _ ⟨g1, by omega, fun h z hz => ?_, fun h => ?_⟩)
      · rcases List.mem_append.1 hz with hz | hz
        · exact g3 h z hz
        · rw [List.mem_singleton.1 hz]; exact ho
      · obtain ⟨q1, q2, q3⟩ := g4 h
        refine ⟨List.mem_append_left _ q1, q2, fun z hz hz0 => ?_⟩
        rcases List.mem_append.1 hz with hz | hz
        · exact q3 z hz hz0
        · rw [List.mem_singleton.1 hz] at hz0
          exact (ho hz0).elim

theorem once_l2 {x z : List Int} {more : Bool} (hx : x.length ≤ 1000) (hz : more = false → z.length = x.length) (h : more = false → ∀ j : Int, 0 ≤ j → j < (x.length : Int) → rd x j ≠ 0 → rd z j = rd x j) (d : Nat) : ∀ (j : Nat), x.length - j = d → Ev (fun k => ashlarlaw08_PropOnce.l2 k true x z more (j : Int)) true := by
  induction d with
  | zero =>
    intro j hj
    refine Ev.succ ?_
    simp only [ashlarlaw08_PropOnce.l2]
    refine Ev.neg (by omega) (Ev.succ ?_)
    simp only [ashlarlaw08_PropOnce.j5]
    exact Ev.neg (by simp) (Ev.some_ _)
  | succ d ih =>
    intro j hj
    refine Ev.succ ?_
    simp only [ashlarlaw08_PropOnce.l2]
    refine Ev.pos (by omega) (Ev.succ ?_)
    simp only [ashlarlaw08_PropOnce.j5]
    cases more with
    | true => exact Ev.neg (by simp) (Ev.some_ _)
    | false =>
      have next := ih (j + 1) (by omega)
      have e : wrap64 ((j : Int) + 1) = ((j + 1 : Nat) : Int) := by rw [w64 (by omega) (by omega)]; omega
      have hzl := hz rfl
      rw [e]
      refine Ev.pos (by simp) (Ev.pos (by omega) (Ev.pos (by omega) ?_))
      by_cases h0 : rd x (j : Int) = 0
      · exact Ev.pos h0 next
      · exact Ev.neg h0 (Ev.pos (by omega) (Ev.pos (h rfl _ (by omega) (by omega) h0) next))

theorem once_end {l : List (List Int)} (hl : Small l) (h50 : l.length ≤ 50) {a x : List Int} (ha : WfA a) (hs : a.length ≤ 1000) {r : Bool} (hR : Run l a x r) (_hr : r = false) (ext : List Int) {i : Int} (hi : ¬ i < (l.length : Int)) :
    Ev (fun k => ashlarlaw08_PropOnce.l0 k l a ext true x i) true := by
  have h := mn_val ext.length 20 (by decide)
  have hc : (ext.take 20).length ≤ 20 := List.length_take_le _ _
  have e20 : ((20 : Int).toNat) = 20 := rfl
  have hl1 := hl.1
  have hm : Small (l ++ [ext.take 20]) := ⟨by simp; omega, fun c hc' => by
    rcases List.mem_append.1 hc' with hc' | hc'
    · exact hl.2 c hc'
    · rw [List.mem_singleton.1 hc']; omega⟩
  obtain ⟨z, m, hE, hM⟩ := unit_ok hm.wf ha
  refine Ev.succ ?_
  simp only [ashlarlaw08_PropOnce.l0, Option.bind_some, List.nil_append, List.length_nil]
  rw [take_mn ext 20 (by decide), e20]
  refine Ev.neg hi (Ev.pos (by omega) (Ev.pos h.2.1 (Ev.pos h.2.2 (Ev.pos (by omega) (Ev.pos (by omega) (Ev.bind hE ?_))))))
  have hz : z.length = x.length := by rw [hM.length, hR.length]
  have key : m = false → Agr x z := fun e => (hR.least (fun c hc' => hM.closed e c (List.mem_append_left _ hc')) hM.agr).1
  have h2 : Ev (fun k => ashlarlaw08_PropOnce.l2 k true x z m 0) true :=
    once_l2 (by rw [hR.length]; exact hs) (fun _ => hz) (fun e j h0 h1 hj => hR.vals_le hM (key e) h0 (by rw [← hR.length]; exact h1) hj) _ 0 rfl
  have j3 : ∀ q, q = false → Ev (fun k => ashlarlaw08_PropOnce.j3 k true x z m q) true := by
    intro q hq
    refine Ev.succ ?_
    simp only [ashlarlaw08_PropOnce.j3]
    exact Ev.neg (by rw [hq]; simp) h2
  by_cases hm1 : m = true
  · exact Ev.pos hm1 (j3 _ rfl)
  · refine Ev.neg hm1 (j3 _ ?_)
    rw [hz]
    simp

theorem once_loop {l : List (List Int)} (hl : Small l) (h50 : l.length ≤ 50) {a x : List Int} (ha : WfA a) (hs : a.length ≤ 1000) {r : Bool} (hR : Run l a x r) (hr : r = false) (ext : List Int) (d : Nat) : ∀ (i : Nat), l.length - i = d →
    Ev (fun k => ashlarlaw08_PropOnce.l0 k l a ext true x (i : Int)) true := by
  have hl1 := hl.1
  induction d with
  | zero =>
    intro i hi
    exact once_end hl h50 ha hs hR hr ext (by omega)
  | succ d ih =>
    intro i hi
    have e : wrap64 ((i : Int) + 1) = ((i + 1 : Nat) : Int) := by rw [w64 (by omega) (by omega)]; omega
    have hlt : i < l.length := by omega
    have hrow : rd_L2 l (i : Int) = l[i] := by
      unfold rd_L2
      rw [Int.toNat_natCast, List.getD_eq_getElem?_getD, List.getElem?_eq_getElem hlt]
      rfl
    have hmem : l[i] ∈ l := List.getElem_mem hlt
    have hrl := hl.2 _ hmem
    refine Ev.succ ?_
    simp only [ashlarlaw08_PropOnce.l0]
    refine Ev.pos (by omega) ?_
    exact once_inner (by omega) (by omega) hrow (by omega) (by rw [hR.length]; exact hs) (hR.closed hr _ hmem) (by rw [e]; exact ih (i + 1) (by omega)) l[i] [] 0 0 rfl ⟨by omega, by simp, by simp, by omega⟩

theorem PropOnce : ∀ (l0 : List (List Int)) (l1 : List Int) (l2 : List Int), l0.length ≤ maxLen → (∀ c ∈ l0, c.length ≤ maxLen ∧ ∀ x ∈ c, (Lit.int .i64 x).wf = true) → l1.length ≤ maxLen → (∀ x ∈ l1, (Lit.int .i8 x).wf = true) → l2.length ≤ maxLen → (∀ x ∈ l2, (Lit.int .i64 x).wf = true) → ∃ k, ashlarlaw08_PropOnce.f k l0 l1 l2 = some true := by
  intro l0 l1 l2 h0 h1 h2 h3 _ _
  refine Ev.rounds ?_
  obtain ⟨ha, hs⟩ := few_wfA h3
  have hl := few_small' l0
  obtain ⟨x, r, hE, hR⟩ := unit_ok hl.wf ha
  have hxw := hR.wf ha
  have hxl := hR.length
  unfold ashlarlaw08_PropOnce.f
  refine Ev.bind shown_ok (Ev.bind (few_ok l0 l1 h0) (Ev.bind hE ?_))
  by_cases h : r = true
  · exact Ev.pos h (Ev.some_ _)
  · have hr : r = false := Bool.eq_false_iff.2 h
    refine Ev.neg h ?_
    obtain ⟨y, q, hE2, hR2⟩ := unit_ok hl.wf hxw
    obtain ⟨rfl, rfl⟩ := (Run.done (hR.closed hr)).det hR2
    refine Ev.bind hE2 (Ev.neg (by simp) (Ev.bind (same_ok x x (by omega)) (Ev.pos (decide_eq_true rfl) (Ev.bind (eval_ok hxw hl.wf) (Ev.succ ?_)))))
    simp only [ashlarlaw08_PropOnce.j0]
    refine Ev.neg ?_ (once_loop hl (few_small l0).1 ha (by omega) hR hr l2 _ 0 rfl)
    have : evalV ((l0.take 50).map (·.take 20)) x ≠ -1 := fun e => by
      obtain ⟨c, hc, hf⟩ := List.any_eq_true.1 (eval_neg.1 e)
      exact idle_not_fls (hR.closed hr c hc) hf
    have := eval_cases ((l0.take 50).map (·.take 20)) x
    simp only [decide_eq_true_eq]
    omega
end Go.Proofs.Ytbgjmeiphmfniaa.Pure
