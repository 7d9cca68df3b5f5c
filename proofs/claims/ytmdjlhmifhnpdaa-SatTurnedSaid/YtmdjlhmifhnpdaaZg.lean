/- Texts of this seat, joined by a program of this session (wip/tools/pack.py). -/
import Derived.Test.YtmdjlhmifhnpdaaZh
import Derived.Test.YtmdjlhmifhnpdaaZd
import Derived.Test.YtmdjlhmifhnpdaaZq1
import Derived.Test.YtmdjlhmifhnpdaaZq2
import Derived.Test.YtmdjlhmifhnpdaaZq3
namespace Go.Proofs.Ytmdjlhmifhnpdaa.PT
open Go.RowKit Go.Proofs.Ytmdjlhmifhnpdaa.Q Go.Proofs.YtmdjlhmifhnpdaaW.PrintWords Go.Proofs.YtmdjlhmifhnpdaaW.PrintLast Go.Proofs.YtmdjlhmifhnpdaaW.PrintMore

theorem open_of {a : List Int} (hl : a.length ≤ 1000000) (n : Int) : Ev (fun k => ashlarref08_Open.f k a n) (lv a n == 0) := by
  have z : ∀ v : Int, (v == 0) = (sg v == 0) := by
    intro v
    rw [Bool.eq_iff_iff, beq_iff_eq, beq_iff_eq]
    rcases sg_cases v with h | h | h <;> omega
  unfold ashlarref08_Open.f
  by_cases h1 : 0 < n ∧ n < (a.length : Int)
  · refine Ev.pos h1.1 (Ev.succ ?_)
    simp only [ashlarref08_Open.j0]
    refine Ev.pos (decide_eq_true h1.2) (Ev.pos (by omega) (Ev.pos h1.2 ?_))
    have : lv a n = sg (rd a n) := lv_pos h1.1 h1.2
    rw [this, ← z]
    exact Ev.some_ _
  · have main : Ev (fun k => ashlarref08_Open.j0 k a n false) (lv a n == 0) := by
      refine Ev.succ ?_
      simp only [ashlarref08_Open.j0]
      refine Ev.neg (by simp) ?_
      by_cases h2 : n < 0
      · refine Ev.pos h2 ?_
        by_cases h3 : -n < (a.length : Int)
        · have hw : wrap64 (-n) = -n := w64 (by omega) (by omega)
          rw [hw]
          refine Ev.pos h3 (Ev.pos (by omega) (Ev.pos (by omega) ?_))
          have : lv a n = - sg (rd a (-n)) := by unfold lv; rw [if_neg h1, if_pos ⟨h2, h3⟩]
          rw [this]
          have e : (-sg (rd a (-n)) == 0) = (rd a (-n) == 0) := by
            rw [z (rd a (-n)), Bool.eq_iff_iff, beq_iff_eq, beq_iff_eq]
            omega
          rw [e]
          exact Ev.some_ _
        · have : lv a n = -1 := by unfold lv; rw [if_neg h1, if_neg (by omega)]
          rw [this]
          by_cases h4 : wrap64 (-n) < (a.length : Int)
          · refine Ev.pos h4 ?_
            by_cases h5 : n > -1000000
            · exact absurd h4 (by rw [w64 (by omega) (by omega)]; exact h3)
            · exact Ev.neg h5 (Ev.some_ _)
          · exact Ev.neg h4 (Ev.some_ _)
      · refine Ev.neg h2 ?_
        have : lv a n = -1 := by unfold lv; rw [if_neg h1, if_neg (by omega)]
        rw [this]
        exact Ev.some_ _
    by_cases h2 : n > 0
    · refine Ev.pos h2 ?_
      rw [decide_eq_false (by omega)]
      exact main
    · exact Ev.neg h2 main

theorem true_of {a : List Int} (hl : a.length ≤ 1000000) (n : Int) : Ev (fun k => ashlarref08_True.f k a n) (lv a n == 1) := by
  unfold ashlarref08_True.f
  by_cases h1 : 0 < n ∧ n < (a.length : Int)
  · refine Ev.pos h1.1 (Ev.succ ?_)
    simp only [ashlarref08_True.j0]
    refine Ev.pos (decide_eq_true h1.2) (Ev.pos (by omega) (Ev.pos h1.2 ?_))
    have : lv a n = sg (rd a n) := lv_pos h1.1 h1.2
    have e : (lv a n == 1) = decide (rd a n > 0) := by
      rw [this, Bool.eq_iff_iff, beq_iff_eq, decide_eq_true_eq]
      rcases sg_cases (rd a n) with h | h | h <;> omega
    rw [e]
    exact Ev.some_ _
  · have main : Ev (fun k => ashlarref08_True.j0 k a n false) (lv a n == 1) := by
      refine Ev.succ ?_
      simp only [ashlarref08_True.j0]
      refine Ev.neg (by simp) ?_
      by_cases h2 : n < 0
      · refine Ev.pos h2 ?_
        by_cases h3 : -n < (a.length : Int)
        · have hw : wrap64 (-n) = -n := w64 (by omega) (by omega)
          rw [hw]
          refine Ev.pos h3 (Ev.pos (by omega) (Ev.pos (by omega) ?_))
          have : lv a n = - sg (rd a (-n)) := by unfold lv; rw [if_neg h1, if_pos ⟨h2, h3⟩]
          have e : (lv a n == 1) = decide (rd a (-n) < 0) := by
            rw [this, Bool.eq_iff_iff, beq_iff_eq, decide_eq_true_eq]
            rcases sg_cases (rd a (-n)) with h | h | h <;> omega
          rw [e]
          exact Ev.some_ _
        · have : lv a n = -1 := by unfold lv; rw [if_neg h1, if_neg (by omega)]
          rw [this]
          by_cases h4 : wrap64 (-n) < (a.length : Int)
          · refine Ev.pos h4 ?_
            by_cases h5 : n > -1000000
            · exact absurd h4 (by rw [w64 (by omega) (by omega)]; exact h3)
            · exact Ev.neg h5 (Ev.some_ _)
          · exact Ev.neg h4 (Ev.some_ _)
      · refine Ev.neg h2 ?_
        have : lv a n = -1 := by unfold lv; rw [if_neg h1, if_neg (by omega)]
        rw [this]
        exact Ev.some_ _
    by_cases h2 : n > 0
    · refine Ev.pos h2 ?_
      rw [decide_eq_false (by omega)]
      exact main
    · exact Ev.neg h2 main

theorem holds_loop {a : List Int} (ha : a.length ≤ 1000000) (rest : List Int) : ∀ (pre : List Int), (pre ++ rest).length ≤ 9223372036854775806 → truB a pre = false → Ev (fun k => ashlarref08_Holds.l0 k (pre ++ rest) a (pre.length : Int)) (truB a (pre ++ rest)) := by
  induction rest with
  | nil =>
    intro pre _ hp
    refine Ev.succ ?_
    simp only [ashlarref08_Holds.l0]
    rw [List.append_nil, hp]
    exact Ev.neg (by omega) (Ev.some_ _)
  | cons c rest ih =>
    intro pre hl hp
    have hll : (pre ++ c :: rest).length = pre.length + rest.length + 1 := by simp; omega
    have hnx : wrap64 ((pre.length : Int) + 1) = ((pre ++ [c]).length : Int) := by rw [w64 (by omega) (by omega)]; simp
    have happ : pre ++ c :: rest = (pre ++ [c]) ++ rest := by simp
    refine Ev.succ ?_
    simp only [ashlarref08_Holds.l0, rd_mid, hnx]
    refine Ev.pos (by omega) (Ev.pos (by omega) (Ev.bind (true_of ha c) ?_))
    by_cases h : lv a c = 1
    · refine Ev.pos (beq_iff_eq.2 h) ?_
      have : truB a (pre ++ c :: rest) = true := truB_iff.2 ⟨c, by simp, h⟩
      rw [this]
      exact Ev.some_ _
    · refine Ev.neg (fun e => h (beq_iff_eq.1 e)) ?_
      have := ih (pre ++ [c]) (by rw [← happ]; exact hl) (Bool.eq_false_iff.2 fun ht => by
        obtain ⟨x, hx, h1⟩ := truB_iff.1 ht
        rcases List.mem_append.1 hx with hx | hx
        · have : truB a pre = true := truB_iff.2 ⟨x, hx, h1⟩
          rw [hp] at this
          cases this
        · rw [List.mem_singleton.1 hx] at h1
          exact h h1)
      rw [← happ] at this
      exact this
theorem holds_ok {a : List Int} (ha : a.length ≤ 1000000) {c : List Int} (hc : c.length ≤ 9223372036854775806) : Ev (fun k => ashlarref08_Holds.f k c a) (truB a c) := holds_loop ha c [] hc rfl

/-- The open literals of a clause, each once, in the order in which they come. -/
def opensF (a : List Int) : List Int → List Int → List Int
  | out, [] => out
  | out, x :: c => opensF a (if lv a x = 0 ∧ x ∉ out then out ++ [x] else out) c
theorem opens_inner {a : List Int} {c : List Int} {out : List Int} {i : Int} {x : Int} {r : List Int} (hx : rd c i = x) (h0 : 0 ≤ i) (h1 : i < (c.length : Int)) (ho : out.length ≤ 1000000)
    (H : ∀ q : Bool, (q = true ↔ lv a x = 0 ∧ x ∉ out) → Ev (fun k => if q = true then (if 0 ≤ i then (if i < (c.length : Int) then (if out.length < 17592186044416 then (ashlarref08_opens.l0 k c a (out ++ [x]) (wrap64 (i + 1))) else (none)) else (none)) else (none)) else (ashlarref08_opens.l0 k c a out (wrap64 (i + 1)))) r) (d : Nat) :
    ∀ (j : Nat) (q : Bool), j ≤ out.length → out.length - j = d → (q = true ↔ lv a x = 0 ∧ x ∉ out.take j) → Ev (fun k => ashlarref08_opens.l1 k c a out i q (j : Int)) r := by
  induction d with
  | zero =>
    intro j q hj hd hq
    refine Ev.succ ?_
    simp only [ashlarref08_opens.l1, hx]
    rw [List.take_of_length_le (by omega)] at hq
    exact Ev.neg (by omega) (H q hq)
  | succ d ih =>
    intro j q hj hd hq
    have e : wrap64 ((j : Int) + 1) = ((j + 1 : Nat) : Int) := by rw [w64 (by omega) (by omega)]; omega
    have hlt : j < out.length := by omega
    have hrd : rd out (j : Int) = out[j] := by
      unfold rd
      rw [Int.toNat_natCast, List.getD_eq_getElem?_getD, List.getElem?_eq_getElem hlt]
      rfl
    have ht : out.take (j + 1) = out.take j ++ [out[j]] := by rw [List.take_succ_eq_append_getElem hlt]
    refine Ev.succ ?_
    simp only [ashlarref08_opens.l1, hx, e, hrd]
    refine Ev.pos (by omega) ?_
    cases q with
    | true =>
      refine Ev.pos rfl (Ev.pos (by omega) (Ev.pos h0 (Ev.pos h1 ?_)))
      refine ih (j + 1) _ (by omega) (by omega) ?_
      have := hq.1 rfl
      rw [ht]
      simp only [bne_iff_ne, List.mem_append, List.mem_singleton]
      constructor
      · intro h
        exact ⟨this.1, fun h2 => h2.elim this.2 fun h3 => h h3.symm⟩
      · rintro ⟨_, h2⟩ h3
        exact h2 (.inr h3.symm)
    | false =>
      refine Ev.neg (by simp) (ih (j + 1) _ (by omega) (by omega) ?_)
      rw [ht]
      constructor
      · intro h
        cases h
      · rintro ⟨h2, h3⟩
        exact hq.2 ⟨h2, fun h4 => h3 (List.mem_append_left _ h4)⟩
theorem opens_loop {a : List Int} (ha : a.length ≤ 1000000) (rest : List Int) : ∀ (pre out : List Int), (pre ++ rest).length ≤ 1000000 → out.length ≤ pre.length →
    Ev (fun k => ashlarref08_opens.l0 k (pre ++ rest) a out (pre.length : Int)) (opensF a out rest) := by
  induction rest with
  | nil =>
    intro pre out _ _
    refine Ev.succ ?_
    simp only [ashlarref08_opens.l0]
    rw [List.append_nil]
    exact Ev.neg (by omega) (Ev.some_ _)
  | cons c rest ih =>
    intro pre out hl ho
    have hll : (pre ++ c :: rest).length = pre.length + rest.length + 1 := by simp; omega
    have hnx : wrap64 ((pre.length : Int) + 1) = ((pre ++ [c]).length : Int) := by rw [w64 (by omega) (by omega)]; simp
    have happ : pre ++ c :: rest = (pre ++ [c]) ++ rest := by simp
    refine Ev.succ ?_
    simp only [ashlarref08_opens.l0, rd_mid]
    refine Ev.pos (by omega) (Ev.pos (by omega) (Ev.bind (open_of ha c) ?_))
    refine opens_inner (x := c) (rd_mid _ _ _) (by omega) (by omega) (by omega) (fun q hq => ?_) _ 0 _ (by omega) rfl (by simp)
    rw [hnx]
    have next := fun out' h => ih (pre ++ [c]) out' (by rw [← happ]; exact hl) h
    rw [← happ] at next
    by_cases h : q = true
    · refine Ev.pos h (Ev.pos (by omega) (Ev.pos (by omega) (Ev.pos (by omega) ?_)))
      have e : opensF a out (c :: rest) = opensF a (out ++ [c]) rest := by
        simp only [opensF]
        rw [if_pos (hq.1 h)]
      rw [e]
      exact next _ (by simp; omega)
    · refine Ev.neg h ?_
      have e : opensF a out (c :: rest) = opensF a out rest := by
        simp only [opensF]
        rw [if_neg (fun e => h (hq.2 e))]
      rw [e]
      exact next _ (by simp; omega)
theorem opens_ok {a : List Int} (ha : a.length ≤ 1000000) {c : List Int} (hc : c.length ≤ 1000000) : Ev (fun k => ashlarref08_opens.f k c a) (opensF a [] c) := opens_loop ha c [] [] hc (Nat.le_refl _)
theorem opensF_mem {a : List Int} (c : List Int) : ∀ (out : List Int), (∀ x, x ∈ opensF a out c ↔ x ∈ out ∨ (x ∈ c ∧ lv a x = 0)) ∧ (out.Nodup → (opensF a out c).Nodup) := by
  induction c with
  | nil => intro out; simp [opensF]
  | cons y c ih =>
    intro out
    simp only [opensF]
    by_cases h : lv a y = 0 ∧ y ∉ out
    · rw [if_pos h]
      obtain ⟨h1, h2⟩ := ih (out ++ [y])
      refine ⟨fun x => ?_, fun hn => h2 ?_⟩
      · rw [h1]
        simp only [List.mem_append, List.mem_cons, List.not_mem_nil, or_false]
        constructor
        · rintro ((h3 | h3) | h3)
          · exact .inl h3
          · exact .inr ⟨.inl h3, by rw [h3]; exact h.1⟩
          · exact .inr ⟨.inr h3.1, h3.2⟩
        · rintro (h3 | ⟨h3 | h3, h4⟩)
          · exact .inl (.inl h3)
          · exact .inl (.inr h3)
          · exact .inr ⟨h3, h4⟩
      · rw [List.nodup_append]
        exact ⟨hn, by simp, by simp; intro x hx e; exact h.2 (by rw [← e]; exact hx)⟩
    · rw [if_neg h]
      obtain ⟨h1, h2⟩ := ih out
      refine ⟨fun x => ?_, h2⟩
      rw [h1]
      simp only [List.mem_cons]
      constructor
      · rintro (h3 | h3)
        · exact .inl h3
        · exact .inr ⟨.inr h3.1, h3.2⟩
      · rintro (h3 | ⟨h3 | h3, h4⟩)
        · exact .inl h3
        · subst h3
          by_cases h5 : x ∈ out
          · exact .inl h5
          · exact (h ⟨h4, h5⟩).elim
        · exact .inr ⟨h3, h4⟩
/-- What the open literals tell of a clause without a true one. -/
theorem opens_tell {a c : List Int} (ht : truB a c = false) : ((opensF a [] c).length = 0 ↔ flsB a c = true) ∧ ((opensF a [] c).length = 1 → untB a c (rd (opensF a [] c) 0) = true) ∧ (2 ≤ (opensF a [] c).length → idle a c) := by
  obtain ⟨hm, hn⟩ := opensF_mem (a := a) c []
  have hn := hn List.nodup_nil
  have hnt : ∀ x ∈ c, lv a x ≠ 1 := fun x hx e => by
    have : truB a c = true := truB_iff.2 ⟨x, hx, e⟩
    rw [ht] at this
    cases this
  have hm' : ∀ x, x ∈ opensF a [] c ↔ x ∈ c ∧ lv a x = 0 := fun x => by rw [hm]; simp
  refine ⟨?_, ?_, ?_⟩
  · rw [List.length_eq_zero_iff, flsB_iff]
    constructor
    · intro h x hx
      rcases lv_cases a x with e | e | e
      · exact (hnt x hx e).elim
      · exact e
      · have := (hm' x).2 ⟨hx, e⟩
        rw [h] at this
        cases this
    · intro h
      refine List.eq_nil_iff_forall_not_mem.2 fun x hx => ?_
      obtain ⟨h1, h2⟩ := (hm' x).1 hx
      have := h x h1
      omega
  · intro h
    obtain ⟨y, hy⟩ := List.length_eq_one_iff.1 h
    have e : rd (opensF a [] c) 0 = y := by rw [hy]; rfl
    rw [e]
    obtain ⟨h1, h2⟩ := (hm' y).1 (by rw [hy]; simp)
    refine untB_iff.2 ⟨h1, h2, fun x hx => ?_⟩
    rcases lv_cases a x with e | e | e
    · exact (hnt x hx e).elim
    · exact .inl e
    · have := (hm' x).2 ⟨hx, e⟩
      rw [hy] at this
      exact .inr (List.mem_singleton.1 this)
  · intro h
    match hL : opensF a [] c, h with
    | x :: y :: rest, _ =>
      rw [hL] at hn
      have hxy : x ≠ y := by
        intro e
        rw [List.nodup_cons] at hn
        exact hn.1 (by rw [e]; simp)
      obtain ⟨hx1, hx2⟩ := (hm' x).1 (by rw [hL]; simp)
      obtain ⟨hy1, hy2⟩ := (hm' y).1 (by rw [hL]; simp)
      refine ⟨Bool.eq_false_iff.2 fun hf => ?_, fun n => Bool.eq_false_iff.2 fun hu => ?_⟩
      · have := flsB_iff.1 hf x hx1
        omega
      · obtain ⟨_, _, h3⟩ := untB_iff.1 hu
        rcases h3 x hx1 with e | e
        · omega
        · rcases h3 y hy1 with f | f
          · omega
          · exact hxy (e.trans f.symm)

/-- Clauses as few cuts them: small enough for the reference. -/
def WfR (l : List (List Int)) : Prop := l.length ≤ 1000000 ∧ ∀ c ∈ l, c.length ≤ 1000000
theorem WfR.wf {l : List (List Int)} (h : WfR l) : WfC l := ⟨by have := h.1; omega, fun c hc => by have := h.2 c hc; omega⟩
theorem next_loop {a : List Int} (ha : a.length ≤ 1000000) (rest : List (List Int)) : ∀ (pre : List (List Int)), WfR (pre ++ rest) → (∀ c ∈ pre, idle a c) →
    (Ev (fun k => ashlarref08_next.l0 k (pre ++ rest) a (pre.length : Int)) ([], false) ∧ ∀ c ∈ pre ++ rest, idle a c) ∨
    ∃ c pre' post', Ev (fun k => ashlarref08_next.l0 k (pre ++ rest) a (pre.length : Int)) (opensF a [] c, true) ∧ pre ++ rest = pre' ++ c :: post' ∧ (∀ d ∈ pre', idle a d) ∧ truB a c = false ∧ (opensF a [] c).length < 2 := by
  induction rest with
  | nil =>
    intro pre _ hp
    refine .inl ⟨Ev.succ ?_, by rw [List.append_nil]; exact hp⟩
    simp only [ashlarref08_next.l0]
    rw [List.append_nil]
    exact Ev.neg (by omega) (Ev.some_ _)
  | cons c rest ih =>
    intro pre hl hp
    have hl1 := hl.1
    have hll : (pre ++ c :: rest).length = pre.length + rest.length + 1 := by simp; omega
    have hnx : wrap64 ((pre.length : Int) + 1) = ((pre ++ [c]).length : Int) := by rw [w64 (by omega) (by omega)]; simp
    have happ : pre ++ c :: rest = (pre ++ [c]) ++ rest := by simp
    have hc := hl.2 c (by simp)
    have round : ∀ {r : List Int × Bool}, Ev (fun k => if truB a c = true then (ashlarref08_next.l0 k (pre ++ c :: rest) a ((pre ++ [c]).length : Int)) else (if ((opensF a [] c).length : Int) < 2 then some (opensF a [] c, true) else (ashlarref08_next.l0 k (pre ++ c :: rest) a ((pre ++ [c]).length : Int)))) r → Ev (fun k => ashlarref08_next.l0 k (pre ++ c :: rest) a (pre.length : Int)) r := by
      intro r h
      refine Ev.succ ?_
      simp only [ashlarref08_next.l0, rd_L2_mid, hnx]
      exact Ev.pos (by omega) (Ev.pos (by omega) (Ev.bind (opens_ok ha hc) (Ev.bind (holds_ok ha (by omega)) h)))
    have go : idle a c → (∀ {r : List Int × Bool}, Ev (fun k => ashlarref08_next.l0 k (pre ++ c :: rest) a ((pre ++ [c]).length : Int)) r → Ev (fun k => ashlarref08_next.l0 k (pre ++ c :: rest) a (pre.length : Int)) r) →
        (Ev (fun k => ashlarref08_next.l0 k (pre ++ c :: rest) a (pre.length : Int)) ([], false) ∧ ∀ c_1 ∈ pre ++ c :: rest, idle a c_1) ∨
        ∃ c_1 pre' post', Ev (fun k => ashlarref08_next.l0 k (pre ++ c :: rest) a (pre.length : Int)) (opensF a [] c_1, true) ∧ pre ++ c :: rest = pre' ++ c_1 :: post' ∧ (∀ d ∈ pre', idle a d) ∧ truB a c_1 = false ∧ (opensF a [] c_1).length < 2 := by
      intro hi hE
      have := ih (pre ++ [c]) (by rw [← happ]; exact hl) (fun d hd => by
        rcases List.mem_append.1 hd with hd | hd
        · exact hp d hd
        · rw [List.mem_singleton.1 hd]; exact hi)
      rw [← happ] at this
      rcases this with ⟨h1, h2⟩ | ⟨d, pre', post', h1, h2⟩
      · exact .inl ⟨hE h1, h2⟩
      · exact .inr ⟨d, pre', post', hE h1, h2⟩
    by_cases ht : truB a c = true
    · exact go (tru_idle ht) (fun h => round (Ev.pos ht h))
    · have ht' : truB a c = false := Bool.eq_false_iff.2 ht
      by_cases h2 : (opensF a [] c).length < 2
      · exact .inr ⟨c, pre, rest, round (Ev.neg ht (Ev.pos (by omega) (Ev.some_ _))), rfl, hp, ht', h2⟩
      · exact go ((opens_tell ht').2.2 (by omega)) (fun h => round (Ev.neg ht (Ev.neg (by omega) h)))

theorem refUnit_loop {l : List (List Int)} (hl : WfR l) (N : Nat) : ∀ (a : List Int), a.length ≤ 1000000 → zeros a < N → ∃ b r, Ev (fun k => ashlarref08_Unit.l0 k l a) (b, r) ∧ Run l a b r := by
  induction N with
  | zero => intro a _ h; omega
  | succ N ih =>
    intro a ha hz
    rcases next_loop ha l [] hl (by simp) with ⟨h1, h2⟩ | ⟨c, pre, post, h1, h2, h3, h4, h5⟩
    · refine ⟨a, false, Ev.succ ?_, .done h2⟩
      simp only [ashlarref08_Unit.l0]
      refine Ev.bind h1 ?_
      simp only
      exact Ev.neg (by simp) (Ev.some_ _)
    · obtain ⟨t0, t1, _⟩ := opens_tell h4
      by_cases h0 : (opensF a [] c).length = 0
      · refine ⟨a, true, Ev.succ ?_, .conf h2 h3 (t0.1 h0)⟩
        simp only [ashlarref08_Unit.l0]
        refine Ev.bind h1 ?_
        simp only
        exact Ev.pos trivial (Ev.pos (by omega) (Ev.some_ _))
      · have hu := t1 (by omega)
        have ho := (untB_iff.1 hu).2.1
        obtain ⟨b, r, hE, hR⟩ := ih (put a (rd (opensF a [] c) 0)) (by rw [put_length]; exact ha) (by have := zeros_put ho; omega)
        refine ⟨b, r, Ev.succ ?_, .step h2 h3 hu hR⟩
        simp only [ashlarref08_Unit.l0]
        refine Ev.bind h1 ?_
        simp only
        refine Ev.pos trivial (Ev.neg (by omega) (Ev.pos (by omega) ?_))
        rcases lv_open ho with ⟨g0, g1, _⟩ | ⟨g0, g1, _⟩
        · refine Ev.pos g0 (Ev.pos (by omega) (Ev.pos g1 ?_))
          have : put a (rd (opensF a [] c) 0) = a.set (rd (opensF a [] c) 0).toNat 1 := by unfold put; rw [if_pos g0]
          rw [← this]
          exact hE
        · refine Ev.neg (by omega) ?_
          rw [w64 (by omega) (by omega)]
          refine Ev.pos (by omega) (Ev.pos g1 ?_)
          have : put a (rd (opensF a [] c) 0) = a.set (-(rd (opensF a [] c) 0)).toNat (-1) := by unfold put; rw [if_neg (by omega)]
          rw [← this]
          exact hE
theorem refUnit_ok {l : List (List Int)} (hl : WfR l) {a : List Int} (ha : a.length ≤ 1000000) : ∃ b r, Ev (fun k => ashlarref08_Unit.f k l a) (b, r) ∧ Run l a b r := by
  obtain ⟨b, r, h, hR⟩ := refUnit_loop hl (zeros a + 1) a ha (by omega)
  refine ⟨b, r, ?_, hR⟩
  unfold ashlarref08_Unit.f
  simp only [Option.bind_some, List.nil_append, List.length_nil]
  exact Ev.pos (by omega) h

theorem refEval_loop {a : List Int} (ha : a.length ≤ 1000000) (rest : List (List Int)) : ∀ (pre : List (List Int)), WfR (pre ++ rest) → pre.any (flsB a) = false →
    Ev (fun k => ashlarref08_Eval.l0 k (pre ++ rest) a (if pre.all (truB a) then 1 else 0) (pre.length : Int)) (evalV (pre ++ rest) a) := by
  induction rest with
  | nil =>
    intro pre _ hp
    refine Ev.succ ?_
    simp only [ashlarref08_Eval.l0]
    rw [List.append_nil]
    refine Ev.neg (by omega) ?_
    have e : evalV pre a = if pre.all (truB a) then 1 else 0 := by
      unfold evalV
      rw [hp]
      rfl
    rw [e]
    exact Ev.some_ _
  | cons c rest ih =>
    intro pre hwf hp
    have hll : (pre ++ c :: rest).length = pre.length + rest.length + 1 := by simp; omega
    have h1 := hwf.1
    have hnx : wrap64 ((pre.length : Int) + 1) = ((pre ++ [c]).length : Int) := by rw [w64 (by omega) (by omega)]; simp
    have happ : pre ++ c :: rest = (pre ++ [c]) ++ rest := by simp
    have hc := hwf.2 c (by simp)
    refine Ev.succ ?_
    simp only [ashlarref08_Eval.l0, rd_L2_mid, hnx]
    refine Ev.pos (by omega) (Ev.pos (by omega) (Ev.bind (holds_ok ha (by omega)) ?_))
    have next := fun h => ih (pre ++ [c]) (by rw [← happ]; exact hwf) h
    rw [← happ] at next
    by_cases ht : truB a c = true
    · have hf : flsB a c = false := (tru_idle ht).1
      refine Ev.pos ht ?_
      have := next (by rw [List.any_append, hp]; simp [hf])
      have e : (pre ++ [c]).all (truB a) = pre.all (truB a) := by rw [List.all_append]; simp [ht]
      rw [e] at this
      exact this
    · have ht' : truB a c = false := Bool.eq_false_iff.2 ht
      refine Ev.neg ht (Ev.bind (opens_ok ha hc) ?_)
      by_cases hf : flsB a c = true
      · refine Ev.pos (by have := (opens_tell ht').1.2 hf; omega) ?_
        have : evalV (pre ++ c :: rest) a = -1 := by
          rw [eval_neg, List.any_append, List.any_cons, hf]
          simp
        rw [this]
        exact Ev.some_ _
      · have hf' : flsB a c = false := Bool.eq_false_iff.2 hf
        refine Ev.neg (fun h => hf ((opens_tell ht').1.1 (by omega))) ?_
        have := next (by rw [List.any_append, hp]; simp [hf'])
        have e : (pre ++ [c]).all (truB a) = false := by rw [List.all_append]; simp [ht']
        rw [e] at this
        exact this
theorem refEval_ok {a : List Int} (ha : a.length ≤ 1000000) {l : List (List Int)} (hl : WfR l) : Ev (fun k => ashlarref08_Eval.f k l a) (evalV l a) := refEval_loop ha l [] hl rfl
end Go.Proofs.Ytmdjlhmifhnpdaa.PT
namespace Go.Proofs.Ytmdjlhmifhnpdaa.PT
open Go.RowKit Go.Proofs.Ytmdjlhmifhnpdaa.Q Go.Proofs.YtmdjlhmifhnpdaaW.PrintWords Go.Proofs.YtmdjlhmifhnpdaaW.PrintLast Go.Proofs.YtmdjlhmifhnpdaaW.PrintMore

def Val (F : Int → Int) : Prop := (∀ x, F (-x) = - F x) ∧ ∀ x, F x = 1 ∨ F x = -1 ∨ F x = 0
def IdleF (F : Int → Int) (c : List Int) : Prop := (∃ x ∈ c, F x = 1) ∨ ∃ x ∈ c, ∃ y ∈ c, x ≠ y ∧ F x = 0 ∧ F y = 0
def Rup (L : List (List Int)) (c : List Int) : Prop := ¬ ∃ F, Val F ∧ (∀ x ∈ c, F x = -1) ∧ ∀ d ∈ L, IdleF F d

theorem IdleF.congr {F G : Int → Int} {c : List Int} (h : ∀ x ∈ c, F x = G x) (k : IdleF F c) : IdleF G c := by
  rcases k with ⟨x, hx, e⟩ | ⟨x, hx, y, hy, hn, e1, e2⟩
  · exact .inl ⟨x, hx, (h x hx).symm.trans e⟩
  · exact .inr ⟨x, hx, y, hy, hn, (h x hx).symm.trans e1, (h y hy).symm.trans e2⟩
theorem idle_iff {a c : List Int} : idle a c ↔ IdleF (lv a) c := by
  constructor
  · intro h
    by_cases h1 : ∃ x ∈ c, lv a x = 1
    · exact .inl h1
    · right
      obtain ⟨x, hx, hx1⟩ : ∃ x ∈ c, lv a x ≠ -1 := Classical.byContradiction fun hh => idle_not_fls h (flsB_iff.2 fun x hx => Classical.byContradiction fun k => hh ⟨x, hx, k⟩)
      have hx0 : lv a x = 0 := by
        rcases lv_cases a x with e | e | e
        · exact (h1 ⟨x, hx, e⟩).elim
        · exact (hx1 e).elim
        · exact e
      obtain ⟨y, hy, hy1, hy2⟩ : ∃ y ∈ c, lv a y ≠ -1 ∧ y ≠ x := Classical.byContradiction fun hh => idle_not_unt h (untB_iff.2 ⟨hx, hx0, fun y hy => Classical.byContradiction fun k => hh ⟨y, hy, fun e => k (.inl e), fun e => k (.inr e)⟩⟩)
      refine ⟨x, hx, y, hy, fun e => hy2 e.symm, hx0, ?_⟩
      rcases lv_cases a y with e | e | e
      · exact (h1 ⟨y, hy, e⟩).elim
      · exact (hy1 e).elim
      · exact e
  · intro h
    constructor
    · cases hf : flsB a c with
      | false => rfl
      | true =>
        have := flsB_iff.1 hf
        rcases h with ⟨x, hx, e⟩ | ⟨x, hx, y, hy, hn, e1, e2⟩
        · have := this x hx; omega
        · have := this x hx; omega
    · intro n
      cases hf : untB a c n with
      | false => rfl
      | true =>
        obtain ⟨h1, h2, h3⟩ := untB_iff.1 hf
        rcases h with ⟨x, hx, e⟩ | ⟨x, hx, y, hy, hn, e1, e2⟩
        · rcases h3 x hx with k | k
          · omega
          · subst k; omega
        · rcases h3 x hx with k | k
          · omega
          · rcases h3 y hy with k' | k'
            · omega
            · exact (hn (k.trans k'.symm)).elim

def InC (n : Nat) (c : List Int) : Prop := ∀ x ∈ c, x ≠ 0 ∧ x < (n : Int) ∧ -x < (n : Int)
theorem sg_self {v : Int} (h : v = 1 ∨ v = -1 ∨ v = 0) : sg v = v := by
  rcases h with h | h | h <;> subst h <;> rfl
theorem lv_in {a : List Int} {x : Int} (h0 : x ≠ 0) (h1 : x < (a.length : Int)) (h2 : -x < (a.length : Int)) : lv a x = if 0 < x then sg (rd a x) else - sg (rd a (-x)) := by
  unfold lv
  by_cases h : 0 < x
  · rw [if_pos ⟨h, h1⟩, if_pos h]
  · rw [if_neg (fun k => h k.1), if_pos ⟨by omega, h2⟩, if_neg h]
theorem lv_out {a : List Int} {x : Int} (h : ¬ (x ≠ 0 ∧ x < (a.length : Int) ∧ -x < (a.length : Int))) : lv a x = -1 := by
  unfold lv
  rw [if_neg (fun k => h ⟨by omega, k.2, by omega⟩), if_neg (fun k => h ⟨by omega, by omega, k.2⟩)]
def Asg (a : List Int) (c : List Int) : Prop := ∀ j : Int, 0 ≤ j → j < (a.length : Int) → rd a j = if j ∈ c then -1 else if -j ∈ c then 1 else 0
theorem Asg.lv {a c : List Int} (h : Asg a c) {x : Int} (ht : ∀ x ∈ c, -x ∉ c) (h0 : x ≠ 0) (h1 : x < (a.length : Int)) (h2 : -x < (a.length : Int)) : PT.lv a x = if x ∈ c then -1 else if -x ∈ c then 1 else 0 := by
  rw [lv_in h0 h1 h2]
  by_cases hp : 0 < x
  · rw [if_pos hp, h x (by omega) h1, sg_self]
    by_cases k1 : x ∈ c
    · rw [if_pos k1]; omega
    · rw [if_neg k1]
      by_cases k2 : -x ∈ c
      · rw [if_pos k2]; omega
      · rw [if_neg k2]; omega
  · rw [if_neg hp, h (-x) (by omega) h2, Int.neg_neg]
    by_cases k1 : x ∈ c
    · rw [if_pos k1, if_neg (ht x k1), if_pos k1]; rfl
    · rw [if_neg k1, if_neg k1]
      by_cases k2 : -x ∈ c
      · rw [if_pos k2, if_pos k2]; rfl
      · rw [if_neg k2, if_neg k2]; rfl
theorem rd_map (n : Nat) (F : Int → Int) (j : Int) (h0 : 0 ≤ j) (h1 : j < (n : Int)) : rd ((List.range n).map fun (i : Nat) => F (i : Int)) j = F j := by
  have : j.toNat < n := by omega
  have e : ((j.toNat : Nat) : Int) = j := by omega
  simp [rd, List.getD_eq_getElem?_getD, this, e]
theorem run_rup {L : List (List Int)} {c a b : List Int} {r : Bool} (h : Run L a b r) (hL : ∀ d ∈ L, InC a.length d) (hc : InC a.length c) (ht : ∀ x ∈ c, -x ∉ c) (ha : Asg a c) : r = true ↔ Rup L c := by
  constructor
  · rintro hr ⟨F, hv, hF, hI⟩
    let z := (List.range a.length).map fun (i : Nat) => F (i : Int)
    have hz : z.length = a.length := by simp [z]
    have lvz : ∀ x : Int, x ≠ 0 → x < (a.length : Int) → -x < (a.length : Int) → lv z x = F x := by
      intro x h0 h1 h2
      rw [lv_in h0 (by omega) (by omega)]
      by_cases hp : 0 < x
      · rw [if_pos hp, rd_map _ _ _ (by omega) h1, sg_self (hv.2 x)]
      · rw [if_neg hp, rd_map _ _ _ (by omega) h2, sg_self (hv.2 _), hv.1 x]; omega
    have hagr : Agr a z := by
      intro x hx
      by_cases hin : x ≠ 0 ∧ x < (a.length : Int) ∧ -x < (a.length : Int)
      · rw [lvz x hin.1 hin.2.1 hin.2.2, ha.lv ht hin.1 hin.2.1 hin.2.2]
        rw [ha.lv ht hin.1 hin.2.1 hin.2.2] at hx
        by_cases k1 : x ∈ c
        · rw [if_pos k1]; exact hF x k1
        · rw [if_neg k1] at hx ⊢
          by_cases k2 : -x ∈ c
          · rw [if_pos k2]
            have := hF _ k2
            rw [hv.1] at this
            omega
          · rw [if_neg k2] at hx; exact (hx rfl).elim
      · rw [lv_out (a := z) (by rw [hz]; exact hin), lv_out hin]
    have hcl : ∀ d ∈ L, idle z d := fun d hd => idle_iff.2 ((hI d hd).congr fun x hx => (lvz x (hL d hd x hx).1 (hL d hd x hx).2.1 (hL d hd x hx).2.2).symm)
    rw [(h.least hcl hagr).2] at hr
    cases hr
  · intro hR
    cases r with
    | true => rfl
    | false =>
      exfalso
      apply hR
      have hb := h.length
      refine ⟨fun x => if x ≠ 0 ∧ x < (a.length : Int) ∧ -x < (a.length : Int) then lv b x else 0, ⟨fun x => ?_, fun x => ?_⟩, fun x hx => ?_, fun d hd => ?_⟩
      · by_cases hin : x ≠ 0 ∧ x < (a.length : Int) ∧ -x < (a.length : Int)
        · show (if _ then _ else _) = - (if _ then _ else _)
          rw [if_pos hin, if_pos (by omega), lv_in hin.1 (by omega) (by omega), lv_in (by omega) (by omega) (by omega), Int.neg_neg]
          by_cases hp : 0 < x
          · rw [if_pos hp, if_neg (by omega)]
          · rw [if_neg hp, if_pos (by omega)]; omega
        · show (if _ then _ else _) = - (if _ then _ else _)
          rw [if_neg hin, if_neg (by omega)]; rfl
      · show (if _ then _ else _) = _ ∨ (if _ then _ else _) = _ ∨ (if _ then _ else _) = _
        by_cases hin : x ≠ 0 ∧ x < (a.length : Int) ∧ -x < (a.length : Int)
        · rw [if_pos hin]; exact lv_cases b x
        · rw [if_neg hin]; exact .inr (.inr rfl)
      · show (if _ then _ else _) = _
        have hin := hc x hx
        have hl := ha.lv ht hin.1 hin.2.1 hin.2.2
        rw [if_pos hx] at hl
        rw [if_pos hin, h.agr x (by omega), hl]
      · exact (idle_iff.1 (h.closed rfl d hd)).congr fun x hx => by
          show _ = (if _ then _ else _)
          rw [if_pos (hL d hd x hx)]
/-- A clause that holds a literal and its opposite follows. -/
theorem rup_taut {L : List (List Int)} {c : List Int} {x : Int} (h1 : x ∈ c) (h2 : -x ∈ c) : Rup L c := by
  rintro ⟨F, hv, hF, _⟩
  have a := hF _ h1
  have b := hF _ h2
  rw [hv.1] at b
  omega
theorem Rup.more {L M : List (List Int)} {c : List Int} (h : Rup L c) (hs : ∀ d ∈ L, d ∈ M) : Rup M c := fun ⟨F, hv, hF, hI⟩ => h ⟨F, hv, hF, fun d hd => hI d (hs d hd)⟩
end Go.Proofs.Ytmdjlhmifhnpdaa.PT
namespace Go.Proofs.Ytmdjlhmifhnpdaa.PT
open Go.RowKit Go.Proofs.Ytmdjlhmifhnpdaa.Q Go.Proofs.YtmdjlhmifhnpdaaW.PrintWords Go.Proofs.YtmdjlhmifhnpdaaW.PrintLast Go.Proofs.YtmdjlhmifhnpdaaW.PrintMore

def mF (m : Int) (c : List Int) : Int := c.foldl (fun m x => mx (mx m x) (-x)) m
def vF (m : Int) (l : List (List Int)) : Int := l.foldl mF m
def Small (c : List Int) : Prop := ∀ x ∈ c, x ≠ 0 ∧ -10000 ≤ x ∧ x ≤ 10000
theorem le_mx (a b : Int) : a ≤ mx a b ∧ b ≤ mx a b ∧ (mx a b = a ∨ mx a b = b) := by
  unfold mx
  split <;> omega
theorem mF_spec (c : List Int) : ∀ m, Small c → 0 ≤ m → m ≤ 10000 → m ≤ mF m c ∧ mF m c ≤ 10000 ∧ ∀ x ∈ c, x ≤ mF m c ∧ -x ≤ mF m c := by
  induction c with
  | nil => intro m _ _ _; exact ⟨Int.le_refl _, by assumption, by simp⟩
  | cons x c ih =>
    intro m hs h0 h1
    have hx := hs x (by simp)
    have a := le_mx m x
    have b := le_mx (mx m x) (-x)
    have := ih (mx (mx m x) (-x)) (fun y hy => hs y (by simp [hy])) (by omega) (by omega)
    refine ⟨?_, this.2.1, ?_⟩
    · show m ≤ mF (mx (mx m x) (-x)) c
      omega
    · intro y hy
      show y ≤ mF (mx (mx m x) (-x)) c ∧ -y ≤ mF (mx (mx m x) (-x)) c
      rcases List.mem_cons.1 hy with e | e
      · subst e; omega
      · exact this.2.2 y e
theorem vF_spec (l : List (List Int)) : ∀ m, (∀ c ∈ l, Small c) → 0 ≤ m → m ≤ 10000 → m ≤ vF m l ∧ vF m l ≤ 10000 ∧ ∀ c ∈ l, ∀ x ∈ c, x ≤ vF m l ∧ -x ≤ vF m l := by
  induction l with
  | nil => intro m _ _ _; exact ⟨Int.le_refl _, by assumption, by simp⟩
  | cons c l ih =>
    intro m hs h0 h1
    have a := mF_spec c m (hs c (by simp)) h0 h1
    have := ih (mF m c) (fun y hy => hs y (by simp [hy])) (by omega) a.2.1
    refine ⟨?_, this.2.1, ?_⟩
    · show m ≤ vF (mF m c) l
      omega
    · intro d hd x hx
      show x ≤ vF (mF m c) l ∧ -x ≤ vF (mF m c) l
      rcases List.mem_cons.1 hd with e | e
      · subst e
        have := a.2.2 x hx
        omega
      · exact this.2.2 d e x hx
theorem rd_repl (n : Nat) (j : Int) : rd (List.replicate n 0) j = 0 := by
  simp [rd, List.getD_eq_getElem?_getD, List.getElem?_replicate]
  split <;> rfl
theorem wfa_repl {n : Nat} (h : n < 140737488355328) : WfA (List.replicate n 0) := ⟨fun x hx => by rw [List.eq_of_mem_replicate hx]; omega, by simpa using h⟩

theorem rf_inner {L : List (List Int)} {c d : List Int} {i : Int} (hrd : rd_L2 L i = d) (h0 : 0 ≤ i) (h1 : i < (L.length : Int)) (hd : d.length ≤ 1000000) {res : Bool} (rest : List Int) : ∀ (pre : List Int) (m : Int), pre ++ rest = d → Small rest →
    Ev (fun k => ashlarref09_Follows.l0 k L c (mF m rest) (wrap64 (i + 1))) res → Ev (fun k => ashlarref09_Follows.l1 k L c m i (pre.length : Int)) res := by
  induction rest with
  | nil =>
    intro pre m hp hs h
    rw [List.append_nil] at hp
    subst hp
    refine Ev.succ ?_
    simp only [ashlarref09_Follows.l1, hrd]
    exact Ev.pos h0 (Ev.pos h1 (Ev.neg (by omega) h))
  | cons x rest ih =>
    intro pre m hp hs h
    have hll : d.length = pre.length + rest.length + 1 := by rw [← hp]; simp; omega
    have hlt : (pre.length : Int) < (d.length : Int) := by omega
    have hnx : wrap64 ((pre.length : Int) + 1) = ((pre ++ [x]).length : Int) := by rw [w64 (by omega) (by omega)]; simp
    have hx : rd d (pre.length : Int) = x := by rw [← hp]; exact rd_mid _ _ _
    have hs1 := hs x (by simp)
    refine Ev.succ ?_
    simp only [ashlarref09_Follows.l1, hrd, hx]
    refine Ev.pos h0 (Ev.pos h1 (Ev.pos hlt (Ev.pos (by omega) ?_)))
    rw [hnx, w64 (n := -x) (by omega) (by omega)]
    exact ih (pre ++ [x]) (mx (mx m x) (-x)) (by rw [← hp]; simp) (fun y hy => hs y (by simp [hy])) h
theorem rf_rows {L : List (List Int)} {c : List Int} {res : Bool} (hL : WfR L) (rest : List (List Int)) : ∀ (pre : List (List Int)) (m : Int), pre ++ rest = L → (∀ d ∈ rest, Small d) →
    Ev (fun k => ashlarref09_Follows.l2 k L c (vF m rest) 0) res → Ev (fun k => ashlarref09_Follows.l0 k L c m (pre.length : Int)) res := by
  induction rest with
  | nil =>
    intro pre m hp hs h
    rw [List.append_nil] at hp
    subst hp
    refine Ev.succ ?_
    simp only [ashlarref09_Follows.l0]
    exact Ev.neg (by omega) h
  | cons d rest ih =>
    intro pre m hp hs h
    have hl1 := hL.1
    have hll : L.length = pre.length + rest.length + 1 := by rw [← hp]; simp; omega
    have hlt : (pre.length : Int) < (L.length : Int) := by omega
    have hnx : wrap64 ((pre.length : Int) + 1) = ((pre ++ [d]).length : Int) := by rw [w64 (by omega) (by omega)]; simp
    have hrd : rd_L2 L (pre.length : Int) = d := by rw [← hp]; exact rd_L2_mid _ _ _
    refine Ev.succ ?_
    simp only [ashlarref09_Follows.l0]
    refine Ev.pos hlt ?_
    refine rf_inner hrd (by omega) hlt (hL.2 d (by rw [← hp]; simp)) d [] m rfl (hs d (by simp)) ?_
    rw [hnx]
    exact ih (pre ++ [d]) (mF m d) (by rw [← hp]; simp) (fun y hy => hs y (by simp [hy])) h
theorem rf_line {L : List (List Int)} {c : List Int} {res : Bool} (hc : c.length ≤ 1000000) (rest : List Int) : ∀ (pre : List Int) (m : Int), pre ++ rest = c → Small rest → 0 ≤ m → m ≤ 10000 →
    Ev (fun k => ashlarref09_Follows.l3 k L c (List.replicate (mF m rest + 1).toNat 0) 0) res → Ev (fun k => ashlarref09_Follows.l2 k L c m (pre.length : Int)) res := by
  induction rest with
  | nil =>
    intro pre m hp hs h0 h1 h
    rw [List.append_nil] at hp
    subst hp
    refine Ev.succ ?_
    simp only [ashlarref09_Follows.l2]
    rw [w64 (n := m + 1) (by omega) (by omega)]
    exact Ev.neg (by omega) (Ev.pos (by omega) (Ev.pos (by omega) h))
  | cons x rest ih =>
    intro pre m hp hs h0 h1 h
    have hll : c.length = pre.length + rest.length + 1 := by rw [← hp]; simp; omega
    have hlt : (pre.length : Int) < (c.length : Int) := by omega
    have hnx : wrap64 ((pre.length : Int) + 1) = ((pre ++ [x]).length : Int) := by rw [w64 (by omega) (by omega)]; simp
    have hx : rd c (pre.length : Int) = x := by rw [← hp]; exact rd_mid _ _ _
    have hs1 := hs x (by simp)
    have a := le_mx m x
    have b := le_mx (mx m x) (-x)
    refine Ev.succ ?_
    simp only [ashlarref09_Follows.l2, hx]
    refine Ev.pos hlt (Ev.pos (by omega) ?_)
    rw [hnx, w64 (n := -x) (by omega) (by omega)]
    exact ih (pre ++ [x]) (mx (mx m x) (-x)) (by rw [← hp]; simp) (fun y hy => hs y (by simp [hy])) (by omega) (by omega) h
theorem rf_asg {L : List (List Int)} {c : List Int} {n : Nat} (hW : WfR L) (hn : n ≤ 1000000) (hL : ∀ d ∈ L, InC n d) (hc : InC n c) (hs : Small c) (hcl : c.length ≤ 1000000) (rest : List Int) : ∀ (pre a : List Int), pre ++ rest = c → a.length = n → (∀ x ∈ pre, -x ∉ pre) → Asg a pre →
    ∃ r, Ev (fun k => ashlarref09_Follows.l3 k L c a (pre.length : Int)) r ∧ (r = true ↔ Rup L c) := by
  induction rest with
  | nil =>
    intro pre a hp ha ht hA
    rw [List.append_nil] at hp
    subst hp
    obtain ⟨b, r, hE, hR⟩ := refUnit_ok hW (a := a) (by omega)
    refine ⟨r, Ev.succ ?_, run_rup hR (by rw [ha]; exact hL) (by rw [ha]; exact hc) ht hA⟩
    simp only [ashlarref09_Follows.l3]
    refine Ev.neg (by omega) (Ev.bind hE (Ev.some_ _))
  | cons x rest ih =>
    intro pre a hp ha ht hA
    have hxc : x ∈ c := by rw [← hp]; simp
    have hx := hs x hxc
    have hxn := hc x hxc
    have hll : c.length = pre.length + rest.length + 1 := by rw [← hp]; simp; omega
    have hlt : (pre.length : Int) < (c.length : Int) := by omega
    have hnx : wrap64 ((pre.length : Int) + 1) = ((pre ++ [x]).length : Int) := by rw [w64 (by omega) (by omega)]; simp
    have happ : (pre ++ [x]) ++ rest = c := by rw [← hp]; simp
    have hrd : rd c (pre.length : Int) = x := by rw [← hp]; exact rd_mid _ _ _
    have hneg : wrap64 (-x) = -x := w64 (by omega) (by omega)
    have hnn : -x ≠ x := by omega
    by_cases hin : -x ∈ pre
    · refine ⟨true, Ev.succ ?_, by simp [rup_taut hxc (show -x ∈ c by rw [← hp]; simp [hin])]⟩
      simp only [ashlarref09_Follows.l3, hrd, hneg]
      refine Ev.pos hlt (Ev.pos (by omega) ?_)
      by_cases hpos : x < 0
      · refine Ev.pos hpos (Ev.pos (by omega) (Ev.pos (by rw [ha]; omega) (Ev.pos ?_ (Ev.some_ _))))
        rw [hA (-x) (by omega) (by rw [ha]; omega), if_pos hin]
      · refine Ev.neg hpos (Ev.pos (by omega) (Ev.pos (by rw [ha]; omega) (Ev.pos ?_ (Ev.some_ _))))
        have hxp : x ∉ pre := by
          have := ht _ hin
          rwa [Int.neg_neg] at this
        rw [hA x (by omega) (by rw [ha]; omega), if_neg hxp, if_pos hin]
        rfl
    · have ht' : ∀ y ∈ pre ++ [x], -y ∉ pre ++ [x] := fun y hy h => by
        rcases List.mem_append.1 hy with k | k
        · rcases List.mem_append.1 h with k' | k'
          · exact ht y k k'
          · have e := List.mem_singleton.1 k'
            exact hin (by rw [← e, Int.neg_neg]; exact k)
        · have e := List.mem_singleton.1 k
          subst e
          rcases List.mem_append.1 h with k' | k'
          · exact hin k'
          · exact hnn (List.mem_singleton.1 k')
      by_cases hpos : x < 0
      · obtain ⟨r, hE, hr⟩ := ih (pre ++ [x]) (a.set (-x).toNat 1) happ (by simp [ha]) ht' (fun j h0 h1 => by
            rw [List.length_set] at h1
            rw [rd_set _ _ _ _ h0]
            by_cases hj : j = -x
            · rw [if_pos ⟨by omega, by omega⟩, if_neg (by subst hj; simp [hin, hnn]), if_pos (by simp [hj])]
            · rw [if_neg (by omega), hA j h0 h1]
              have e1 : (j ∈ pre ++ [x]) ↔ j ∈ pre := by
                have : j ≠ x := by omega
                simp [this]
              have e2 : (-j ∈ pre ++ [x]) ↔ -j ∈ pre := by
                have : -j ≠ x := by omega
                simp [this]
              simp only [e1, e2])
        refine ⟨r, Ev.succ ?_, hr⟩
        simp only [ashlarref09_Follows.l3, hrd, hneg]
        refine Ev.pos hlt (Ev.pos (by omega) (Ev.pos hpos (Ev.pos (by omega) (Ev.pos (by rw [ha]; omega) (Ev.neg ?_ ?_)))))
        · rw [hA (-x) (by omega) (by rw [ha]; omega), if_neg hin]
          split <;> omega
        · rw [hnx]
          exact hE
      · obtain ⟨r, hE, hr⟩ := ih (pre ++ [x]) (a.set x.toNat (-1)) happ (by simp [ha]) ht' (fun j h0 h1 => by
            rw [List.length_set] at h1
            rw [rd_set _ _ _ _ h0]
            by_cases hj : j = x
            · rw [if_pos ⟨by omega, by omega⟩, if_pos (by simp [hj])]
            · rw [if_neg (by omega), hA j h0 h1]
              have e1 : (j ∈ pre ++ [x]) ↔ j ∈ pre := by simp [hj]
              have e2 : (-j ∈ pre ++ [x]) ↔ -j ∈ pre := by
                have : -j ≠ x := by omega
                simp [this]
              simp only [e1, e2])
        refine ⟨r, Ev.succ ?_, hr⟩
        simp only [ashlarref09_Follows.l3, hrd, hneg]
        refine Ev.pos hlt (Ev.pos (by omega) (Ev.neg hpos (Ev.pos (by omega) (Ev.pos (by rw [ha]; omega) (Ev.neg ?_ ?_)))))
        · rw [hA x (by omega) (by rw [ha]; omega), if_neg hin]
          split <;> omega
        · rw [hnx]
          exact hE
theorem refFollows_ok {L : List (List Int)} {c : List Int} (hW : WfR L) (hcl : c.length ≤ 1000000) (hL : ∀ d ∈ L, Small d) (hs : Small c) :
    ∃ r, Ev (fun k => ashlarref09_Follows.f k L c) r ∧ (r = true ↔ Rup L c) := by
  have h1 := vF_spec L 0 hL (by omega) (by omega)
  have h2 := mF_spec c (vF 0 L) hs h1.1 h1.2.1
  obtain ⟨n, hn⟩ : ∃ n : Int, mF (vF 0 L) c = n := ⟨_, rfl⟩
  rw [hn] at h2
  obtain ⟨r, hE, hr⟩ := rf_asg (n := (n + 1).toNat) hW (by omega) (fun d hd x hx => ⟨(hL d hd x hx).1, by have := h1.2.2 d hd x hx; omega, by have := h1.2.2 d hd x hx; omega⟩) (fun x hx => ⟨(hs x hx).1, by have := h2.2.2 x hx; omega, by have := h2.2.2 x hx; omega⟩) hs hcl c [] (List.replicate (n + 1).toNat 0) rfl (by simp) (by simp) (fun j _ _ => by rw [rd_repl]; simp)
  refine ⟨r, ?_, hr⟩
  unfold ashlarref09_Follows.f
  refine rf_rows hW L [] 0 rfl hL ?_
  refine rf_line hcl c [] (vF 0 L) rfl hs h1.1 h1.2.1 ?_
  rw [hn]
  exact hE
theorem may_inner {l : List (List Int)} {c : List Int} {i : Int} (hrd : rd_L2 l i = c) (h0 : 0 ≤ i) (h1 : i < (l.length : Int)) (hc : c.length ≤ 1000000) {b : Bool} (next : Ev (fun k => ashlarref09_may.l0 k l (wrap64 (i + 1))) b) (rest : List Int) : ∀ (pre : List Int), pre ++ rest = c →
    ∃ b', Ev (fun k => ashlarref09_may.l1 k l i (pre.length : Int)) b' ∧ (b' = true ↔ Small rest ∧ b = true) := by
  induction rest with
  | nil =>
    intro pre hp
    rw [List.append_nil] at hp
    subst hp
    refine ⟨b, Ev.succ ?_, by simp [Small]⟩
    simp only [ashlarref09_may.l1, hrd]
    exact Ev.pos h0 (Ev.pos h1 (Ev.neg (by omega) next))
  | cons x rest ih =>
    intro pre hp
    have hll : c.length = pre.length + rest.length + 1 := by rw [← hp]; simp; omega
    have hlt : (pre.length : Int) < (c.length : Int) := by omega
    have hnx : wrap64 ((pre.length : Int) + 1) = ((pre ++ [x]).length : Int) := by rw [w64 (by omega) (by omega)]; simp
    have hx : rd c (pre.length : Int) = x := by rw [← hp]; exact rd_mid _ _ _
    have step : ∀ v, Ev (fun k => if x = 0 then (some false) else (if x < (-10000) then (some false) else (if x > 10000 then (some false) else (ashlarref09_may.l1 k l i ((pre ++ [x]).length : Int))))) v → Ev (fun k => ashlarref09_may.l1 k l i (pre.length : Int)) v := by
      intro v hv
      refine Ev.succ ?_
      simp only [ashlarref09_may.l1, hrd, hx]
      rw [hnx]
      exact Ev.pos h0 (Ev.pos h1 (Ev.pos hlt (Ev.pos (by omega) hv)))
    have bad : ¬ (x ≠ 0 ∧ -10000 ≤ x ∧ x ≤ 10000) → (false = true ↔ Small (x :: rest) ∧ b = true) := fun h => ⟨fun e => (by cases e), fun e => (h (e.1 x (by simp))).elim⟩
    by_cases k1 : x = 0
    · exact ⟨false, step _ (Ev.pos k1 (Ev.some_ _)), bad (by omega)⟩
    · by_cases k2 : x < -10000
      · exact ⟨false, step _ (Ev.neg k1 (Ev.pos k2 (Ev.some_ _))), bad (by omega)⟩
      · by_cases k3 : x > 10000
        · exact ⟨false, step _ (Ev.neg k1 (Ev.neg k2 (Ev.pos k3 (Ev.some_ _)))), bad (by omega)⟩
        · obtain ⟨b', hE, hb⟩ := ih (pre ++ [x]) (by rw [← hp]; simp)
          refine ⟨b', step _ (Ev.neg k1 (Ev.neg k2 (Ev.neg k3 hE))), ?_⟩
          rw [hb]
          refine ⟨fun h => ⟨fun y hy => ?_, h.2⟩, fun h => ⟨fun y hy => h.1 y (by simp [hy]), h.2⟩⟩
          rcases List.mem_cons.1 hy with e | e
          · subst e; omega
          · exact h.1 y e
theorem may_loop {l : List (List Int)} (hl : WfR l) (rest : List (List Int)) : ∀ (pre : List (List Int)), pre ++ rest = l →
    ∃ b, Ev (fun k => ashlarref09_may.l0 k l (pre.length : Int)) b ∧ (b = true ↔ ∀ c ∈ rest, Small c) := by
  induction rest with
  | nil =>
    intro pre hp
    rw [List.append_nil] at hp
    subst hp
    refine ⟨true, Ev.succ ?_, by simp⟩
    simp only [ashlarref09_may.l0]
    exact Ev.neg (by omega) (Ev.some_ _)
  | cons c rest ih =>
    intro pre hp
    have hl1 := hl.1
    have hll : l.length = pre.length + rest.length + 1 := by rw [← hp]; simp; omega
    have hlt : (pre.length : Int) < (l.length : Int) := by omega
    have hnx : wrap64 ((pre.length : Int) + 1) = ((pre ++ [c]).length : Int) := by rw [w64 (by omega) (by omega)]; simp
    have hrd : rd_L2 l (pre.length : Int) = c := by rw [← hp]; exact rd_L2_mid _ _ _
    obtain ⟨b, hE, hb⟩ := ih (pre ++ [c]) (by rw [← hp]; simp)
    rw [← hnx] at hE
    obtain ⟨b', hE', hb'⟩ := may_inner hrd (by omega) hlt (hl.2 c (by rw [← hp]; simp)) hE c [] rfl
    refine ⟨b', Ev.succ ?_, by rw [hb', hb]; simp⟩
    simp only [ashlarref09_may.l0]
    exact Ev.pos hlt hE'
theorem may_ok {l : List (List Int)} (hl : WfR l) : ∃ b, Ev (fun k => ashlarref09_may.f k l) b ∧ (b = true ↔ ∀ c ∈ l, Small c) := may_loop hl l [] rfl
end Go.Proofs.Ytmdjlhmifhnpdaa.PT
namespace Go.Proofs.Ytmdjlhmifhnpdaa.PT
open Go.RowKit Go.Proofs.Ytmdjlhmifhnpdaa.Q Go.Proofs.YtmdjlhmifhnpdaaW.PrintWords Go.Proofs.YtmdjlhmifhnpdaaW.PrintLast Go.Proofs.YtmdjlhmifhnpdaaW.PrintMore

theorem mn_val (n : Nat) (m : Int) (hm : 0 ≤ m) : ((mn (n : Int) m) : Int).toNat = min n m.toNat ∧ 0 ≤ mn (n : Int) m ∧ mn (n : Int) m ≤ (n : Int) := by unfold mn; split <;> omega
theorem take_mn {α : Type} (l : List α) (m : Int) (hm : 0 ≤ m) : l.take ((mn (l.length : Int) m) : Int).toNat = l.take m.toNat := by
  rw [(mn_val l.length m hm).1]
  by_cases h : l.length ≤ m.toNat
  · rw [Nat.min_eq_left h, List.take_of_length_le (Nat.le_refl _), List.take_of_length_le h]
  · rw [Nat.min_eq_right (by omega)]
def fewF (l : List (List Int)) : List (List Int) := (l.take 40).map (·.take 10)
theorem few_loop (rest : List (List Int)) : ∀ (pre : List (List Int)) (out : List (List Int)), (pre ++ rest).length ≤ 9223372036854775807 → out.length = pre.length → pre.length ≤ 40 →
    Ev (fun k => ashlarlaw09_few.l0 k (pre ++ rest) out (pre.length : Int)) (out ++ (rest.take (40 - pre.length)).map (·.take 10)) := by
  induction rest with
  | nil =>
    intro pre out _ ho hp
    refine Ev.succ ?_
    simp only [ashlarlaw09_few.l0, Option.bind_some]
    rw [List.append_nil]
    refine Ev.neg (by omega) ?_
    rw [List.take_nil, List.map_nil, List.append_nil]
    exact Ev.some_ _
  | cons c rest ih =>
    intro pre out hl ho hp
    have hll : (pre ++ c :: rest).length = pre.length + rest.length + 1 := by simp; omega
    refine Ev.succ ?_
    simp only [ashlarlaw09_few.l0, Option.bind_some, rd_L2_mid]
    refine Ev.pos (by omega) ?_
    by_cases h50 : pre.length = 40
    · refine Ev.neg (by omega) ?_
      rw [h50, Nat.sub_self, List.take_zero, List.map_nil, List.append_nil]
      exact Ev.some_ _
    · have h := mn_val c.length 10 (by decide)
      have hc : (c.take 10).length ≤ 10 := List.length_take_le _ _
      have e20 : ((10 : Int).toNat) = 10 := rfl
      refine Ev.pos (by omega) (Ev.pos (by omega) (Ev.pos h.2.1 (Ev.pos h.2.2 ?_)))
      rw [take_mn c 10 (by decide), e20, List.nil_append]
      refine Ev.pos (by simp only [List.length_nil]; omega) (Ev.pos (by omega) ?_)
      have hnx : wrap64 ((pre.length : Int) + 1) = ((pre ++ [c]).length : Int) := by rw [w64 (by omega) (by omega)]; simp
      have happ : pre ++ c :: rest = (pre ++ [c]) ++ rest := by simp
      have := ih (pre ++ [c]) (out ++ [c.take 10]) (by rw [← happ]; exact hl) (by simp [ho]) (by simp; omega)
      rw [← happ] at this
      rw [hnx]
      have e : 40 - pre.length = (40 - (pre ++ [c]).length) + 1 := by simp; omega
      rw [e, List.take_succ_cons, List.map_cons]
      simp only [List.append_assoc, List.singleton_append] at this
      exact this
theorem few_ok (l : List (List Int)) (hl : l.length ≤ maxLen) : Ev (fun k => ashlarlaw09_few.f k l) (fewF l) := by
  have := few_loop l [] [] (by simp only [List.nil_append]; exact Nat.le_trans hl (by decide)) rfl (by decide)
  exact this
theorem few_small (l : List (List Int)) : (fewF l).length ≤ 40 ∧ ∀ c ∈ fewF l, c.length ≤ 10 := by
  refine ⟨by unfold fewF; rw [List.length_map]; exact List.length_take_le _ _, fun c hc => ?_⟩
  obtain ⟨d, _, rfl⟩ := List.mem_map.1 hc
  exact List.length_take_le _ _
theorem few_wf (l : List (List Int)) : WfC (fewF l) := ⟨by have := (few_small l).1; omega, fun c hc => by have := (few_small l).2 c hc; omega⟩
end Go.Proofs.Ytmdjlhmifhnpdaa.PT
namespace Go.Proofs.Ytmdjlhmifhnpdaa.PT
set_option linter.unusedVariables false
set_option linter.unusedSimpArgs false
open Go.RowKit Go.Proofs.Ytmdjlhmifhnpdaa.Q Go.Proofs.YtmdjlhmifhnpdaaW.PrintWords Go.Proofs.YtmdjlhmifhnpdaaW.PrintLast Go.Proofs.YtmdjlhmifhnpdaaW.PrintMore

theorem shown_ok : Ev (fun k => ashlarlaw09_shown.f k) true := Ev.of (fun k => ashlarlaw09_shown.mono k) (k := 40) (by decide +kernel)
theorem solve_ev {k : Nat} {l : List (List Int)} {a1 a2 : Int} {r : SatW.Ans} (h : SatW.solveF k l a1 a2 = some r) : Ev (fun k => sat_Solve.f k l a1 a2) r := Ev.of (fun k => sat_Solve.mono l a1 a2 k) (k := k) h

/-! ### Right -/
def RightP (l : List (List Int)) (a1 : Int) : Prop := (0 ≤ a1 ∧ a1 ≤ 10000) ∧ ∀ c ∈ l, ∀ x ∈ c, SatW.lit a1.toNat x
theorem right_inner {l : List (List Int)} {c : List Int} {a1 i : Int} (ha : 0 ≤ a1 ∧ a1 ≤ 10000) (hrd : rd_L2 l i = c) (h0 : 0 ≤ i) (h1 : i < (l.length : Int)) (hc : c.length ≤ 1000000) {b : Bool} (next : Ev (fun k => ashlarref09_Right.l0 k l a1 (wrap64 (i + 1))) b) (rest : List Int) : ∀ (pre : List Int), pre ++ rest = c →
    ∃ b', Ev (fun k => ashlarref09_Right.l1 k l a1 i (pre.length : Int)) b' ∧ (b' = true ↔ (∀ x ∈ rest, SatW.lit a1.toNat x) ∧ b = true) := by
  induction rest with
  | nil =>
    intro pre hp
    rw [List.append_nil] at hp
    subst hp
    refine ⟨b, Ev.succ ?_, by simp⟩
    simp only [ashlarref09_Right.l1, hrd]
    exact Ev.pos h0 (Ev.pos h1 (Ev.neg (by omega) next))
  | cons x rest ih =>
    intro pre hp
    have hll : c.length = pre.length + rest.length + 1 := by rw [← hp]; simp; omega
    have hlt : (pre.length : Int) < (c.length : Int) := by omega
    have hnx : wrap64 ((pre.length : Int) + 1) = ((pre ++ [x]).length : Int) := by rw [w64 (by omega) (by omega)]; simp
    have hx : rd c (pre.length : Int) = x := by rw [← hp]; exact rd_mid _ _ _
    have hng : wrap64 (-a1) = -a1 := w64 (by omega) (by omega)
    have step : ∀ v, Ev (fun k => if x = 0 then (some false) else (if x > a1 then (some false) else (if x < -a1 then (some false) else (ashlarref09_Right.l1 k l a1 i ((pre ++ [x]).length : Int))))) v → Ev (fun k => ashlarref09_Right.l1 k l a1 i (pre.length : Int)) v := by
      intro v hv
      refine Ev.succ ?_
      simp only [ashlarref09_Right.l1, hrd, hx]
      rw [hnx, hng]
      exact Ev.pos h0 (Ev.pos h1 (Ev.pos hlt (Ev.pos (by omega) hv)))
    have bad : ¬ SatW.lit a1.toNat x → (false = true ↔ (∀ y ∈ x :: rest, SatW.lit a1.toNat y) ∧ b = true) := fun h => ⟨fun e => (by cases e), fun e => (h (e.1 x (by simp))).elim⟩
    by_cases k1 : x = 0
    · exact ⟨false, step _ (Ev.pos k1 (Ev.some_ _)), bad (fun h => h.1 k1)⟩
    · by_cases k2 : x > a1
      · exact ⟨false, step _ (Ev.neg k1 (Ev.pos k2 (Ev.some_ _))), bad (fun h => by have := h.2.2; omega)⟩
      · by_cases k3 : x < -a1
        · exact ⟨false, step _ (Ev.neg k1 (Ev.neg k2 (Ev.pos k3 (Ev.some_ _)))), bad (fun h => by have := h.2.1; omega)⟩
        · obtain ⟨b', hE, hb⟩ := ih (pre ++ [x]) (by rw [← hp]; simp)
          refine ⟨b', step _ (Ev.neg k1 (Ev.neg k2 (Ev.neg k3 hE))), ?_⟩
          rw [hb]
          refine ⟨fun h => ⟨fun y hy => ?_, h.2⟩, fun h => ⟨fun y hy => h.1 y (by simp [hy]), h.2⟩⟩
          rcases List.mem_cons.1 hy with e | e
          · subst e; exact ⟨k1, by omega, by omega⟩
          · exact h.1 y e
theorem right_loop {l : List (List Int)} {a1 : Int} (ha : 0 ≤ a1 ∧ a1 ≤ 10000) (hl : WfR l) (rest : List (List Int)) : ∀ (pre : List (List Int)), pre ++ rest = l →
    ∃ b, Ev (fun k => ashlarref09_Right.l0 k l a1 (pre.length : Int)) b ∧ (b = true ↔ ∀ c ∈ rest, ∀ x ∈ c, SatW.lit a1.toNat x) := by
  induction rest with
  | nil =>
    intro pre hp
    rw [List.append_nil] at hp
    subst hp
    refine ⟨true, Ev.succ ?_, by simp⟩
    simp only [ashlarref09_Right.l0]
    exact Ev.neg (by omega) (Ev.some_ _)
  | cons c rest ih =>
    intro pre hp
    have hl1 := hl.1
    have hll : l.length = pre.length + rest.length + 1 := by rw [← hp]; simp; omega
    have hlt : (pre.length : Int) < (l.length : Int) := by omega
    have hnx : wrap64 ((pre.length : Int) + 1) = ((pre ++ [c]).length : Int) := by rw [w64 (by omega) (by omega)]; simp
    have hrd : rd_L2 l (pre.length : Int) = c := by rw [← hp]; exact rd_L2_mid _ _ _
    obtain ⟨b, hE, hb⟩ := ih (pre ++ [c]) (by rw [← hp]; simp)
    rw [← hnx] at hE
    obtain ⟨b', hE', hb'⟩ := right_inner ha hrd (by omega) hlt (hl.2 c (by rw [← hp]; simp)) hE c [] rfl
    refine ⟨b', Ev.succ ?_, by rw [hb', hb]; simp⟩
    simp only [ashlarref09_Right.l0]
    exact Ev.pos hlt hE'
theorem right_ok {l : List (List Int)} (a1 : Int) (hl : WfR l) : ∃ b, Ev (fun k => ashlarref09_Right.f k l a1) b ∧ (b = true ↔ RightP l a1) := by
  unfold ashlarref09_Right.f
  by_cases h1 : a1 < 0
  · refine ⟨false, Ev.pos h1 (Ev.succ ?_), ⟨fun e => (by cases e), fun h => by have := h.1.1; omega⟩⟩
    simp only [ashlarref09_Right.j0]
    exact Ev.pos trivial (Ev.some_ _)
  · by_cases h2 : a1 > 10000
    · refine ⟨false, Ev.neg h1 (Ev.succ ?_), ⟨fun e => (by cases e), fun h => by have := h.1.2; omega⟩⟩
      simp only [ashlarref09_Right.j0]
      exact Ev.pos (decide_eq_true h2) (Ev.some_ _)
    · obtain ⟨b, hE, hb⟩ := right_loop (l := l) (a1 := a1) ⟨by omega, by omega⟩ hl l [] rfl
      refine ⟨b, Ev.neg h1 (Ev.succ ?_), ⟨fun e => ⟨⟨by omega, by omega⟩, hb.1 e⟩, fun h => hb.2 h.2⟩⟩
      simp only [ashlarref09_Right.j0]
      exact Ev.neg (by simp [h2]) hE
theorem rightF_P {l : List (List Int)} {a1 : Int} : SatW.rightF l a1 = true ↔ RightP l a1 := SatW.rightF_iff

/-! ### same -/
theorem same_inner {l : List (List Int)} {c : List Int} {i : Int} (hrd : rd_L2 l i = c) (h0 : 0 ≤ i) (h1 : i < (l.length : Int)) (hc : c.length ≤ 1000000) (next : Ev (fun k => ashlarlaw09_same.l0 k l l (wrap64 (i + 1))) true) (rest : List Int) : ∀ (pre : List Int), pre ++ rest = c →
    Ev (fun k => ashlarlaw09_same.l1 k l l i (pre.length : Int)) true := by
  induction rest with
  | nil =>
    intro pre hp
    rw [List.append_nil] at hp
    subst hp
    refine Ev.succ ?_
    simp only [ashlarlaw09_same.l1, hrd]
    exact Ev.pos h0 (Ev.pos h1 (Ev.neg (by omega) next))
  | cons x rest ih =>
    intro pre hp
    have hll : c.length = pre.length + rest.length + 1 := by rw [← hp]; simp; omega
    have hlt : (pre.length : Int) < (c.length : Int) := by omega
    have hnx : wrap64 ((pre.length : Int) + 1) = ((pre ++ [x]).length : Int) := by rw [w64 (by omega) (by omega)]; simp
    refine Ev.succ ?_
    simp only [ashlarlaw09_same.l1, hrd]
    rw [hnx]
    exact Ev.pos h0 (Ev.pos h1 (Ev.pos hlt (Ev.pos (by omega) (Ev.pos h1 (Ev.pos hlt (Ev.pos trivial (ih (pre ++ [x]) (by rw [← hp]; simp))))))))
theorem same_loop {l : List (List Int)} (hl : WfR l) (rest : List (List Int)) : ∀ (pre : List (List Int)), pre ++ rest = l → Ev (fun k => ashlarlaw09_same.l0 k l l (pre.length : Int)) true := by
  induction rest with
  | nil =>
    intro pre hp
    rw [List.append_nil] at hp
    subst hp
    refine Ev.succ ?_
    simp only [ashlarlaw09_same.l0]
    exact Ev.neg (by omega) (Ev.some_ _)
  | cons c rest ih =>
    intro pre hp
    have hl1 := hl.1
    have hll : l.length = pre.length + rest.length + 1 := by rw [← hp]; simp; omega
    have hlt : (pre.length : Int) < (l.length : Int) := by omega
    have hnx : wrap64 ((pre.length : Int) + 1) = ((pre ++ [c]).length : Int) := by rw [w64 (by omega) (by omega)]; simp
    have hrd : rd_L2 l (pre.length : Int) = c := by rw [← hp]; exact rd_L2_mid _ _ _
    have hE := ih (pre ++ [c]) (by rw [← hp]; simp)
    rw [← hnx] at hE
    refine Ev.succ ?_
    simp only [ashlarlaw09_same.l0]
    exact Ev.pos hlt (Ev.pos (by omega) (Ev.pos hlt (Ev.pos trivial (same_inner hrd (by omega) hlt (hl.2 c (by rw [← hp]; simp)) hE c [] rfl))))
theorem same_ok {l : List (List Int)} (hl : WfR l) : Ev (fun k => ashlarlaw09_same.f k l l) true := by
  unfold ashlarlaw09_same.f
  exact Ev.pos rfl (same_loop hl l [] rfl)

/-! ### signs -/
def sgnF (m : List Bool) (j : Int) : Int := if j = 0 then 0 else if rdOf false m j = true then 1 else -1
theorem signs_loop {m : List Bool} (hm : m.length ≤ 1000000) (d : Nat) : ∀ (i : Nat) (a : List Int), i + d = m.length → 1 ≤ i → a.length = m.length → (∀ j : Int, 0 ≤ j → j < (i : Int) → rd a j = sgnF m j) →
    ∃ b, Ev (fun k => ashlarref09_signs.l0 k m a (i : Int)) b ∧ b.length = m.length ∧ ∀ j : Int, 0 ≤ j → j < (m.length : Int) → rd b j = sgnF m j := by
  induction d with
  | zero =>
    intro i a hi h1 ha hj
    refine ⟨a, Ev.succ ?_, ha, fun j h0 hlt => hj j h0 (by omega)⟩
    simp only [ashlarref09_signs.l0]
    exact Ev.neg (by omega) (Ev.some_ _)
  | succ d ih =>
    intro i a hi h1 ha hj
    have hnx : wrap64 ((i : Int) + 1) = ((i + 1 : Nat) : Int) := by rw [w64 (by omega) (by omega)]; omega
    have e : ((i : Int)).toNat = i := Int.toNat_natCast i
    have key : ∀ v : Int, v = sgnF m i → ∀ y : List Int, y.length = a.length → (∀ j : Int, 0 ≤ j → rd y j = if j = (i : Int) ∧ i < a.length then v else rd a j) → ∃ b, Ev (fun k => ashlarref09_signs.l0 k m y ((i + 1 : Nat) : Int)) b ∧ b.length = m.length ∧ ∀ j : Int, 0 ≤ j → j < (m.length : Int) → rd b j = sgnF m j := by
      intro v hv y hy hyj
      refine ih (i + 1) y (by omega) (by omega) (by omega) (fun j h0 hlt => ?_)
      rw [hyj j h0]
      by_cases hji : j = (i : Int)
      · subst hji
        rw [if_pos ⟨rfl, by omega⟩]; exact hv
      · rw [if_neg (fun h => hji h.1)]
        exact hj j h0 (by omega)
    by_cases hb : rdOf false m (i : Int) = true
    · obtain ⟨b, hE, hbl, hbj⟩ := key 1 (by unfold sgnF; rw [if_neg (by omega), if_pos hb]) ((a.set i (-1)).set i 1) (by simp) (fun j h0 => by
        rw [rd_set _ _ _ _ h0, List.length_set, rd_set _ _ _ _ h0]
        split <;> rfl)
      refine ⟨b, Ev.succ ?_, hbl, hbj⟩
      simp only [ashlarref09_signs.l0]
      rw [e, hnx]
      refine Ev.pos (by omega) (Ev.pos (by omega) (Ev.pos (by omega) ?_))
      simp only [Option.bind_some]
      exact Ev.pos hb hE
    · obtain ⟨b, hE, hbl, hbj⟩ := key (-1) (by unfold sgnF; rw [if_neg (by omega), if_neg hb]) (a.set i (-1)) (by simp) (fun j h0 => rd_set _ _ _ _ h0)
      refine ⟨b, Ev.succ ?_, hbl, hbj⟩
      simp only [ashlarref09_signs.l0]
      rw [e, hnx]
      refine Ev.pos (by omega) (Ev.pos (by omega) (Ev.pos (by omega) ?_))
      simp only [Option.bind_some]
      exact Ev.neg hb hE
theorem signs_ok {m : List Bool} (hm : m.length ≤ 1000000) (h1 : 1 ≤ m.length) : ∃ b, Ev (fun k => ashlarref09_signs.f k m) b ∧ b.length = m.length ∧ ∀ j : Int, 0 ≤ j → j < (m.length : Int) → rd b j = sgnF m j := by
  obtain ⟨b, hE, hb⟩ := signs_loop hm (m.length - 1) 1 (List.replicate m.length 0) (by omega) (Nat.le_refl _) (by simp) (fun j h0 hlt => by
    have : j = 0 := by omega
    subst this
    rw [rd_repl]; rfl)
  refine ⟨b, ?_, hb⟩
  unfold ashlarref09_signs.f
  rw [Int.toNat_natCast]
  exact Ev.pos (by omega) (Ev.pos (by omega) hE)
/-- What a model says of a literal. -/
def mlv (m : List Bool) (x : Int) : Int := if 0 < x then (if rdOf false m x = true then 1 else -1) else if rdOf false m (-x) = true then -1 else 1
theorem signs_lv {m : List Bool} {b : List Int} {n : Nat} (hl : m.length = n + 1) (hb : b.length = m.length) (h : ∀ j : Int, 0 ≤ j → j < (m.length : Int) → rd b j = sgnF m j) {x : Int} (hx : SatW.lit n x) : lv b x = mlv m x := by
  obtain ⟨x0, x1, x2⟩ := hx
  rw [lv_in x0 (by omega) (by omega)]
  unfold mlv
  by_cases hp : 0 < x
  · rw [if_pos hp, if_pos hp, h x (by omega) (by omega)]
    unfold sgnF
    rw [if_neg (by omega)]
    split <;> rfl
  · rw [if_neg hp, if_neg hp, h (-x) (by omega) (by omega)]
    unfold sgnF
    rw [if_neg (by omega)]
    split <;> rfl
/-- Does a model make all clauses true? -/
def Mod (l : List (List Int)) (m : List Bool) : Prop := ∀ c ∈ l, ∃ x ∈ c, mlv m x = 1
theorem evalm_ok {l : List (List Int)} (hl : WfR l) {n : Nat} {m : List Bool} (hm : m.length = n + 1) (hn : n ≤ 10000) (hlit : ∀ c ∈ l, ∀ x ∈ c, SatW.lit n x) {β : Type} {F : Nat → Int → Option β} {r : β} (h : ∀ v : Int, (v = 1 ↔ Mod l m) → Ev (fun k => F k v) r) :
    Ev (fun k => (ashlarref09_signs.f k m).bind fun t => (ashlarref08_Eval.f k l t).bind (F k)) r := by
  obtain ⟨b, hE, hb1, hb2⟩ := signs_ok (m := m) (by omega) (by omega)
  refine Ev.bind hE (Ev.bind (refEval_ok (by omega) hl) (h _ ?_))
  rw [eval_one]
  constructor
  · intro h1 c hc
    obtain ⟨x, hx, e⟩ := truB_iff.1 (h1 c hc)
    exact ⟨x, hx, by rw [← signs_lv hm hb1 hb2 (hlit c hc x hx)]; exact e⟩
  · intro h1 c hc
    obtain ⟨x, hx, e⟩ := h1 c hc
    exact truB_iff.2 ⟨x, hx, by rw [signs_lv hm hb1 hb2 (hlit c hc x hx)]; exact e⟩

/-! ### Shown -/
theorem shown_loop {l0 ls : List (List Int)} (hl0 : WfR l0) (hls : ls.length ≤ 900000) (hcl : ∀ c ∈ ls, c.length ≤ 10001) (hsz : l0.length ≤ 90000) (h1 : ∀ c ∈ l0, Small c) (h2 : ∀ c ∈ ls, Small c) (hch : ∀ (i : Nat) (c : List Int), ls[i]? = some c → Rup (l0 ++ ls.take i) c) (rest : List (List Int)) : ∀ pre, pre ++ rest = ls →
    Ev (fun k => ashlarref09_Shown.l0 k ls (ls.length : Int) (l0 ++ pre) (pre.length : Int)) true := by
  induction rest with
  | nil =>
    intro pre hp
    rw [List.append_nil] at hp
    subst hp
    refine Ev.succ ?_
    simp only [ashlarref09_Shown.l0]
    exact Ev.neg (by omega) (Ev.some_ _)
  | cons c rest ih =>
    intro pre hp
    have hll : ls.length = pre.length + rest.length + 1 := by rw [← hp]; simp; omega
    have hlt : (pre.length : Int) < (ls.length : Int) := by omega
    have hnx : wrap64 ((pre.length : Int) + 1) = ((pre ++ [c]).length : Int) := by rw [w64 (by omega) (by omega)]; simp
    have hrd : rd_L2 ls (pre.length : Int) = c := by rw [← hp]; exact rd_L2_mid _ _ _
    have hcm : c ∈ ls := by rw [← hp]; simp
    have hsub : ∀ d ∈ pre, d ∈ ls := fun d hd => by rw [← hp]; simp [hd]
    have hg : ls[pre.length]? = some c := by rw [← hp, List.getElem?_append_right (Nat.le_refl _)]; simp
    have hR := hch pre.length c hg
    have htk : ls.take pre.length = pre := by rw [← hp]; simp
    rw [htk] at hR
    have hall : (l0 ++ pre).length = l0.length + pre.length := List.length_append
    obtain ⟨r, hE, hr⟩ := refFollows_ok (L := l0 ++ pre) (c := c) ⟨by omega, fun d hd => (List.mem_append.1 hd).elim (hl0.2 d) (fun k => by have := hcl d (hsub d k); omega)⟩ (by have := hcl c hcm; omega) (fun d hd => (List.mem_append.1 hd).elim (h1 d) (fun k => h2 d (hsub d k))) (h2 c hcm)
    refine Ev.succ ?_
    simp only [ashlarref09_Shown.l0, hrd]
    rw [hnx]
    refine Ev.pos hlt (Ev.pos (by omega) (Ev.pos hlt (Ev.bind hE (Ev.pos (hr.2 hR) (Ev.pos (by omega) ?_)))))
    have := ih (pre ++ [c]) (by rw [← hp]; simp)
    rw [← List.append_assoc] at this
    exact this
theorem shown_holds {l0 ls : List (List Int)} (hl0 : WfR l0) (hls : ls.length ≤ 800000) (hcl : ∀ c ∈ ls, c.length ≤ 10000) (hsz : l0.length ≤ 90000) (h1 : ∀ c ∈ l0, Small c) (h2 : ∀ c ∈ ls, Small c) (hch : SatW.Chain l0 ls) (hend : SatW.Rup (l0 ++ ls) []) :
    Ev (fun k => ashlarref09_Shown.f k l0 (ls ++ [[]])) true := by
  obtain ⟨L, hL⟩ : ∃ L, ls ++ [[]] = L := ⟨_, rfl⟩
  have hlen : L.length = ls.length + 1 := by rw [← hL]; simp
  have hm : ∀ c ∈ L, c ∈ ls ∨ c = [] := fun c hc => by
    rw [← hL] at hc
    rcases List.mem_append.1 hc with h | h
    · exact .inl h
    · exact .inr (List.mem_singleton.1 h)
  have hLcl : ∀ c ∈ L, c.length ≤ 10001 := fun c hc => by
    rcases hm c hc with h | h
    · have := hcl c h; omega
    · subst h; simp
  have hLs : ∀ c ∈ L, Small c := fun c hc => by
    rcases hm c hc with h | h
    · exact h2 c h
    · subst h; intro x hx; cases hx
  have hch' : ∀ (i : Nat) (c : List Int), L[i]? = some c → Rup (l0 ++ L.take i) c := by
    intro i c hc
    rw [← hL] at hc ⊢
    rcases SatW.getElem?_snoc hc with ⟨g1, g2⟩ | ⟨rfl, rfl⟩
    · rw [List.take_append_of_le_length (by omega)]; exact hch i c g2
    · rw [List.take_append_of_le_length (Nat.le_refl _), List.take_length]; exact hend
  obtain ⟨b1, hE1, hb1⟩ := may_ok (l := l0) hl0
  obtain ⟨b2, hE2, hb2⟩ := may_ok (l := L) ⟨by omega, fun c hc => by have := hLcl c hc; omega⟩
  have hlast : rd_L2 L (wrap64 ((L.length : Int) - 1)) = [] := by
    rw [w64 (by omega) (by omega), ← hL]
    have e : (((ls ++ [[]]).length : Int) - 1) = (ls.length : Int) := by simp
    rw [e]
    exact rd_L2_mid ls [] []
  rw [hL]
  unfold ashlarref09_Shown.f
  refine Ev.bind hE1 (Ev.bind hE2 (Ev.pos (hb1.2 h1) (Ev.pos (hb2.2 hLs) (Ev.neg (by omega) ?_))))
  rw [hlast]
  have hw : wrap64 ((L.length : Int) - 1) = (L.length : Int) - 1 := w64 (by omega) (by omega)
  rw [hw]
  refine Ev.pos (by omega) (Ev.pos (by omega) (Ev.succ ?_))
  simp only [ashlarref09_Shown.j0, Option.bind_some]
  refine Ev.neg (by decide) (Ev.pos (by simp only [List.length_nil]; omega) ?_)
  have := shown_loop hl0 (by omega) hLcl hsz h1 hLs hch' L [] rfl
  rw [List.append_nil] at this
  rw [List.nil_append]
  exact this

/-! ### Good -/
theorem rdOf_map {val : List Int} {n : Nat} (hl : val.length = n + 1) {t : List Int} (hv : ∀ v : Nat, v ≤ n → val[v]? = some (SatW.tv t v)) {j : Int} (h0 : 0 ≤ j) (h1 : j ≤ n) : rdOf false (val.map fun x => decide (x > 0)) j = decide (SatW.tv t j > 0) := by
  have e : ((j.toNat : Nat) : Int) = j := by omega
  have := hv j.toNat (by omega)
  rw [e] at this
  unfold rdOf
  rw [List.getD_eq_getElem?_getD, List.getElem?_map, this]
  rfl
theorem mod_of_trail {l : List (List Int)} {n : Nat} {t val : List Int} (ht : SatW.Tr n t) (hlit : ∀ c ∈ l, ∀ x ∈ c, SatW.lit n x) (htr : ∀ c ∈ l, ∃ x ∈ c, x ∈ t) (hl : val.length = n + 1) (hv : ∀ v : Nat, v ≤ n → val[v]? = some (SatW.tv t v)) : Mod l (val.map fun x => decide (x > 0)) := by
  intro c hc
  obtain ⟨x, hx, hxt⟩ := htr c hc
  obtain ⟨x0, x1, x2⟩ := hlit c hc x hx
  refine ⟨x, hx, ?_⟩
  have h1 := SatW.tv_one.2 hxt
  unfold mlv
  by_cases hp : 0 < x
  · rw [if_pos hp, rdOf_map hl hv (by omega) (by omega), h1]; rfl
  · rw [if_neg hp, rdOf_map hl hv (by omega) (by omega), ht.val.1, h1]; rfl
/-- What an answer is, as the laws ask for it. -/
structure Fit (l : List (List Int)) (vars : Int) (fuel : Int) (r : SatW.Ans) : Prop where
  good : Ev (fun k => ashlarref09_Good.f k l vars r.1 r.2.1 r.2.2) true
  three : r.1 = 0 ∨ r.1 = 1 ∨ r.1 = 2
  yes : r.1 = 1 → (r.2.1.length : Int) = vars + 1 ∧ rdOf false r.2.1 0 = false ∧ Mod l r.2.1
  no : r.1 = 2 → ∀ m : List Bool, (m.length : Int) = vars + 1 → ¬ Mod l m
  lems : r.1 = 2 → ((r.2.2.length : Int) - 1 ≤ max fuel 0 ∧ 0 < r.2.2.length ∧ r.2.2.length < 10000000)
theorem mlv_val (m : List Bool) (h0 : True) : SatW.Val (fun x => if x = 0 then 0 else mlv m x) := by
  refine ⟨fun x => ?_, fun x => ?_⟩
  · show (if -x = 0 then 0 else mlv m (-x)) = - (if x = 0 then 0 else mlv m x)
    by_cases h : x = 0
    · subst h; rfl
    · rw [if_neg (by omega), if_neg h]
      unfold mlv
      by_cases hp : 0 < x
      · rw [if_neg (by omega), if_pos hp, Int.neg_neg]
        split <;> rfl
      · rw [if_pos (by omega), if_neg hp]
        split <;> rfl
  · show (if x = 0 then 0 else mlv m x) = 1 ∨ (if x = 0 then 0 else mlv m x) = -1 ∨ (if x = 0 then 0 else mlv m x) = 0
    by_cases h : x = 0
    · rw [if_pos h]; exact .inr (.inr rfl)
    · rw [if_neg h]
      unfold mlv
      split <;> split <;> simp
theorem mlv_ne (m : List Bool) (x : Int) : mlv m x = 1 ∨ mlv m x = -1 := by
  unfold mlv
  split <;> split <;> simp
/-- Clauses that lemmas show to be wrong have no model. -/
theorem chain_no {n : Nat} {l0 : List (List Int)} (hlit : ∀ c ∈ l0, ∀ x ∈ c, SatW.lit n x) {ls : List (List Int)} (hls : ∀ c ∈ ls, ∀ x ∈ c, SatW.lit n x) (hch : SatW.Chain l0 ls) (hend : SatW.Rup (l0 ++ ls) []) (m : List Bool) : ¬ Mod l0 m := by
  intro hm
  have step : ∀ (L : List (List Int)) (c : List Int), (∀ x ∈ c, x ≠ 0) → (∀ d ∈ L, ∃ x ∈ d, x ≠ 0 ∧ mlv m x = 1) → SatW.Rup L c → ∃ x ∈ c, mlv m x = 1 := by
    intro L c hc hL hR
    refine Classical.byContradiction fun hno => hR ⟨_, mlv_val m trivial, fun x hx => ?_, fun d hd => ?_⟩
    · show (if x = 0 then 0 else mlv m x) = -1
      rw [if_neg (hc x hx)]
      exact (mlv_ne m x).resolve_left (fun e => hno ⟨x, hx, e⟩)
    · obtain ⟨x, hx, h0, e⟩ := hL d hd
      exact .inl ⟨x, hx, by show (if x = 0 then 0 else mlv m x) = 1; rw [if_neg h0]; exact e⟩
  have h0 : ∀ d ∈ l0, ∃ x ∈ d, x ≠ 0 ∧ mlv m x = 1 := fun d hd => by
    obtain ⟨x, hx, e⟩ := hm d hd
    exact ⟨x, hx, (hlit d hd x hx).1, e⟩
  have key : ∀ i : Nat, i ≤ ls.length → ∀ d ∈ ls.take i, ∃ x ∈ d, x ≠ 0 ∧ mlv m x = 1 := by
    intro i
    induction i with
    | zero => intro _ d hd; simp at hd
    | succ i ih =>
      intro hi d hd
      have h1 := ih (by omega)
      rw [List.take_add_one] at hd
      rcases List.mem_append.1 hd with h | h
      · exact h1 d h
      · have hg : ls[i]? = some d := by
          cases hq : ls[i]? with
          | none => rw [hq] at h; simp at h
          | some e => rw [hq] at h; simp at h; rw [h]
        have hdl := hls d (List.mem_of_getElem? hg)
        obtain ⟨x, hx, e⟩ := step (l0 ++ ls.take i) d (fun x hx => (hdl x hx).1) (fun c hc => (List.mem_append.1 hc).elim (h0 c) (h1 c)) (hch i d hg)
        exact ⟨x, hx, (hdl x hx).1, e⟩
  have h1 := key ls.length (Nat.le_refl _)
  rw [List.take_length] at h1
  obtain ⟨x, hx, _⟩ := step (l0 ++ ls) [] (by simp) (fun c hc => (List.mem_append.1 hc).elim (h0 c) (h1 c)) hend
  cases hx
theorem small_of_lit {n : Nat} (hn : n ≤ 10000) {c : List Int} (h : ∀ x ∈ c, SatW.lit n x) : Small c := fun x hx => by
  obtain ⟨a, b, d⟩ := h x hx
  exact ⟨a, by omega, by omega⟩
theorem fit_of_res {l : List (List Int)} {vars fuel : Int} {r : SatW.Ans} (hl : WfR l) (hsz : l.length ≤ 90000) (hP : RightP l vars) (hf : fuel ≤ 700000) (h : SatW.Res vars.toNat l fuel r) : Fit l vars fuel r := by
  obtain ⟨⟨v0, v1⟩, hlit⟩ := hP
  have ev : ((vars.toNat : Nat) : Int) = vars := by omega
  have hw : wrap64 (vars + 1) = vars + 1 := w64 (by omega) (by omega)
  cases h with
  | yes t val ht hall htr hvl hv =>
    obtain ⟨m, hmm⟩ : ∃ m, (val.map fun x => decide (x > 0)) = m := ⟨_, rfl⟩
    have hml : m.length = vars.toNat + 1 := by rw [← hmm, List.length_map]; exact hvl
    have hMod : Mod l m := by rw [← hmm]; exact mod_of_trail ht hlit htr hvl hv
    have hz : rdOf false m 0 = false := by
      rw [← hmm, rdOf_map hvl hv (by omega) (by omega)]
      have : SatW.tv t 0 = 0 := by
        rw [SatW.tv_zero]
        exact ⟨fun h => (ht.tin 0 h).1 rfl, fun h => (ht.tin (-0) h).1 rfl⟩
      rw [this]; rfl
    rw [hmm]
    refine ⟨?_, .inr (.inl rfl), fun _ => ⟨by show (m.length : Int) = _; omega, hz, hMod⟩, fun h => absurd (show (1 : Int) = 2 from h) (by decide), fun h => absurd (show (1 : Int) = 2 from h) (by decide)⟩
    show Ev (fun k => ashlarref09_Good.f k l vars 1 m []) true
    unfold ashlarref09_Good.f
    refine Ev.pos rfl (Ev.pos rfl ?_)
    rw [hw]
    refine Ev.pos (by omega) (Ev.pos (by omega) (Ev.neg (by rw [hz]; simp) ?_))
    refine evalm_ok hl hml (by omega) hlit (F := fun _ t281 => some (t281 == 1)) (fun v hv => ?_)
    rw [hv.2 hMod]
    exact Ev.some_ _
  | no ls hch hend hlits hlen hfl =>
    refine ⟨?_, .inr (.inr rfl), fun h => absurd (show (2 : Int) = 1 from h) (by decide), fun _ m hm => chain_no hlit hlits hch hend m, fun _ => ?_⟩
    · show Ev (fun k => ashlarref09_Good.f k l vars 2 [] (ls ++ [[]])) true
      unfold ashlarref09_Good.f
      refine Ev.neg (by decide) (Ev.pos rfl (Ev.pos rfl ?_))
      refine Ev.bind (shown_holds hl (by omega) (fun c hc => by have := hlen c hc; omega) hsz (fun c hc => small_of_lit (by omega) (hlit c hc)) (fun c hc => small_of_lit (by omega) (hlits c hc)) hch hend) (Ev.some_ _)
    · show (((ls ++ [[]]).length : Int) - 1 ≤ _ ∧ 0 < (ls ++ [[]]).length ∧ (ls ++ [[]]).length < _)
      rw [List.length_append, List.length_singleton]
      omega
  | unknown ls h1 h2 h3 =>
    refine ⟨?_, .inl rfl, fun h => absurd (show (0 : Int) = 1 from h) (by decide), fun h => absurd (show (0 : Int) = 2 from h) (by decide), fun h => absurd (show (0 : Int) = 2 from h) (by decide)⟩
    show Ev (fun k => ashlarref09_Good.f k l vars 0 [] []) true
    unfold ashlarref09_Good.f
    exact Ev.neg (by decide) (Ev.neg (by decide) (Ev.pos rfl (Ev.pos rfl (Ev.some_ _))))
/-- Solve, of clauses that may be. -/
theorem solve_fit {l : List (List Int)} {vars fuel : Int} (hl : WfR l) (hsz : l.length ≤ 90000) (hP : RightP l vars) (hf : fuel ≤ 700000) : ∃ r, Ev (fun k => sat_Solve.f k l vars fuel) r ∧ Fit l vars fuel r ∧ (((3 ^ vars.toNat : Nat) : Int) ≤ fuel + 1 → r.1 ≠ 0) := by
  obtain ⟨k, r, hs, hR⟩ := SatW.solve_main (rightF_P.2 hP) hl.2 (by have := hl.1; omega) (by omega : fuel ≤ 900000000)
  exact ⟨r, solve_ev hs, fit_of_res hl hsz hP hf hR, fun h => hR.fuel h⟩
theorem solve_not {l : List (List Int)} {vars fuel : Int} (hP : ¬ RightP l vars) : Ev (fun k => sat_Solve.f k l vars fuel) (0, [], []) := by
  refine solve_ev (k := 0) (SatW.solve_wrong ?_ 0)
  cases h : SatW.rightF l vars with
  | false => rfl
  | true => exact absurd (rightF_P.1 h) hP
theorem few_wfr (l : List (List Int)) : WfR (fewF l) ∧ (fewF l).length ≤ 90000 := ⟨⟨by have := (few_small l).1; omega, fun c hc => by have := (few_small l).2 c hc; omega⟩, by have := (few_small l).1; omega⟩
end Go.Proofs.Ytmdjlhmifhnpdaa.PT
