/- What the reference of layer 8 (ashlarref08) comes to: the same runs. -/
import Derived.Test.YtbmnoofffodakaaPropLink
import Derived.Test.YtbmnoofffodakaaQx5
import Derived.Test.YtbmnoofffodakaaQx6
import Derived.Test.YtbmnoofffodakaaQx8
namespace Go.Proofs.Ytbmnoofffodakaa.PT
open Go.RowKit Go.Proofs.Ytbmnoofffodakaa.Q Go.Proofs.YtbmnoofffodakaaW.PrintWords Go.Proofs.YtbmnoofffodakaaW.PrintLast Go.Proofs.YtbmnoofffodakaaW.PrintMore

theorem open_of {a : List Int} (hl : a.length ≤ 1000000) (n : Int) : Ev (fun k => ashlarref08_Open.f k a n) (lv a n == 0) := by
  have z : ∀ v : Int, (v == 0) = (sg v == 0) := by
    intro v
    rw [Bool.eq_iff_iff, beq_iff_eq, beq_iff_eq]
    rcases sg_cases v with h | h | h <;> omega
  unfold ashlarref08_Open.f
  by_cases h1 : 0 < n ∧ n < (a.length : Int)
  · refine Ev.pos h1.1 (Ev.succ ?_)
    simp only [ashlarref08_Open.j0]
    refine Ev.pos (decide_eq_true h1.2) (Ev.pos (by omega) (Ev.pos h1.2 ?_))
    have : lv a n = sg (rd a n) := lv_pos h1.1 h1.2
    rw [this, ← z]
    exact Ev.some_ _
  · have main : Ev (fun k => ashlarref08_Open.j0 k a n false) (lv a n == 0) := by
      refine Ev.succ ?_
      simp only [ashlarref08_Open.j0]
      refine Ev.neg (by simp) ?_
      by_cases h2 : n < 0
      · refine Ev.pos h2 ?_
        by_cases h3 : -n < (a.length : Int)
        · have hw : wrap64 (-n) = -n := w64 (by omega) (by omega)
          rw [hw]
          refine Ev.pos h3 (Ev.pos (by omega) (Ev.pos (by omega) ?_))
          have : lv a n = - sg (rd a (-n)) := by unfold lv; rw [if_neg h1, if_pos ⟨h2, h3⟩]
          rw [this]
          have e : (-sg (rd a (-n)) == 0) = (rd a (-n) == 0) := by
            rw [z (rd a (-n)), Bool.eq_iff_iff, beq_iff_eq, beq_iff_eq]
            omega
          rw [e]
          exact Ev.some_ _
        · have : lv a n = -1 := by unfold lv; rw [if_neg h1, if_neg (by omega)]
          rw [this]
          by_cases h4 : wrap64 (-n) < (a.length : Int)
          · refine Ev.pos h4 ?_
            by_cases h5 : n > -1000000
            · exact absurd h4 (by rw [w64 (by omega) (by omega)]; exact h3)
            · exact Ev.neg h5 (Ev.some_ _)
          · exact Ev.neg h4 (Ev.some_ _)
      · refine Ev.neg h2 ?_
        have : lv a n = -1 := by unfold lv; rw [if_neg h1, if_neg (by omega)]
        rw [this]
        exact Ev.some_ _
    by_cases h2 : n > 0
    · refine Ev.pos h2 ?_
      rw [decide_eq_false (by omega)]
      exact main
    · exact Ev.neg h2 main

theorem true_of {a : List Int} (hl : a.length ≤ 1000000) (n : Int) : Ev (fun k => ashlarref08_True.f k a n) (lv a n == 1) := by
  unfold ashlarref08_True.f
  by_cases h1 : 0 < n ∧ n < (a.length : Int)
  · refine Ev.pos h1.1 (Ev.succ ?_)
    simp only [ashlarref08_True.j0]
    refine Ev.pos (decide_eq_true h1.2) (Ev.pos (by omega) (Ev.pos h1.2 ?_))
    have : lv a n = sg (rd a n) := lv_pos h1.1 h1.2
    have e : (lv a n == 1) = decide (rd a n > 0) := by
      rw [this, Bool.eq_iff_iff, beq_iff_eq, decide_eq_true_eq]
      rcases sg_cases (rd a n) with h | h | h <;> omega
    rw [e]
    exact Ev.some_ _
  · have main : Ev (fun k => ashlarref08_True.j0 k a n false) (lv a n == 1) := by
      refine Ev.succ ?_
      simp only [ashlarref08_True.j0]
      refine Ev.neg (by simp) ?_
      by_cases h2 : n < 0
      · refine Ev.pos h2 ?_
        by_cases h3 : -n < (a.length : Int)
        · have hw : wrap64 (-n) = -n := w64 (by omega) (by omega)
          rw [hw]
          refine Ev.pos h3 (Ev.pos (by omega) (Ev.pos (by omega) ?_))
          have : lv a n = - sg (rd a (-n)) := by unfold lv; rw [if_neg h1, if_pos ⟨h2, h3⟩]
          have e : (lv a n == 1) = decide (rd a (-n) < 0) := by
            rw [this, Bool.eq_iff_iff, beq_iff_eq, decide_eq_true_eq]
            rcases sg_cases (rd a (-n)) with h | h | h <;> omega
          rw [e]
          exact Ev.some_ _
        · have : lv a n = -1 := by unfold lv; rw [if_neg h1, if_neg (by omega)]
          rw [this]
          by_cases h4 : wrap64 (-n) < (a.length : Int)
          · refine Ev.pos h4 ?_
            by_cases h5 : n > -1000000
            · exact absurd h4 (by rw [w64 (by omega) (by omega)]; exact h3)
            · exact Ev.neg h5 (Ev.some_ _)
          · exact Ev.neg h4 (Ev.some_ _)
      · refine Ev.neg h2 ?_
        have : lv a n = -1 := by unfold lv; rw [if_neg h1, if_neg (by omega)]
        rw [this]
        exact Ev.some_ _
    by_cases h2 : n > 0
    · refine Ev.pos h2 ?_
      rw [decide_eq_false (by omega)]
      exact main
    · exact Ev.neg h2 main

theorem holds_loop {a : List Int} (ha : a.length ≤ 1000000) (rest : List Int) : ∀ (pre : List Int), (pre ++ rest).length ≤ 9223372036854775806 → truB a pre = false → Ev (fun k => ashlarref08_Holds.l0 k (pre ++ rest) a (pre.length : Int)) (truB a (pre ++ rest)) := by
  induction rest with
  | nil =>
    intro pre _ hp
    refine Ev.succ ?_
    simp only [ashlarref08_Holds.l0]
    rw [List.append_nil, hp]
    exact Ev.neg (by omega) (Ev.some_ _)
  | cons c rest ih =>
    intro pre hl hp
    have hll : (pre ++ c :: rest).length = pre.length + rest.length + 1 := by simp; omega
    have hnx : wrap64 ((pre.length : Int) + 1) = ((pre ++ [c]).length : Int) := by rw [w64 (by omega) (by omega)]; simp
    have happ : pre ++ c :: rest = (pre ++ [c]) ++ rest := by simp
    refine Ev.succ ?_
    simp only [ashlarref08_Holds.l0, rd_mid, hnx]
    refine Ev.pos (by omega) (Ev.pos (by omega) (Ev.bind (true_of ha c) ?_))
    by_cases h : lv a c = 1
    · refine Ev.pos (beq_iff_eq.2 h) ?_
      have : truB a (pre ++ c :: rest) = true := truB_iff.2 ⟨c, by simp, h⟩
      rw [this]
      exact Ev.some_ _
    · refine Ev.neg (fun e => h (beq_iff_eq.1 e)) ?_
      have := ih (pre ++ [c]) (by rw [← happ]; exact hl) (Bool.eq_false_iff.2 fun ht => by
        obtain ⟨x, hx, h1⟩ := truB_iff.1 ht
        rcases List.mem_append.1 hx with hx | hx
        · have : truB a pre = true := truB_iff.2 ⟨x, hx, h1⟩
          rw [hp] at this
          cases this
        · rw [List.mem_singleton.1 hx] at h1
          exact h h1)
      rw [← happ] at this
      exact this
theorem holds_ok {a : List Int} (ha : a.length ≤ 1000000) {c : List Int} (hc : c.length ≤ 9223372036854775806) : Ev (fun k => ashlarref08_Holds.f k c a) (truB a c) := holds_loop ha c [] hc rfl

/-- The open literals of a clause, each once, in the order in which they come. -/
def opensF (a : List Int) : List Int → List Int → List Int
  | out, [] => out
  | out, x :: c => opensF a (if lv a x = 0 ∧ x ∉ out then out ++ [x] else out) c
theorem opens_inner {a : List Int} {c : List Int} {out : List Int} {i : Int} {x : Int} {r : List Int} (hx : rd c i = x) (h0 : 0 ≤ i) (h1 : i < (c.length : Int)) (ho : out.length ≤ 1000000)
    (H : ∀ q : Bool, (q = true ↔ lv a x = 0 ∧ x ∉ out) → Ev (fun k => if q = true then (if 0 ≤ i then (if i < (c.length : Int) then (if out.length < 17592186044416 then (ashlarref08_opens.l0 k c a (out ++ [x]) (wrap64 (i + 1))) else (none)) else (none)) else (none)) else (ashlarref08_opens.l0 k c a out (wrap64 (i + 1)))) r) (d : Nat) :
    ∀ (j : Nat) (q : Bool), j ≤ out.length → out.length - j = d → (q = true ↔ lv a x = 0 ∧ x ∉ out.take j) → Ev (fun k => ashlarref08_opens.l1 k c a out i q (j : Int)) r := by
  induction d with
  | zero =>
    intro j q hj hd hq
    refine Ev.succ ?_
    simp only [ashlarref08_opens.l1, hx]
    rw [List.take_of_length_le (by omega)] at hq
    exact Ev.neg (by omega) (H q hq)
  | succ d ih =>
    intro j q hj hd hq
    have e : wrap64 ((j : Int) + 1) = ((j + 1 : Nat) : Int) := by rw [w64 (by omega) (by omega)]; omega
    have hlt : j < out.length := by omega
    have hrd : rd out (j : Int) = out[j] := by
      unfold rd
      rw [Int.toNat_natCast, List.getD_eq_getElem?_getD, List.getElem?_eq_getElem hlt]
      rfl
    have ht : out.take (j + 1) = out.take j ++ [out[j]] := by rw [List.take_succ_eq_append_getElem hlt]
    refine Ev.succ ?_
    simp only [ashlarref08_opens.l1, hx, e, hrd]
    refine Ev.pos (by omega) ?_
    cases q with
    | true =>
      refine Ev.pos rfl (Ev.pos (by omega) (Ev.pos h0 (Ev.pos h1 ?_)))
      refine ih (j + 1) _ (by omega) (by omega) ?_
      have := hq.1 rfl
      rw [ht]
      simp only [bne_iff_ne, List.mem_append, List.mem_singleton]
      constructor
      · intro h
        exact ⟨this.1, fun h2 => h2.elim this.2 fun h3 => h h3.symm⟩
      · rintro ⟨_, h2⟩ h3
        exact h2 (.inr h3.symm)
    | false =>
      refine Ev.neg (by simp) (ih (j + 1) _ (by omega) (by omega) ?_)
      rw [ht]
      constructor
      · intro h
        cases h
      · rintro ⟨h2, h3⟩
        exact hq.2 ⟨h2, fun h4 => h3 (List.mem_append_left _ h4)⟩
theorem opens_loop {a : List Int} (ha : a.length ≤ 1000000) (rest : List Int) : ∀ (pre out : List Int), (pre ++ rest).length ≤ 1000000 → out.length ≤ pre.length →
    Ev (fun k => ashlarref08_opens.l0 k (pre ++ rest) a out (pre.length : Int)) (opensF a out rest) := by
  induction rest with
  | nil =>
    intro pre out _ _
    refine Ev.succ ?_
    simp only [ashlarref08_opens.l0]
    rw [List.append_nil]
    exact Ev.neg (by omega) (Ev.some_ _)
  | cons c rest ih =>
    intro pre out hl ho
    have hll : (pre ++ c :: rest).length = pre.length + rest.length + 1 := by simp; omega
    have hnx : wrap64 ((pre.length : Int) + 1) = ((pre ++ [c]).length : Int) := by rw [w64 (by omega) (by omega)]; simp
    have happ : pre ++ c :: rest = (pre ++ [c]) ++ rest := by simp
    refine Ev.succ ?_
    simp only [ashlarref08_opens.l0, rd_mid]
    refine Ev.pos (by omega) (Ev.pos (by omega) (Ev.bind (open_of ha c) ?_))
    refine opens_inner (x := c) (rd_mid _ _ _) (by omega) (by omega) (by omega) (fun q hq => ?_) _ 0 _ (by omega) rfl (by simp)
    rw [hnx]
    have next := fun out' h => ih (pre ++ [c]) out' (by rw [← happ]; exact hl) h
    rw [← happ] at next
    by_cases h : q = true
    · refine Ev.pos h (Ev.pos (by omega) (Ev.pos (by omega) (Ev.pos (by omega) ?_)))
      have e : opensF a out (c :: rest) = opensF a (out ++ [c]) rest := by
        simp only [opensF]
        rw [if_pos (hq.1 h)]
      rw [e]
      exact next _ (by simp; omega)
    · refine Ev.neg h ?_
      have e : opensF a out (c :: rest) = opensF a out rest := by
        simp only [opensF]
        rw [if_neg (fun e => h (hq.2 e))]
      rw [e]
      exact next _ (by simp; omega)
theorem opens_ok {a : List Int} (ha : a.length ≤ 1000000) {c : List Int} (hc : c.length ≤ 1000000) : Ev (fun k => ashlarref08_opens.f k c a) (opensF a [] c) := opens_loop ha c [] [] hc (Nat.le_refl _)
theorem opensF_mem {a : List Int} (c : List Int) : ∀ (out : List Int), (∀ x, x ∈ opensF a out c ↔ x ∈ out ∨ (x ∈ c ∧ lv a x = 0)) ∧ (out.Nodup → (opensF a out c).Nodup) := by
  induction c with
  | nil => intro out; simp [opensF]
  | cons y c ih =>
    intro out
    simp only [opensF]
    by_cases h : lv a y = 0 ∧ y ∉ out
    · rw [if_pos h]
      obtain ⟨h1, h2⟩ := ih (out ++ [y])
      refine ⟨fun x => ?_, fun hn => h2 ?_⟩
      · rw [h1]
        simp only [List.mem_append, List.mem_cons, List.not_mem_nil, or_false]
        constructor
        · rintro ((h3 | h3) | h3)
          · exact .inl h3
          · exact .inr ⟨.inl h3, by rw [h3]; exact h.1⟩
          · exact .inr ⟨.inr h3.1, h3.2⟩
        · rintro (h3 | ⟨h3 | h3, h4⟩)
          · exact .inl (.inl h3)
          · exact .inl (.inr h3)
          · exact .inr ⟨h3, h4⟩
      · rw [List.nodup_append]
        exact ⟨hn, by simp, by simp; intro x hx e; exact h.2 (by rw [← e]; exact hx)⟩
    · rw [if_neg h]
      obtain ⟨h1, h2⟩ := ih out
      refine ⟨fun x => ?_, h2⟩
      rw [h1]
      simp only [List.mem_cons]
      constructor
      · rintro (h3 | h3)
        · exact .inl h3
        · exact .inr ⟨.inr h3.1, h3.2⟩
      · rintro (h3 | ⟨h3 | h3, h4⟩)
        · exact .inl h3
        · subst h3
          by_cases h5 : x ∈ out
          · exact .inl h5
          · exact (h ⟨h4, h5⟩).elim
        · exact .inr ⟨h3, h4⟩
/-- What the open literals tell of a clause without a true one. -/
theorem opens_tell {a c : List Int} (ht : truB a c = false) : ((opensF a [] c).length = 0 ↔ flsB a c = true) ∧ ((opensF a [] c).length = 1 → untB a c (rd (opensF a [] c) 0) = true) ∧ (2 ≤ (opensF a [] c).length → idle a c) := by
  obtain ⟨hm, hn⟩ := opensF_mem (a := a) c []
  have hn := hn List.nodup_nil
  have hnt : ∀ x ∈ c, lv a x ≠ 1 := fun x hx e => by
    have : truB a c = true := truB_iff.2 ⟨x, hx, e⟩
    rw [ht] at this
    cases this
  have hm' : ∀ x, x ∈ opensF a [] c ↔ x ∈ c ∧ lv a x = 0 := fun x => by rw [hm]; simp
  refine ⟨?_, ?_, ?_⟩
  · rw [List.length_eq_zero_iff, flsB_iff]
    constructor
    · intro h x hx
      rcases lv_cases a x with e | e | e
      · exact (hnt x hx e).elim
      · exact e
      · have := (hm' x).2 ⟨hx, e⟩
        rw [h] at this
        cases this
    · intro h
      refine List.eq_nil_iff_forall_not_mem.2 fun x hx => ?_
      obtain ⟨h1, h2⟩ := (hm' x).1 hx
      have := h x h1
      omega
  · intro h
    obtain ⟨y, hy⟩ := List.length_eq_one_iff.1 h
    have e : rd (opensF a [] c) 0 = y := by rw [hy]; rfl
    rw [e]
    obtain ⟨h1, h2⟩ := (hm' y).1 (by rw [hy]; simp)
    refine untB_iff.2 ⟨h1, h2, fun x hx => ?_⟩
    rcases lv_cases a x with e | e | e
    · exact (hnt x hx e).elim
    · exact .inl e
    · have := (hm' x).2 ⟨hx, e⟩
      rw [hy] at this
      exact .inr (List.mem_singleton.1 this)
  · intro h
    match hL : opensF a [] c, h with
    | x :: y :: rest, _ =>
      rw [hL] at hn
      have hxy : x ≠ y := by
        intro e
        rw [List.nodup_cons] at hn
        exact hn.1 (by rw [e]; simp)
      obtain ⟨hx1, hx2⟩ := (hm' x).1 (by rw [hL]; simp)
      obtain ⟨hy1, hy2⟩ := (hm' y).1 (by rw [hL]; simp)
      refine ⟨Bool.eq_false_iff.2 fun hf => ?_, fun n => Bool.eq_false_iff.2 fun hu => ?_⟩
      · have := flsB_iff.1 hf x hx1
        omega
      · obtain ⟨_, _, h3⟩ := untB_iff.1 hu
        rcases h3 x hx1 with e | e
        · omega
        · rcases h3 y hy1 with f | f
          · omega
          · exact hxy (e.trans f.symm)

/-- Clauses as few cuts them: small enough for the reference. -/
def WfR (l : List (List Int)) : Prop := l.length ≤ 1000000 ∧ ∀ c ∈ l, c.length ≤ 1000000
theorem WfR.wf {l : List (List Int)} (h : WfR l) : WfC l := ⟨by have := h.1; omega, fun c hc => by have := h.2 c hc; omega⟩
theorem next_loop {a : List Int} (ha : a.length ≤ 1000000) (rest : List (List Int)) : ∀ (pre : List (List Int)), WfR (pre ++ rest) → (∀ c ∈ pre, idle a c) →
    (Ev (fun k => ashlarref08_next.l0 k (pre ++ rest) a (pre.length : Int)) ([], false) ∧ ∀ c ∈ pre ++ rest, idle a c) ∨
    ∃ c pre' post', Ev (fun k => ashlarref08_next.l0 k (pre ++ rest) a (pre.length : Int)) (opensF a [] c, true) ∧ pre ++ rest = pre' ++ c :: post' ∧ (∀ d ∈ pre', idle a d) ∧ truB a c = false ∧ (opensF a [] c).length < 2 := by
  induction rest with
  | nil =>
    intro pre _ hp
    refine .inl ⟨Ev.succ ?_, by rw [List.append_nil]; exact hp⟩
    simp only [ashlarref08_next.l0]
    rw [List.append_nil]
    exact Ev.neg (by omega) (Ev.some_ _)
  | cons c rest ih =>
    intro pre hl hp
    have hl1 := hl.1
    have hll : (pre ++ c :: rest).length = pre.length + rest.length + 1 := by simp; omega
    have hnx : wrap64 ((pre.length : Int) + 1) = ((pre ++ [c]).length : Int) := by rw [w64 (by omega) (by omega)]; simp
    have happ : pre ++ c :: rest = (pre ++ [c]) ++ rest := by simp
    have hc := hl.2 c (by simp)
    have round : ∀ {r : List Int × Bool}, Ev (fun k => if truB a c = true then (ashlarref08_next.l0 k (pre ++ c :: rest) a ((pre ++ [c]).length : Int)) else (if ((opensF a [] c).length : Int) < 2 then some (opensF a [] c, true) else (ashlarref08_next.l0 k (pre ++ c :: rest) a ((pre ++ [c]).length : Int)))) r → Ev (fun k => ashlarref08_next.l0 k (pre ++ c :: rest) a (pre.length : Int)) r := by
      intro r h
      refine Ev.succ ?_
      simp only [ashlarref08_next.l0, rd_L1_mid, hnx]
      exact Ev.pos (by omega) (Ev.pos (by omega) (Ev.bind (opens_ok ha hc) (Ev.bind (holds_ok ha (by omega)) h)))
    have go : idle a c → (∀ {r : List Int × Bool}, Ev (fun k => ashlarref08_next.l0 k (pre ++ c :: rest) a ((pre ++ [c]).length : Int)) r → Ev (fun k => ashlarref08_next.l0 k (pre ++ c :: rest) a (pre.length : Int)) r) →
        (Ev (fun k => ashlarref08_next.l0 k (pre ++ c :: rest) a (pre.length : Int)) ([], false) ∧ ∀ c_1 ∈ pre ++ c :: rest, idle a c_1) ∨
        ∃ c_1 pre' post', Ev (fun k => ashlarref08_next.l0 k (pre ++ c :: rest) a (pre.length : Int)) (opensF a [] c_1, true) ∧ pre ++ c :: rest = pre' ++ c_1 :: post' ∧ (∀ d ∈ pre', idle a d) ∧ truB a c_1 = false ∧ (opensF a [] c_1).length < 2 := by
      intro hi hE
      have := ih (pre ++ [c]) (by rw [← happ]; exact hl) (fun d hd => by
        rcases List.mem_append.1 hd with hd | hd
        · exact hp d hd
        · rw [List.mem_singleton.1 hd]; exact hi)
      rw [← happ] at this
      rcases this with ⟨h1, h2⟩ | ⟨d, pre', post', h1, h2⟩
      · exact .inl ⟨hE h1, h2⟩
      · exact .inr ⟨d, pre', post', hE h1, h2⟩
    by_cases ht : truB a c = true
    · exact go (tru_idle ht) (fun h => round (Ev.pos ht h))
    · have ht' : truB a c = false := Bool.eq_false_iff.2 ht
      by_cases h2 : (opensF a [] c).length < 2
      · exact .inr ⟨c, pre, rest, round (Ev.neg ht (Ev.pos (by omega) (Ev.some_ _))), rfl, hp, ht', h2⟩
      · exact go ((opens_tell ht').2.2 (by omega)) (fun h => round (Ev.neg ht (Ev.neg (by omega) h)))

theorem refUnit_loop {l : List (List Int)} (hl : WfR l) (N : Nat) : ∀ (a : List Int), a.length ≤ 1000000 → zeros a < N → ∃ b r, Ev (fun k => ashlarref08_Unit.l0 k l a) (b, r) ∧ Run l a b r := by
  induction N with
  | zero => intro a _ h; omega
  | succ N ih =>
    intro a ha hz
    rcases next_loop ha l [] hl (by simp) with ⟨h1, h2⟩ | ⟨c, pre, post, h1, h2, h3, h4, h5⟩
    · refine ⟨a, false, Ev.succ ?_, .done h2⟩
      simp only [ashlarref08_Unit.l0]
      refine Ev.bind h1 ?_
      simp only
      exact Ev.neg (by simp) (Ev.some_ _)
    · obtain ⟨t0, t1, _⟩ := opens_tell h4
      by_cases h0 : (opensF a [] c).length = 0
      · refine ⟨a, true, Ev.succ ?_, .conf h2 h3 (t0.1 h0)⟩
        simp only [ashlarref08_Unit.l0]
        refine Ev.bind h1 ?_
        simp only
        exact Ev.pos trivial (Ev.pos (by omega) (Ev.some_ _))
      · have hu := t1 (by omega)
        have ho := (untB_iff.1 hu).2.1
        obtain ⟨b, r, hE, hR⟩ := ih (put a (rd (opensF a [] c) 0)) (by rw [put_length]; exact ha) (by have := zeros_put ho; omega)
        refine ⟨b, r, Ev.succ ?_, .step h2 h3 hu hR⟩
        simp only [ashlarref08_Unit.l0]
        refine Ev.bind h1 ?_
        simp only
        refine Ev.pos trivial (Ev.neg (by omega) (Ev.pos (by omega) ?_))
        rcases lv_open ho with ⟨g0, g1, _⟩ | ⟨g0, g1, _⟩
        · refine Ev.pos g0 (Ev.pos (by omega) (Ev.pos g1 ?_))
          have : put a (rd (opensF a [] c) 0) = a.set (rd (opensF a [] c) 0).toNat 1 := by unfold put; rw [if_pos g0]
          rw [← this]
          exact hE
        · refine Ev.neg (by omega) ?_
          rw [w64 (by omega) (by omega)]
          refine Ev.pos (by omega) (Ev.pos g1 ?_)
          have : put a (rd (opensF a [] c) 0) = a.set (-(rd (opensF a [] c) 0)).toNat (-1) := by unfold put; rw [if_neg (by omega)]
          rw [← this]
          exact hE
theorem refUnit_ok {l : List (List Int)} (hl : WfR l) {a : List Int} (ha : a.length ≤ 1000000) : ∃ b r, Ev (fun k => ashlarref08_Unit.f k l a) (b, r) ∧ Run l a b r := by
  obtain ⟨b, r, h, hR⟩ := refUnit_loop hl (zeros a + 1) a ha (by omega)
  refine ⟨b, r, ?_, hR⟩
  unfold ashlarref08_Unit.f
  simp only [Option.bind_some, List.nil_append, List.length_nil]
  exact Ev.pos (by omega) h

theorem refEval_loop {a : List Int} (ha : a.length ≤ 1000000) (rest : List (List Int)) : ∀ (pre : List (List Int)), WfR (pre ++ rest) → pre.any (flsB a) = false →
    Ev (fun k => ashlarref08_Eval.l0 k (pre ++ rest) a (if pre.all (truB a) then 1 else 0) (pre.length : Int)) (evalV (pre ++ rest) a) := by
  induction rest with
  | nil =>
    intro pre _ hp
    refine Ev.succ ?_
    simp only [ashlarref08_Eval.l0]
    rw [List.append_nil]
    refine Ev.neg (by omega) ?_
    have e : evalV pre a = if pre.all (truB a) then 1 else 0 := by
      unfold evalV
      rw [hp]
      rfl
    rw [e]
    exact Ev.some_ _
  | cons c rest ih =>
    intro pre hwf hp
    have hll : (pre ++ c :: rest).length = pre.length + rest.length + 1 := by simp; omega
    have h1 := hwf.1
    have hnx : wrap64 ((pre.length : Int) + 1) = ((pre ++ [c]).length : Int) := by rw [w64 (by omega) (by omega)]; simp
    have happ : pre ++ c :: rest = (pre ++ [c]) ++ rest := by simp
    have hc := hwf.2 c (by simp)
    refine Ev.succ ?_
    simp only [ashlarref08_Eval.l0, rd_L1_mid, hnx]
    refine Ev.pos (by omega) (Ev.pos (by omega) (Ev.bind (holds_ok ha (by omega)) ?_))
    have next := fun h => ih (pre ++ [c]) (by rw [← happ]; exact hwf) h
    rw [← happ] at next
    by_cases ht : truB a c = true
    · have hf : flsB a c = false := (tru_idle ht).1
      refine Ev.pos ht ?_
      have := next (by rw [List.any_append, hp]; simp [hf])
      have e : (pre ++ [c]).all (truB a) = pre.all (truB a) := by rw [List.all_append]; simp [ht]
      rw [e] at this
      exact this
    · have ht' : truB a c = false := Bool.eq_false_iff.2 ht
      refine Ev.neg ht (Ev.bind (opens_ok ha hc) ?_)
      by_cases hf : flsB a c = true
      · refine Ev.pos (by have := (opens_tell ht').1.2 hf; omega) ?_
        have : evalV (pre ++ c :: rest) a = -1 := by
          rw [eval_neg, List.any_append, List.any_cons, hf]
          simp
        rw [this]
        exact Ev.some_ _
      · have hf' : flsB a c = false := Bool.eq_false_iff.2 hf
        refine Ev.neg (fun h => hf ((opens_tell ht').1.1 (by omega))) ?_
        have := next (by rw [List.any_append, hp]; simp [hf'])
        have e : (pre ++ [c]).all (truB a) = false := by rw [List.all_append]; simp [ht']
        rw [e] at this
        exact this
theorem refEval_ok {a : List Int} (ha : a.length ≤ 1000000) {l : List (List Int)} (hl : WfR l) : Ev (fun k => ashlarref08_Eval.f k l a) (evalV l a) := refEval_loop ha l [] hl rfl
end Go.Proofs.Ytbmnoofffodakaa.PT
