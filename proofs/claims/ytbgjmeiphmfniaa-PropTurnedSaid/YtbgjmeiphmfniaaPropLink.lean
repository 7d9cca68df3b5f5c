/- What prop.Unit's printed text comes to: a run (PropPure). -/
import Derived.Test.YtbgjmeiphmfniaaPropPure
import Derived.Test.YtbgjmeiphmfniaaQx1
namespace Go.Proofs.Ytbgjmeiphmfniaa.PT
open Go.RowKit Go.Proofs.Ytbgjmeiphmfniaa.Q Go.Proofs.YtbgjmeiphmfniaaW.PrintWords Go.Proofs.YtbgjmeiphmfniaaW.PrintLast Go.Proofs.YtbgjmeiphmfniaaW.PrintMore

theorem Ev.succ {α : Type} {g : Nat → Option α} {r : α} (h : Ev (fun k => g (k + 1)) r) : Ev g r := by
  obtain ⟨K, hK⟩ := h
  refine ⟨K + 1, fun k hk => ?_⟩
  have h := hK (k - 1) (by omega)
  have e : k - 1 + 1 = k := by omega
  simp only [e] at h
  exact h
theorem Ev.pos {α : Type} {c : Prop} [Decidable c] {f g : Nat → Option α} {r : α} (h : c) (H : Ev f r) : Ev (fun k => if c then f k else g k) r := by
  obtain ⟨K, hK⟩ := H
  exact ⟨K, fun k hk => (if_pos h).trans (hK k hk)⟩
theorem Ev.neg {α : Type} {c : Prop} [Decidable c] {f g : Nat → Option α} {r : α} (h : ¬ c) (H : Ev g r) : Ev (fun k => if c then f k else g k) r := by
  obtain ⟨K, hK⟩ := H
  exact ⟨K, fun k hk => (if_neg h).trans (hK k hk)⟩
theorem Ev.some_ {α : Type} (r : α) : Ev (fun _ => some r) r := ⟨0, fun _ _ => rfl⟩
theorem Ev.eq {α : Type} {g : Nat → Option α} {r r' : α} (h : Ev g r) (h' : Ev g r') : r = r' := by
  obtain ⟨K, hK⟩ := h
  obtain ⟨K', hK'⟩ := h'
  have a := hK (max K K') (Nat.le_max_left _ _)
  have b := hK' (max K K') (Nat.le_max_right _ _)
  rw [a] at b
  exact Option.some.inj b

/-- The numbers of an int8's kind. -/
def WfA (a : List Int) : Prop := (∀ x ∈ a, -128 ≤ x ∧ x ≤ 127) ∧ a.length < 140737488355328
theorem WfA.val {a : List Int} (h : WfA a) (j : Int) : -128 ≤ rd a j ∧ rd a j ≤ 127 := by
  unfold rd
  rw [List.getD_eq_getElem?_getD]
  cases hj : a[j.toNat]? with
  | none => simp
  | some v => exact h.1 v (List.mem_of_getElem? hj)
theorem WfA.put {a : List Int} (h : WfA a) (n : Int) : WfA (put a n) := by
  refine ⟨fun x hx => ?_, by rw [put_length]; exact h.2⟩
  unfold PT.put at hx
  split at hx
  · rcases List.mem_or_eq_of_mem_set hx with h' | h'
    · exact h.1 x h'
    · omega
  · rcases List.mem_or_eq_of_mem_set hx with h' | h'
    · exact h.1 x h'
    · omega
theorem w64 {n : Int} (h0 : -9223372036854775808 ≤ n) (h1 : n ≤ 9223372036854775807) : wrap64 n = n := by unfold wrap64; omega
theorem rd_mid (pre rest : List Int) (x : Int) : rd (pre ++ x :: rest) (pre.length : Int) = x := by
  unfold rd
  rw [Int.toNat_natCast, List.getD_eq_getElem?_getD, List.getElem?_append_right (Nat.le_refl _)]
  simp
theorem rd_L2_mid (pre rest : List (List Int)) (x : List Int) : rd_L2 (pre ++ x :: rest) (pre.length : Int) = x := by
  unfold rd_L2
  rw [Int.toNat_natCast, List.getD_eq_getElem?_getD, List.getElem?_append_right (Nat.le_refl _)]
  simp

theorem i8w {v : Int} (h0 : -128 ≤ v) (h1 : v ≤ 127) : IntKind.i8.wrap v = v := by
  show (if (true && decide (v % 256 ≥ 128)) = true then v % 256 - 256 else v % 256) = v
  by_cases h : v % 256 ≥ 128
  · rw [decide_eq_true h, Bool.true_and, if_pos rfl]
    omega
  · rw [decide_eq_false h, Bool.true_and, if_neg (by decide)]
    omega
theorem of_ok (k : Nat) {a : List Int} (ha : WfA a) (n : Int) : ∃ v kn, prop_of.f (k + 1) a n = some (v, kn) ∧ (lv a n = 1 ↔ 0 < v) ∧ (lv a n = -1 ↔ v < 0 ∨ kn = false) ∧ (kn = false → v = 0) := by
  have hl := ha.2
  have hw : wrap64 (-(a.length : Int)) = -(a.length : Int) := w64 (by omega) (by omega)
  unfold prop_of.f
  by_cases h1 : 0 < n ∧ n < (a.length : Int)
  · rw [if_pos h1.1, decide_eq_true h1.2]
    simp only [prop_of.j0]
    rw [if_pos trivial, if_pos (by omega), if_pos h1.2]
    refine ⟨_, _, rfl, ?_, ?_, by simp⟩
    · unfold lv
      rw [if_pos h1]
      rcases sg_cases (rd a n) with h | h | h <;> omega
    · unfold lv
      rw [if_pos h1]
      rcases sg_cases (rd a n) with h | h | h <;> simp <;> omega
  · have hf : (if n > 0 then prop_of.j0 (k + 1) a n (decide (n < (a.length : Int))) else prop_of.j0 (k + 1) a n false) = prop_of.j0 (k + 1) a n false := by
      by_cases hn : n > 0
      · rw [if_pos hn, decide_eq_false (by omega)]
      · rw [if_neg hn]
    rw [hf]
    simp only [prop_of.j0, hw]
    rw [if_neg (by simp)]
    by_cases h2 : n < 0 ∧ -n < (a.length : Int)
    · have hw2 : wrap64 (-n) = -n := w64 (by omega) (by omega)
      rw [if_pos h2.1, if_pos (by omega), hw2, if_pos (by omega), if_pos h2.2]
      have hr := ha.val (-n)
      have hm : -1 ≤ mx (rd a (-n)) (-1) ∧ mx (rd a (-n)) (-1) ≤ 127 ∧ (0 ≤ rd a (-n) → mx (rd a (-n)) (-1) = rd a (-n)) ∧ (rd a (-n) < 0 → mx (rd a (-n)) (-1) = -1) := by unfold mx; split <;> omega
      have hi : IntKind.i8.wrap (-(mx (rd a (-n)) (-1))) = -(mx (rd a (-n)) (-1)) := by
        exact i8w (by omega) (by omega)
      rw [hi]
      refine ⟨_, _, rfl, ?_, ?_, by simp⟩
      · unfold lv
        rw [if_neg h1, if_pos h2]
        rcases sg_cases (rd a (-n)) with h | h | h <;> omega
      · unfold lv
        rw [if_neg h1, if_pos h2]
        rcases sg_cases (rd a (-n)) with h | h | h <;> simp <;> omega
    · have hnone : (if n < 0 then (if n > -(a.length : Int) then (if 0 ≤ wrap64 (-n) then (if wrap64 (-n) < (a.length : Int) then some (IntKind.i8.wrap (-(mx (rd a (wrap64 (-n))) (-1))), true) else none) else none) else some ((0 : Int), false)) else some (0, false)) = some (0, false) := by
        by_cases h3 : n < 0
        · rw [if_pos h3, if_neg (by omega)]
        · rw [if_neg h3]
      rw [hnone]
      refine ⟨_, _, rfl, ?_, ?_, fun _ => rfl⟩
      · unfold lv
        rw [if_neg h1, if_neg h2]
        omega
      · unfold lv
        rw [if_neg h1, if_neg h2]
        simp

/-- What look tells of a clause. -/
def Looks (a c : List Int) (w n : Int) : Prop := (w = 0 ∧ truB a c = true) ∨ (w = 1 ∧ flsB a c = true) ∨ (w = 3 ∧ untB a c n = true) ∨ (w = 2 ∧ truB a c = false ∧ idle a c)
def Seen (a pre : List Int) (w n : Int) : Prop := (w = 1 ∧ flsB a pre = true) ∨ (w = 3 ∧ untB a pre n = true) ∨ (w = 2 ∧ (∀ x ∈ pre, lv a x ≠ 1) ∧ ∃ x y, x ∈ pre ∧ y ∈ pre ∧ x ≠ y ∧ lv a x = 0 ∧ lv a y = 0)
theorem Seen.looks {a c : List Int} {w n : Int} (h : Seen a c w n) : Looks a c w n := by
  rcases h with h | h | ⟨h, h1, x, y, hx, hy, hxy, h2, h3⟩
  · exact .inr (.inl h)
  · exact .inr (.inr (.inl h))
  · refine .inr (.inr (.inr ⟨h, Bool.eq_false_iff.2 fun ht => ?_, Bool.eq_false_iff.2 fun hf => ?_, fun m => Bool.eq_false_iff.2 fun hu => ?_⟩))
    · obtain ⟨z, hz, hz1⟩ := truB_iff.1 ht
      exact h1 z hz hz1
    · have := flsB_iff.1 hf x hx
      omega
    · obtain ⟨_, _, h4⟩ := untB_iff.1 hu
      rcases h4 x hx with e | e
      · omega
      · rcases h4 y hy with f | f
        · omega
        · exact hxy (e.trans f.symm)
theorem Seen.no_true {a pre : List Int} {w n : Int} (h : Seen a pre w n) : ∀ x ∈ pre, lv a x ≠ 1 := by
  rcases h with ⟨_, h⟩ | ⟨_, h⟩ | ⟨_, h, _⟩
  · intro x hx
    have := flsB_iff.1 h x hx
    omega
  · intro x hx
    obtain ⟨_, h1, h2⟩ := untB_iff.1 h
    rcases h2 x hx with e | e
    · omega
    · rw [e]; omega
  · exact h
theorem Seen.neg {a pre : List Int} {w n x : Int} (h : Seen a pre w n) (hx : lv a x = -1) : Seen a (pre ++ [x]) w n := by
  rcases h with ⟨hw, h⟩ | ⟨hw, h⟩ | ⟨hw, h, y, z, hy, hz, hyz, h2, h3⟩
  · refine .inl ⟨hw, flsB_iff.2 fun y hy => ?_⟩
    rcases List.mem_append.1 hy with hy | hy
    · exact flsB_iff.1 h y hy
    · rw [List.mem_singleton.1 hy]; exact hx
  · obtain ⟨h1, h2, h3⟩ := untB_iff.1 h
    refine .inr (.inl ⟨hw, untB_iff.2 ⟨List.mem_append_left _ h1, h2, fun y hy => ?_⟩⟩)
    rcases List.mem_append.1 hy with hy | hy
    · exact h3 y hy
    · rw [List.mem_singleton.1 hy]; exact .inl hx
  · refine .inr (.inr ⟨hw, fun u hu => ?_, y, z, List.mem_append_left _ hy, List.mem_append_left _ hz, hyz, h2, h3⟩)
    rcases List.mem_append.1 hu with hu | hu
    · exact h u hu
    · rw [List.mem_singleton.1 hu]; omega

theorem look_loop {a : List Int} (ha : WfA a) (rest : List Int) : ∀ (pre : List Int) (w n : Int), Seen a pre w n → (pre ++ rest).length ≤ 9223372036854775806 →
    ∃ w' n', Ev (fun k => prop_look.l0 k a w n (pre ++ rest) ((pre ++ rest).length : Int) (pre.length : Int)) (w', n') ∧ Looks a (pre ++ rest) w' n' := by
  induction rest with
  | nil =>
    intro pre w n hs _
    refine ⟨w, n, Ev.succ ?_, by rw [List.append_nil]; exact hs.looks⟩
    simp only [prop_look.l0]
    rw [List.append_nil]
    refine Ev.neg (by omega) ?_
    exact Ev.some_ _
  | cons x rest ih =>
    intro pre w n hs hl
    obtain ⟨v, kn, hof, h1, h2, h3⟩ : ∃ v kn, Ev (fun k => prop_of.f k a x) (v, kn) ∧ (lv a x = 1 ↔ 0 < v) ∧ (lv a x = -1 ↔ v < 0 ∨ kn = false) ∧ (kn = false → v = 0) := by
      obtain ⟨v, kn, h0, h⟩ := of_ok 0 ha x
      exact ⟨v, kn, Ev.of (fun k => prop_of.mono _ _ k) h0, h⟩
    have hll : (pre ++ x :: rest).length = pre.length + rest.length + 1 := by simp; omega
    have hlt : (pre.length : Int) < ((pre ++ x :: rest).length : Int) := by omega
    have hnx : wrap64 ((pre.length : Int) + 1) = ((pre ++ [x]).length : Int) := by rw [w64 (by omega) (by omega)]; simp
    have happ : pre ++ x :: rest = (pre ++ [x]) ++ rest := by simp
    have next : ∀ w n, Seen a (pre ++ [x]) w n → ∃ w' n', Ev (fun k => prop_look.l0 k a w n (pre ++ x :: rest) ((pre ++ x :: rest).length : Int) (wrap64 ((pre.length : Int) + 1))) (w', n') ∧ Looks a (pre ++ x :: rest) w' n' := by
      intro w n hs'
      have := ih (pre ++ [x]) w n hs' (by rw [← happ]; exact hl)
      rw [← happ] at this
      rw [hnx]
      exact this
    by_cases hv : 0 < v
    · refine ⟨0, 0, Ev.succ ?_, .inl ⟨rfl, truB_iff.2 ⟨x, by simp, h1.2 hv⟩⟩⟩
      simp only [prop_look.l0, rd_mid]
      refine Ev.pos hlt ?_
      refine Ev.pos (by omega) ?_
      refine Ev.pos hlt ?_
      refine Ev.bind hof ?_
      refine Ev.pos hv ?_
      exact Ev.some_ _
    · have hnt : lv a x ≠ 1 := fun e => hv (h1.1 e)
      by_cases hneg : lv a x = -1
      · obtain ⟨w', n', hE, hK⟩ := next w n (hs.neg hneg)
        refine ⟨w', n', Ev.succ ?_, hK⟩
        simp only [prop_look.l0, rd_mid]
        refine Ev.pos hlt ?_
        refine Ev.pos (by omega) ?_
        refine Ev.pos hlt ?_
        refine Ev.bind hof ?_
        refine Ev.neg hv ?_
        have hb : (v < 0 ∨ kn = false) := h2.1 hneg
        have hj : Ev (fun k => prop_look.j1 k a w n x (pre ++ x :: rest) ((pre ++ x :: rest).length : Int) (pre.length : Int) true) (w', n') := by
          refine Ev.succ ?_
          simp only [prop_look.j1]
          refine Ev.pos trivial ?_
          exact hE
        by_cases hv0 : v < 0
        · refine Ev.pos hv0 ?_
          exact hj
        · refine Ev.neg hv0 ?_
          have : kn = false := hb.resolve_left hv0
          rw [this]
          exact hj
      · have h0 : lv a x = 0 := by rcases lv_cases a x with h | h | h <;> omega
        have hb : ¬ (v < 0 ∨ kn = false) := fun h => hneg (h2.2 h)
        have hv0 : ¬ v < 0 := fun h => hb (.inl h)
        have hkn : kn = true := by
          cases kn with
          | false => exact (hb (.inr rfl)).elim
          | true => rfl
        have main : ∀ w2 n2, (∀ k, prop_look.j1 (k + 1) a w n x (pre ++ x :: rest) ((pre ++ x :: rest).length : Int) (pre.length : Int) false = prop_look.l0 k a w2 n2 (pre ++ x :: rest) ((pre ++ x :: rest).length : Int) (wrap64 ((pre.length : Int) + 1))) → Seen a (pre ++ [x]) w2 n2 →
            ∃ w' n', Ev (fun k => prop_look.l0 k a w n (pre ++ x :: rest) ((pre ++ x :: rest).length : Int) (pre.length : Int)) (w', n') ∧ Looks a (pre ++ x :: rest) w' n' := by
          intro w2 n2 hj hs2
          obtain ⟨w', n', hE, hK⟩ := next w2 n2 hs2
          refine ⟨w', n', Ev.succ ?_, hK⟩
          simp only [prop_look.l0, rd_mid]
          refine Ev.pos hlt ?_
          refine Ev.pos (by omega) ?_
          refine Ev.pos hlt ?_
          refine Ev.bind hof ?_
          refine Ev.neg hv ?_
          refine Ev.neg hv0 ?_
          rw [hkn]
          exact Ev.step hj hE
        have hnt' : ∀ y ∈ pre ++ [x], lv a y ≠ 1 := by
          intro y hy
          rcases List.mem_append.1 hy with hy | hy
          · exact hs.no_true y hy
          · rw [List.mem_singleton.1 hy]; omega
        rcases hs with ⟨hw, h⟩ | ⟨hw, h⟩ | ⟨hw, h, y, z, hy, hz, hyz, g2, g3⟩
        · refine main 3 x (fun k => ?_) (.inr (.inl ⟨rfl, untB_iff.2 ⟨by simp, h0, fun y hy => ?_⟩⟩))
          · simp only [prop_look.j1]
            rw [if_neg (by simp), if_pos hw]
          · rcases List.mem_append.1 hy with hy | hy
            · exact .inl (flsB_iff.1 h y hy)
            · exact .inr (List.mem_singleton.1 hy)
        · obtain ⟨g1, g2, g3⟩ := untB_iff.1 h
          by_cases hxn : x = n
          · refine main w n (fun k => ?_) (.inr (.inl ⟨hw, untB_iff.2 ⟨List.mem_append_left _ g1, g2, fun y hy => ?_⟩⟩))
            · simp only [prop_look.j1]
              rw [if_neg (by simp), if_neg (by omega), if_pos hxn]
            · rcases List.mem_append.1 hy with hy | hy
              · exact g3 y hy
              · exact .inr ((List.mem_singleton.1 hy).trans hxn)
          · refine main 2 n (fun k => ?_) (.inr (.inr ⟨rfl, hnt', x, n, by simp, List.mem_append_left _ g1, hxn, h0, g2⟩))
            simp only [prop_look.j1]
            rw [if_neg (by simp), if_neg (by omega), if_neg hxn]
        · by_cases hxn : x = n
          · refine main w n (fun k => ?_) (.inr (.inr ⟨hw, hnt', y, z, List.mem_append_left _ hy, List.mem_append_left _ hz, hyz, g2, g3⟩))
            simp only [prop_look.j1]
            rw [if_neg (by simp), if_neg (by omega), if_pos hxn]
          · refine main 2 n (fun k => ?_) (.inr (.inr ⟨rfl, hnt', y, z, List.mem_append_left _ hy, List.mem_append_left _ hz, hyz, g2, g3⟩))
            simp only [prop_look.j1]
            rw [if_neg (by simp), if_neg (by omega), if_neg hxn]

/-- Sizes of clauses. -/
def WfC (l : List (List Int)) : Prop := l.length ≤ 9223372036854775806 ∧ ∀ c ∈ l, c.length ≤ 9223372036854775806
theorem look_ok {a : List Int} (ha : WfA a) {c : List Int} (hc : c.length ≤ 9223372036854775806) : ∃ w n, Ev (fun k => prop_look.f k c a) (w, n) ∧ Looks a c w n := by
  have := look_loop ha c [] 1 0 (.inl ⟨rfl, rfl⟩) hc
  exact this

theorem unit_loop {l : List (List Int)} (hl : WfC l) (N : Nat) : ∀ (a : List Int), WfA a → zeros a < N → ∃ b r, (∀ (pre rest : List (List Int)), l = pre ++ rest → (∀ c ∈ pre, idle a c) → Ev (fun k => prop_Unit.l1 k l a l (l.length : Int) (pre.length : Int)) (b, r)) ∧ Run l a b r := by
  induction N with
  | zero => intro a _ h; omega
  | succ N ihN =>
    intro a ha hz
    -- from a place on: what the rest of the clauses comes to
    have go : ∀ (rest pre : List (List Int)), l = pre ++ rest → (∀ c ∈ pre, idle a c) → ∃ b r, (∀ (pre' rest' : List (List Int)), pre' ++ rest' = rest → (∀ c ∈ pre', idle a c) → Ev (fun k => prop_Unit.l1 k l a l (l.length : Int) ((pre ++ pre').length : Int)) (b, r)) ∧ Run l a b r := by
      intro rest
      induction rest with
      | nil =>
        intro pre hp hi
        refine ⟨a, false, fun pre' rest' h _ => Ev.succ ?_, .done (by rw [hp, List.append_nil]; exact hi)⟩
        obtain ⟨rfl, rfl⟩ := List.append_eq_nil_iff.1 h
        simp only [prop_Unit.l1]
        refine Ev.neg (by rw [hp]; simp) ?_
        exact Ev.some_ _
      | cons c rest ih =>
        intro pre hp hi
        have hcl : c ∈ l := by rw [hp]; simp
        obtain ⟨w, n, hE, hK⟩ := look_ok ha (hl.2 c hcl)
        have hll : l.length = pre.length + rest.length + 1 := by rw [hp]; simp; omega
        have hl1 := hl.1
        have hmid : rd_L2 l (pre.length : Int) = c := by rw [hp]; exact rd_L2_mid pre rest c
        have first : ∀ {b r}, Ev (fun k => prop_Unit.l1 k l a l (l.length : Int) (pre.length : Int)) (b, r) → (∀ (pre' rest' : List (List Int)), pre' ++ rest' = c :: rest → (∀ c ∈ pre', idle a c) → pre' = []) → ∀ (pre' rest' : List (List Int)), pre' ++ rest' = c :: rest → (∀ c ∈ pre', idle a c) → Ev (fun k => prop_Unit.l1 k l a l (l.length : Int) ((pre ++ pre').length : Int)) (b, r) := by
          intro b r h h0 pre' rest' h1 h2
          rw [h0 pre' rest' h1 h2, List.append_nil]
          exact h
        have none_ : ¬ idle a c → ∀ (pre' rest' : List (List Int)), pre' ++ rest' = c :: rest → (∀ c ∈ pre', idle a c) → pre' = [] := by
          intro hn pre' rest' h1 h2
          cases pre' with
          | nil => rfl
          | cons d pre' =>
            have := (List.cons.inj h1).1
            exact absurd (by rw [← this]; exact h2 d List.mem_cons_self) hn
        -- the round's first half
        have round : ∀ {b r}, Ev (fun k => if w = 1 then some (a, true) else if w = 3 then prop_Unit.j2 k l a w n l (l.length : Int) (pre.length : Int) (decide (n > 0)) else prop_Unit.j2 k l a w n l (l.length : Int) (pre.length : Int) false) (b, r) → Ev (fun k => prop_Unit.l1 k l a l (l.length : Int) (pre.length : Int)) (b, r) := by
          intro b r h
          refine Ev.succ ?_
          simp only [prop_Unit.l1, hmid]
          refine Ev.pos (by omega) ?_
          refine Ev.pos (by omega) ?_
          refine Ev.pos (by omega) ?_
          exact Ev.bind hE h
        have skip_ : w ≠ 1 → w ≠ 3 → idle a c → ∃ b r, (∀ (pre' rest' : List (List Int)), pre' ++ rest' = c :: rest → (∀ c ∈ pre', idle a c) → Ev (fun k => prop_Unit.l1 k l a l (l.length : Int) ((pre ++ pre').length : Int)) (b, r)) ∧ Run l a b r := by
          intro hw1 hw3 hic
          obtain ⟨b, r, hE', hR⟩ := ih (pre ++ [c]) (by rw [hp]; simp) (fun d hd => by
            rcases List.mem_append.1 hd with hd | hd
            · exact hi d hd
            · rw [List.mem_singleton.1 hd]; exact hic)
          refine ⟨b, r, fun pre' rest' h1 h2 => ?_, hR⟩
          cases pre' with
          | nil =>
            rw [List.append_nil]
            refine round ?_
            refine Ev.neg hw1 ?_
            refine Ev.neg hw3 ?_
            refine Ev.succ ?_
            simp only [prop_Unit.j2]
            refine Ev.neg (by simp) ?_
            refine Ev.neg hw3 ?_
            have := hE' [] rest rfl (by simp)
            rw [List.append_nil] at this
            have e : wrap64 ((pre.length : Int) + 1) = ((pre ++ [c]).length : Int) := by rw [w64 (by omega) (by omega)]; simp
            rw [e]
            exact this
          | cons d pre' =>
            obtain ⟨rfl, h3⟩ := List.cons.inj h1
            have := hE' pre' rest' h3 (fun x hx => h2 x (List.mem_cons_of_mem _ hx))
            rw [List.append_assoc] at this
            exact this
        rcases hK with ⟨hw, ht⟩ | ⟨hw, hf⟩ | ⟨hw, hu⟩ | ⟨hw, _, hic⟩
        · exact skip_ (by omega) (by omega) (tru_idle ht)
        · refine ⟨a, true, first (round ?_) (none_ fun h => idle_not_fls h hf), .conf hp hi hf⟩
          refine Ev.pos hw ?_
          exact Ev.some_ _
        · obtain ⟨h1, h2, h3⟩ := untB_iff.1 hu
          obtain ⟨b, r, hE', hR⟩ := ihN (put a n) (ha.put n) (by have := zeros_put h2; omega)
          refine ⟨b, r, first (round ?_) (none_ fun h => idle_not_unt h hu), .step hp hi hu hR⟩
          refine Ev.neg (by omega) ?_
          refine Ev.pos hw ?_
          refine Ev.succ ?_
          simp only [prop_Unit.j2]
          have hgo : Ev (fun k => prop_Unit.l0 k l (put a n)) (b, r) := by
            refine Ev.succ ?_
            simp only [prop_Unit.l0]
            exact hE' [] l rfl (by simp)
          have hal := ha.2
          rcases lv_open h2 with ⟨g0, g1, _⟩ | ⟨g0, g1, _⟩
          · refine Ev.pos (by simpa using g0) ?_
            refine Ev.pos (by omega) ?_
            refine Ev.pos g1 ?_
            have : put a n = a.set n.toNat 1 := by unfold put; rw [if_pos g0]
            rw [← this]
            exact hgo
          · refine Ev.neg (by simp; omega) ?_
            refine Ev.pos hw ?_
            rw [w64 (by omega) (by omega)]
            refine Ev.pos (by omega) ?_
            refine Ev.pos g1 ?_
            have : put a n = a.set (-n).toNat (-1) := by unfold put; rw [if_neg (by omega)]
            rw [← this]
            exact hgo
        · exact skip_ (by omega) (by omega) hic
    obtain ⟨b, r, h, hR⟩ := go l [] rfl (by simp)
    exact ⟨b, r, fun pre rest h1 h2 => by have := h pre rest h1.symm h2; rwa [List.nil_append] at this, hR⟩

theorem unit_ok {l : List (List Int)} (hl : WfC l) {a : List Int} (ha : WfA a) : ∃ b r, Ev (fun k => prop_Unit.f k l a) (b, r) ∧ Run l a b r := by
  obtain ⟨b, r, h, hR⟩ := unit_loop hl (zeros a + 1) a ha (by omega)
  refine ⟨b, r, ?_, hR⟩
  unfold prop_Unit.f
  refine Ev.pos ha.2 ?_
  refine Ev.succ ?_
  simp only [prop_Unit.l0]
  exact h [] l rfl (by simp)
theorem Run.wf {l : List (List Int)} {a b : List Int} {r : Bool} (h : Run l a b r) (ha : WfA a) : WfA b := by
  induction h with
  | done => exact ha
  | conf => exact ha
  | step _ _ _ _ ih => exact ih (ha.put _)
end Go.Proofs.Ytbgjmeiphmfniaa.PT
