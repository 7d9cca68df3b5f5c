/- The law TraceTurned, in plain Lean: turning a variable everywhere, and the order of the clauses and of the literals, change nothing. -/
import Derived.Test.YtbmnoofffodakaaTraceFew
import Derived.Test.YtbmnoofffodakaaTraceBits
import Derived.Test.YtbmnoofffodakaaQx10
namespace Go.Proofs.Ytbmnoofffodakaa.Pure
open Go.RowKit Go.Proofs.Ytbmnoofffodakaa.Q Go.Proofs.Ytbmnoofffodakaa.PT Go.Proofs.YtbmnoofffodakaaW.PrintWords Go.Proofs.YtbmnoofffodakaaW.PrintLast Go.Proofs.YtbmnoofffodakaaW.PrintMore

/-- The literal with the variable v turned. -/
def tn (v x : Int) : Int := if x = v ∨ x = -v then -x else x
theorem tn_tn (v x : Int) : tn v (tn v x) = x := by
  unfold tn
  repeat' split
  all_goals omega
theorem tn_neg (v x : Int) : tn v (-x) = -tn v x := by
  unfold tn
  repeat' split
  all_goals omega
def turnC (v : Int) (c : List Int) : List Int := (c.map (tn v)).reverse
theorem mem_turn {v : Int} {c : List Int} {y : Int} : y ∈ turnC v c ↔ tn v y ∈ c := by
  unfold turnC
  rw [List.mem_reverse, List.mem_map]
  constructor
  · rintro ⟨x, hx, rfl⟩
    rwa [tn_tn]
  · exact fun h => ⟨_, h, tn_tn v y⟩
theorem turn_turn (v : Int) (c : List Int) : turnC v (turnC v c) = c := by
  unfold turnC
  rw [List.map_reverse, List.reverse_reverse, List.map_map]
  have : (tn v ∘ tn v) = id := funext fun x => tn_tn v x
  rw [this, List.map_id]
theorem turn_small {v : Int} {c : List Int} (h : Small c) : Small (turnC v c) := fun x hx => by
  have := h _ (mem_turn.1 hx)
  unfold tn at this
  split at this <;> omega
theorem turn_length (v : Int) (c : List Int) : (turnC v c).length = c.length := by simp [turnC]
def Rel (v : Int) (L M : List (List Int)) : Prop := ∀ d ∈ L, ∃ e ∈ M, ∀ y, y ∈ e ↔ tn v y ∈ d
theorem Rup.turn {v : Int} {L M : List (List Int)} {c e : List Int} (h : Rup L c) (hr : Rel v L M) (he : ∀ y, y ∈ e ↔ tn v y ∈ c) : Rup M e := by
  rintro ⟨F, hv, hF, hI⟩
  refine h ⟨fun x => F (tn v x), ⟨fun x => ?_, fun x => hv.2 _⟩, fun x hx => ?_, fun d hd => ?_⟩
  · show F (tn v (-x)) = - F (tn v x)
    rw [tn_neg, hv.1]
  · exact hF _ ((he _).2 (by rw [tn_tn]; exact hx))
  · obtain ⟨e', he', hm⟩ := hr d hd
    rcases hI e' he' with ⟨x, hx, k⟩ | ⟨x, hx, y, hy, hn, k1, k2⟩
    · exact .inl ⟨tn v x, (hm x).1 hx, by show F (tn v (tn v x)) = 1; rw [tn_tn]; exact k⟩
    · refine .inr ⟨tn v x, (hm x).1 hx, tn v y, (hm y).1 hy, fun e => hn ?_, ?_, ?_⟩
      · rw [← tn_tn v x, e, tn_tn]
      · show F (tn v (tn v x)) = 0; rw [tn_tn]; exact k1
      · show F (tn v (tn v y)) = 0; rw [tn_tn]; exact k2
theorem Chain.turn {v : Int} (m : List (List Int)) : ∀ (L M : List (List Int)), Rel v L M → Chain L m → Chain M (m.map (turnC v)) := by
  induction m with
  | nil => intro L M _ _; trivial
  | cons c m ih =>
    intro L M hr h
    refine ⟨Rup.turn h.1 hr fun y => mem_turn, ih _ _ ?_ h.2⟩
    intro d hd
    rcases List.mem_append.1 hd with k | k
    · obtain ⟨e, he, hm⟩ := hr d k
      exact ⟨e, List.mem_append_left _ he, hm⟩
    · rw [List.mem_singleton.1 k]
      exact ⟨turnC v c, List.mem_append_right _ (by simp), fun y => mem_turn⟩
theorem Okay.turn {v : Int} {l m M : List (List Int)} (hr : Rel v l M) (hM : ∀ e ∈ M, ∃ d ∈ l, e = turnC v d) (h : Okay l m) : Okay M (m.map (turnC v)) := by
  refine ⟨fun c hc => ?_, ?_, Chain.turn m l M hr h.2.2⟩
  · rcases List.mem_append.1 hc with k | k
    · obtain ⟨d, hd, rfl⟩ := hM c k
      exact turn_small (h.1 d (List.mem_append_left _ hd))
    · obtain ⟨d, hd, rfl⟩ := List.mem_map.1 k
      exact turn_small (h.1 d (List.mem_append_right _ hd))
  · obtain ⟨i, e⟩ := h.2.1
    refine ⟨i.map (turnC v), ?_⟩
    rw [e, List.map_append]
    rfl
theorem okay_turn {v : Int} {l m : List (List Int)} : Okay (l.map (turnC v)).reverse (m.map (turnC v)) ↔ Okay l m := by
  constructor
  · intro h
    have hr : Rel v (l.map (turnC v)).reverse l := fun d hd => by
      rw [List.mem_reverse] at hd
      obtain ⟨e, he, rfl⟩ := List.mem_map.1 hd
      exact ⟨e, he, fun y => by rw [mem_turn, tn_tn]⟩
    have := Okay.turn hr (fun e he => ⟨turnC v e, List.mem_reverse.2 (List.mem_map.2 ⟨e, he, rfl⟩), (turn_turn v e).symm⟩) h
    rw [List.map_map] at this
    have e : (turnC v ∘ turnC v) = id := funext fun x => turn_turn v x
    rw [e, List.map_id] at this
    exact this
  · intro h
    refine Okay.turn (fun d hd => ⟨turnC v d, List.mem_reverse.2 (List.mem_map.2 ⟨d, hd, rfl⟩), fun y => mem_turn⟩) (fun e he => ?_) h
    rw [List.mem_reverse] at he
    obtain ⟨d, hd, rfl⟩ := List.mem_map.1 he
    exact ⟨d, hd, rfl⟩
theorem rd_get {c : List Int} {n : Nat} (h : n < c.length) : rd c (n : Int) = c[n] := by
  simp [rd, List.getD_eq_getElem?_getD, h]
theorem turned_loop {v : Int} (hv : 1 ≤ v ∧ v ≤ 8) {c : List Int} (hc : c.length ≤ 10) (n : Nat) : ∀ (out : List Int), out.length + n = c.length →
    Ev (fun k => ashlarlaw10_turned.l0 k c v out ((n : Int) - 1)) (out ++ ((c.take n).map (tn v)).reverse) := by
  induction n with
  | zero =>
    intro out _
    refine Ev.succ ?_
    simp only [ashlarlaw10_turned.l0]
    refine Ev.neg (by omega) ?_
    rw [List.take_zero, List.map_nil, List.reverse_nil, List.append_nil]
    exact Ev.some_ _
  | succ n ih =>
    intro out hn
    have hi : (((n + 1 : Nat) : Int) - 1) = (n : Int) := by omega
    have hnc : n < c.length := by omega
    have hnx : wrap64 ((n : Int) - 1) = (n : Int) - 1 := w64 (by omega) (by omega)
    have hwv : wrap64 (-v) = -v := w64 (by omega) (by omega)
    have step : ∀ y, y = tn v c[n] → Ev (fun k => ashlarlaw10_turned.l0 k c v (out ++ [y]) ((n : Int) - 1)) (out ++ ((c.take (n + 1)).map (tn v)).reverse) := by
      intro y hy
      have := ih (out ++ [y]) (by simp; omega)
      rw [List.take_succ_eq_append_getElem hnc, List.map_append, List.reverse_append]
      simp only [List.map_cons, List.map_nil, List.reverse_cons, List.reverse_nil, List.nil_append, List.singleton_append]
      rw [← hy]
      simp only [List.append_assoc, List.singleton_append] at this
      exact this
    rw [hi]
    refine Ev.succ ?_
    simp only [ashlarlaw10_turned.l0, rd_get hnc, hnx, hwv]
    refine Ev.pos (by omega) (Ev.pos (by omega) (Ev.pos (by omega) ?_))
    by_cases h1 : c[n] = v
    · refine Ev.pos h1 (Ev.pos (by omega) ?_)
      refine step _ ?_
      rw [w64 (by omega) (by omega)]
      unfold tn
      rw [if_pos (.inl h1)]
    · refine Ev.neg h1 ?_
      by_cases h2 : c[n] = -v
      · refine Ev.pos h2 (Ev.pos (by omega) ?_)
        refine step _ ?_
        rw [w64 (by omega) (by omega)]
        unfold tn
        rw [if_pos (.inr h2)]
      · refine Ev.neg h2 (Ev.pos (by omega) ?_)
        refine step _ ?_
        unfold tn
        rw [if_neg (by omega)]
theorem turned_ok {v : Int} (hv : 1 ≤ v ∧ v ≤ 8) {c : List Int} (hc : c.length ≤ 10) : Ev (fun k => ashlarlaw10_turned.f k c v) (turnC v c) := by
  have := turned_loop hv hc c.length [] (by simp)
  unfold ashlarlaw10_turned.f
  rw [w64 (by omega) (by omega)]
  rw [List.take_length] at this
  exact this
theorem rd_L1_get {l : List (List Int)} {n : Nat} (h : n < l.length) : rd_L1 l (n : Int) = l[n] := by
  simp [rd_L1, List.getD_eq_getElem?_getD, h]
theorem turned_lines {v : Int} (hv : 1 ≤ v ∧ v ≤ 8) {l m l' : List (List Int)} (hm : m.length ≤ 40 ∧ ∀ c ∈ m, c.length ≤ 10) {res : Bool} (fin : Ev (fun k => (trace_Check.f k l m).bind fun t401 => ((trace_Check.f k l' (m.map (turnC v))).bind fun t402 => (some (t401 == t402)))) res) (rest : List (List Int)) : ∀ (pre : List (List Int)), pre ++ rest = m →
    Ev (fun k => ashlarlaw10_TraceTurned.l1 k l m v true l' (pre.map (turnC v)) (pre.length : Int)) res := by
  induction rest with
  | nil =>
    intro pre hp
    rw [List.append_nil] at hp
    subst hp
    refine Ev.succ ?_
    simp only [ashlarlaw10_TraceTurned.l1]
    exact Ev.neg (by omega) (Ev.pos (by first | rfl | trivial) fin)
  | cons c rest ih =>
    intro pre hp
    have hml2 : m.length = pre.length + rest.length + 1 := by rw [← hp]; simp; omega
    have hlt : (pre.length : Int) < (m.length : Int) := by omega
    have hnx : wrap64 ((pre.length : Int) + 1) = ((pre ++ [c]).length : Int) := by rw [w64 (by omega) (by omega)]; simp
    have hrd : rd_L1 m (pre.length : Int) = c := by rw [← hp]; exact rd_L1_mid _ _ _
    have := ih (pre ++ [c]) (by rw [← hp]; simp)
    rw [List.map_append, List.map_cons, List.map_nil] at this
    refine Ev.succ ?_
    simp only [ashlarlaw10_TraceTurned.l1, hrd, hnx]
    exact Ev.pos hlt (Ev.pos (by omega) (Ev.bind (turned_ok hv (hm.2 c (by rw [← hp]; simp))) (Ev.pos (by rw [List.length_map]; omega) this)))
theorem turned_clauses {v : Int} (hv : 1 ≤ v ∧ v ≤ 8) {l m : List (List Int)} (hl : l.length ≤ 40 ∧ ∀ c ∈ l, c.length ≤ 10) {res : Bool} (n : Nat) : ∀ (out : List (List Int)), out.length + n = l.length →
    Ev (fun k => ashlarlaw10_TraceTurned.l1 k l m v true (out ++ ((l.take n).map (turnC v)).reverse) [] 0) res →
    Ev (fun k => ashlarlaw10_TraceTurned.l0 k l m v true out ((n : Int) - 1)) res := by
  induction n with
  | zero =>
    intro out _ h
    rw [List.take_zero, List.map_nil, List.reverse_nil, List.append_nil] at h
    refine Ev.succ ?_
    simp only [ashlarlaw10_TraceTurned.l0]
    exact Ev.neg (by omega) h
  | succ n ih =>
    intro out hn h
    have hi : (((n + 1 : Nat) : Int) - 1) = (n : Int) := by omega
    have hnc : n < l.length := by omega
    have hnx : wrap64 ((n : Int) - 1) = (n : Int) - 1 := w64 (by omega) (by omega)
    rw [hi]
    refine Ev.succ ?_
    simp only [ashlarlaw10_TraceTurned.l0, rd_L1_get hnc, hnx]
    refine Ev.pos (by omega) (Ev.pos (by omega) (Ev.pos (by omega) (Ev.bind (turned_ok hv (hl.2 _ (List.getElem_mem _))) (Ev.pos (by omega) ?_))))
    refine ih (out ++ [turnC v l[n]]) (by simp; omega) ?_
    rw [List.take_succ_eq_append_getElem hnc, List.map_append, List.reverse_append] at h
    simp only [List.map_cons, List.map_nil, List.reverse_cons, List.reverse_nil, List.nil_append, List.singleton_append] at h
    simp only [List.append_assoc, List.singleton_append]
    exact h
theorem TraceTurned : ∀ (l0 : List (List Int)) (l1 : List (List Int)) (a2 : Int), l0.length ≤ maxLen → (∀ c ∈ l0, c.length ≤ maxLen ∧ ∀ x ∈ c, (Lit.int .i64 x).wf = true) → l1.length ≤ maxLen → (∀ c ∈ l1, c.length ≤ maxLen ∧ ∀ x ∈ c, (Lit.int .i64 x).wf = true) → (Lit.int .i64 a2).wf = true → ∃ k, ashlarlaw10_TraceTurned.f k l0 l1 a2 = some true := by
  intro l0 l1 a2 h0 _ h1 _ _
  have hb : 0 ≤ Go.bits .and .i64 a2 7 ∧ Go.bits .and .i64 a2 7 ≤ 7 := bits_mask_range a2 7 (by decide)
  have hvw : wrap64 (1 + Go.bits .and .i64 a2 7) = 1 + Go.bits .and .i64 a2 7 := w64 (by have := hb.1; omega) (by have := hb.2; omega)
  obtain ⟨v, hve⟩ : ∃ v, 1 + Go.bits .and .i64 a2 7 = v := ⟨_, rfl⟩
  have hv : 1 ≤ v ∧ v ≤ 8 := by
    have a := hb.1
    have b := hb.2
    rw [← hve]
    constructor
    · exact Int.add_le_add_left a 1
    · exact Int.add_le_add_left b 1
  rw [hve] at hvw
  have hl := few_small l0
  have hm := few_small l1
  have hll : ((fewF l0).map (turnC v)).reverse.length = (fewF l0).length := by simp
  obtain ⟨r, hE, hr⟩ := check_ok (few_wf l0) (few_wf l1) ⟨by have := hl.1; omega, by have := hm.1; omega⟩
  obtain ⟨r2, hE2, hr2⟩ := check_ok (l := ((fewF l0).map (turnC v)).reverse) (m := (fewF l1).map (turnC v)) ⟨by have := hl.1; omega, fun c hc => by
      rw [List.mem_reverse] at hc
      obtain ⟨d, hd, rfl⟩ := List.mem_map.1 hc
      rw [turn_length]
      have := hl.2 d hd
      omega⟩ ⟨by rw [List.length_map]; have := hm.1; omega, fun c hc => by
      obtain ⟨d, hd, rfl⟩ := List.mem_map.1 hc
      rw [turn_length]
      have := hm.2 d hd
      omega⟩ ⟨by have := hl.1; omega, by rw [List.length_map]; have := hm.1; omega⟩
  have he : (r == r2) = true := by
    rw [okay_turn, ← hr] at hr2
    cases r <;> cases r2 <;> simp_all
  refine Ev.rounds (g := fun k => ashlarlaw10_TraceTurned.f k l0 l1 a2) ?_
  unfold ashlarlaw10_TraceTurned.f
  rw [hve, hvw]
  refine Ev.bind shown_ok (Ev.bind (few_ok l0 h0) (Ev.bind (few_ok l1 h1) ?_))
  rw [w64 (n := ((fewF l0).length : Int) - 1) (by omega) (by have := hl.1; omega)]
  refine turned_clauses hv hl (fewF l0).length [] (by simp) ?_
  rw [List.take_length, List.nil_append]
  refine turned_lines hv hm ?_ (fewF l1) [] rfl
  refine Ev.bind hE (Ev.bind hE2 ?_)
  rw [he]
  exact Ev.some_ _
end Go.Proofs.Ytbmnoofffodakaa.Pure
