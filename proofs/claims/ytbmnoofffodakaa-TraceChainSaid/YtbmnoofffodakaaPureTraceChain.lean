/- The law TraceChain, in plain Lean: a chain of implications contradicts itself, and no link can be spared. -/
import Derived.Test.YtbmnoofffodakaaTraceFew
import Derived.Test.YtbmnoofffodakaaTraceBits
import Derived.Test.YtbmnoofffodakaaQx11
namespace Go.Proofs.Ytbmnoofffodakaa.Pure
open Go.RowKit Go.Proofs.Ytbmnoofffodakaa.Q Go.Proofs.Ytbmnoofffodakaa.PT Go.Proofs.YtbmnoofffodakaaW.PrintWords Go.Proofs.YtbmnoofffodakaaW.PrintLast Go.Proofs.YtbmnoofffodakaaW.PrintMore

def linkF (j : Nat) : List Int := [(j : Int) + 1, -(j : Int)]
def linksF (h : Nat) : List (List Int) := [[1], [-(h : Int)]] ++ (List.range (h - 1)).map fun i => linkF (i + 1)
/-- True below i, false from i on. -/
def stepF (i : Int) (x : Int) : Int := if x = 0 then 0 else if 0 < x then (if x < i then 1 else -1) else (if -x < i then -1 else 1)
theorem stepF_val (i : Int) : Val (stepF i) := by
  constructor
  · intro x
    unfold stepF
    repeat' split
    all_goals omega
  · intro x
    unfold stepF
    repeat' split
    all_goals omega
theorem stepF_up {i x : Int} (h0 : 0 < x) (h1 : x < i) : stepF i x = 1 := by
  unfold stepF
  rw [if_neg (by omega), if_pos h0, if_pos h1]
theorem stepF_down {i x : Int} (h0 : 0 < x) (h1 : i ≤ x) : stepF i (-x) = 1 := by
  unfold stepF
  rw [if_neg (by omega), if_neg (by omega), Int.neg_neg, if_neg (by omega)]
theorem links_rup (h : Nat) (hh : 1 ≤ h) : Rup (linksF h) [] := by
  rintro ⟨F, hv, _, hI⟩
  have h1 : F 1 = 1 := by
    have := hI [1] (by simp [linksF])
    rcases this with ⟨x, hx, e⟩ | ⟨x, hx, y, hy, hn, _⟩
    · rw [List.mem_singleton.1 hx] at e; exact e
    · rw [List.mem_singleton.1 hx, List.mem_singleton.1 hy] at hn; exact (hn rfl).elim
  have hend : F (-(h : Int)) = 1 := by
    have := hI [-(h : Int)] (by simp [linksF])
    rcases this with ⟨x, hx, e⟩ | ⟨x, hx, y, hy, hn, _⟩
    · rw [List.mem_singleton.1 hx] at e; exact e
    · rw [List.mem_singleton.1 hx, List.mem_singleton.1 hy] at hn; exact (hn rfl).elim
  have up : ∀ j : Nat, 1 ≤ j → j ≤ h → F (j : Int) = 1 := by
    intro j
    induction j with
    | zero => intro h; omega
    | succ j ih =>
      intro _ hj
      by_cases hj0 : j = 0
      · subst hj0; exact h1
      · have hF := ih (by omega) (by omega)
        have := hI (linkF j) (by
          unfold linksF
          refine List.mem_append_right _ (List.mem_map.2 ⟨j - 1, List.mem_range.2 (by omega), ?_⟩)
          rw [Nat.sub_add_cancel (by omega)])
        have hn := hv.1 (j : Int)
        have e1 : ((j + 1 : Nat) : Int) = (j : Int) + 1 := by omega
        rw [e1]
        unfold linkF at this
        rcases this with ⟨x, hx, e⟩ | ⟨x, hx, y, hy, hne, ex, ey⟩
        · rcases List.mem_cons.1 hx with k | k
          · rw [k] at e; exact e
          · rw [List.mem_singleton.1 k] at e; omega
        · rcases List.mem_cons.1 hx with k | k
          · rcases List.mem_cons.1 hy with k' | k'
            · exact (hne (k.trans k'.symm)).elim
            · rw [List.mem_singleton.1 k'] at ey; omega
          · rw [List.mem_singleton.1 k] at ex; omega
  have := up h hh (Nat.le_refl _)
  rw [hv.1] at hend
  omega
theorem mem_drop {l : List (List Int)} {i : Nat} {c : List Int} (h : c ∈ l.take i ++ l.drop (i + 1)) : ∃ j, j ≠ i ∧ l[j]? = some c := by
  rcases List.mem_append.1 h with h | h
  · obtain ⟨j, hj, e⟩ := List.mem_take_iff_getElem.1 h
    exact ⟨j, by omega, by rw [List.getElem?_eq_getElem (by omega)]; rw [e]⟩
  · obtain ⟨j, hj, e⟩ := List.mem_drop_iff_getElem.1 h
    exact ⟨i + 1 + j, by omega, by rw [List.getElem?_eq_getElem (by omega)]; rw [e]⟩
theorem links_get (h j : Nat) (c : List Int) (e : (linksF h)[j]? = some c) : (j = 0 ∧ c = [1]) ∨ (j = 1 ∧ c = [-(h : Int)]) ∨ (2 ≤ j ∧ j ≤ h ∧ c = [(j : Int), -((j : Int) - 1)]) := by
  unfold linksF at e
  match j with
  | 0 => left; simp at e; exact ⟨rfl, e.symm⟩
  | 1 => right; left; simp at e; exact ⟨rfl, e.symm⟩
  | j + 2 =>
    right; right
    rw [List.getElem?_append_right (by simp)] at e
    simp only [List.length_cons, List.length_nil] at e
    have e2 : j + 2 - (0 + 1 + 1) = j := by omega
    rw [e2, List.getElem?_map] at e
    by_cases hj : j < h - 1
    · rw [List.getElem?_range hj] at e
      simp only [Option.map_some, Option.some.injEq] at e
      refine ⟨by omega, by omega, ?_⟩
      rw [← e]
      unfold linkF
      have a : ((j + 1 : Nat) : Int) + 1 = ((j + 2 : Nat) : Int) := by omega
      have b : ((j + 1 : Nat) : Int) = ((j + 2 : Nat) : Int) - 1 := by omega
      rw [a, b]
    · rw [List.getElem?_eq_none (by simp; omega)] at e
      simp at e
theorem links_spare (h i : Nat) (hh : 2 ≤ h) (hi : i ≤ h) : ¬ Rup ((linksF h).take i ++ (linksF h).drop (i + 1)) [] := by
  intro hR
  apply hR
  refine ⟨stepF (if i = 0 then 1 else if i = 1 then (h : Int) + 1 else i), stepF_val _, by simp, fun d hd => .inl ?_⟩
  obtain ⟨j, hj, e⟩ := mem_drop hd
  rcases links_get h j d e with ⟨e0, rfl⟩ | ⟨e1, rfl⟩ | ⟨h2, h3, rfl⟩
  · refine ⟨1, by simp, stepF_up (by omega) ?_⟩
    rw [if_neg (by omega)]
    split <;> omega
  · refine ⟨-(h : Int), by simp, stepF_down (by omega) ?_⟩
    by_cases h0 : i = 0
    · rw [if_pos h0]; omega
    · rw [if_neg h0, if_neg (by omega)]; omega
  · by_cases hlt : (j : Int) < (if i = 0 then 1 else if i = 1 then (h : Int) + 1 else i)
    · exact ⟨(j : Int), by simp, stepF_up (by omega) hlt⟩
    · refine ⟨-((j : Int) - 1), by simp, stepF_down (by omega) ?_⟩
      by_cases h0 : i = 0
      · rw [if_pos h0]; omega
      · rw [if_neg h0] at hlt ⊢
        by_cases h1 : i = 1
        · rw [if_pos h1] at hlt; omega
        · rw [if_neg h1] at hlt ⊢; omega
theorem links_small (h : Nat) (hh : 2 ≤ h) (hm : h ≤ 40) : ∀ c ∈ linksF h, Small c ∧ c.length ≤ 2 := by
  intro c hc
  obtain ⟨j, hj, e⟩ := List.mem_iff_getElem.1 hc
  have := links_get h j c (by rw [List.getElem?_eq_getElem hj, e])
  rcases this with ⟨_, rfl⟩ | ⟨_, rfl⟩ | ⟨h2, h3, rfl⟩
  · exact ⟨fun x hx => by rw [List.mem_singleton.1 hx]; decide, by simp⟩
  · exact ⟨fun x hx => by rw [List.mem_singleton.1 hx]; omega, by simp⟩
  · refine ⟨fun x hx => ?_, by simp⟩
    rcases List.mem_cons.1 hx with k | k
    · omega
    · rw [List.mem_singleton.1 k]; omega
theorem links_length (h : Nat) (hh : 1 ≤ h) : (linksF h).length = h + 1 := by
  unfold linksF
  simp
  omega
theorem okay_nil {l : List (List Int)} : Okay l [[]] ↔ (∀ c ∈ l, Small c) ∧ Rup l [] := by
  unfold Okay Chain Chain
  constructor
  · exact fun h => ⟨fun c hc => h.1 c (List.mem_append_left _ hc), h.2.2.1⟩
  · exact fun h => ⟨fun c hc => by
      rcases List.mem_append.1 hc with k | k
      · exact h.1 c k
      · rw [List.mem_singleton.1 k]; intro x hx; simp at hx, ⟨[], rfl⟩, h.2, trivial⟩
theorem chain_end {h : Nat} (hh : 2 ≤ h) (hm : h ≤ 40) (a1 : Int) : Ev (fun k => ashlarlaw10_TraceChain.l0 k (h : Int) a1 true (linksF h) (h : Int)) true := by
  have hlen := links_length h (by omega)
  have hb := bits_low a1
  have hi0 : 0 ≤ Int.tmod (Go.bits .and .i64 a1 65535) ((linksF h).length : Int) := Int.tmod_nonneg _ hb.1
  have hi1 : Int.tmod (Go.bits .and .i64 a1 65535) ((linksF h).length : Int) < ((linksF h).length : Int) := Int.tmod_lt_of_pos _ (by omega)
  obtain ⟨i, hi⟩ : ∃ i : Nat, Int.tmod (Go.bits .and .i64 a1 65535) ((linksF h).length : Int) = (i : Int) := ⟨_, (Int.toNat_of_nonneg hi0).symm⟩
  rw [hi] at hi0 hi1
  have hw : wrap64 ((i : Int) + 1) = ((i + 1 : Nat) : Int) := by rw [w64 (by omega) (by omega)]; simp
  have hsm := links_small h hh hm
  have hsub : ∀ c ∈ (linksF h).take i ++ (linksF h).drop (i + 1), c ∈ linksF h := fun c hc => by
    obtain ⟨j, _, e⟩ := mem_drop hc
    exact List.mem_of_getElem? e
  have hnil : WfC [[]] := ⟨by decide, fun c hc => by rw [List.mem_singleton.1 hc]; decide⟩
  have hl2 : ((linksF h).take i ++ (linksF h).drop (i + 1)).length ≤ 41 := by simp only [List.length_append, List.length_take, List.length_drop]; omega
  obtain ⟨r, hE, hr⟩ := check_ok (l := linksF h) (m := [[]]) ⟨by omega, fun c hc => by have := (hsm c hc).2; omega⟩ hnil ⟨by omega, by decide⟩
  obtain ⟨r2, hE2, hr2⟩ := check_ok (l := (linksF h).take i ++ (linksF h).drop (i + 1)) (m := [[]]) ⟨by omega, fun c hc => by have := (hsm c (hsub c hc)).2; omega⟩ hnil ⟨by omega, by decide⟩
  have h1 : r = true := hr.2 (okay_nil.2 ⟨fun c hc => (hsm c hc).1, links_rup h (by omega)⟩)
  have h2 : r2 = false := by
    cases r2 with
    | false => rfl
    | true => exact (links_spare h i hh (by omega) (okay_nil.1 (hr2.1 rfl)).2).elim
  subst h1
  subst h2
  refine Ev.succ ?_
  simp only [ashlarlaw10_TraceChain.l0, Option.bind_some, hi, hw, Int.toNat_natCast, List.nil_append]
  refine Ev.neg (by omega) (Ev.neg (by omega) (Ev.pos (by omega) (Ev.pos (by omega) (Ev.pos (by simp only [List.length_nil, List.length_take]; omega) (Ev.pos (by omega) (Ev.pos (by omega) (Ev.pos (by simp only [List.length_take, List.length_drop]; omega) (Ev.pos (by first | rfl | trivial) (Ev.bind hE (Ev.pos rfl (Ev.bind hE2 (Ev.some_ _))))))))))))
theorem chain_grow {h : Nat} (hh : 2 ≤ h) (hm : h ≤ 40) (a1 : Int) (n : Nat) : ∀ j : Nat, 1 ≤ j → j + n = h →
    Ev (fun k => ashlarlaw10_TraceChain.l0 k (h : Int) a1 true ([[1], [-(h : Int)]] ++ (List.range (j - 1)).map fun i => linkF (i + 1)) (j : Int)) true := by
  induction n with
  | zero =>
    intro j _ hj
    have e : j = h := by omega
    subst e
    exact chain_end hh hm a1
  | succ n ih =>
    intro j h1 hj
    have w1 : wrap64 ((j : Int) + 1) = ((j + 1 : Nat) : Int) := by rw [w64 (by omega) (by omega)]; simp
    have w2 : wrap64 (-(j : Int)) = -(j : Int) := w64 (by omega) (by omega)
    refine Ev.succ ?_
    simp only [ashlarlaw10_TraceChain.l0, w1, w2]
    refine Ev.pos (by omega) (Ev.pos (by simp; omega) ?_)
    have := ih (j + 1) (by omega) (by omega)
    have e : j + 1 - 1 = (j - 1) + 1 := by omega
    rw [e, List.range_succ, List.map_append, List.map_cons, List.map_nil, Nat.sub_add_cancel h1, ← List.append_assoc] at this
    have e3 : linkF j = [((j + 1 : Nat) : Int), -(j : Int)] := by unfold linkF; simp
    rw [e3] at this
    exact this
theorem TraceChain : ∀ (a0 : Int) (a1 : Int), (Lit.int .i64 a0).wf = true → (Lit.int .i64 a1).wf = true → ∃ k, ashlarlaw10_TraceChain.f k a0 a1 = some true := by
  intro a0 a1 _ _
  have hb := bits_low a0
  have h0 : 0 ≤ Int.tmod (Go.bits .and .i64 a0 65535) 39 := Int.tmod_nonneg _ hb.1
  have h1 : Int.tmod (Go.bits .and .i64 a0 65535) 39 < 39 := Int.tmod_lt_of_pos _ (by decide)
  obtain ⟨h, hh⟩ : ∃ h : Nat, wrap64 (2 + Int.tmod (Go.bits .and .i64 a0 65535) 39) = (h : Int) := ⟨(2 + Int.tmod (Go.bits .and .i64 a0 65535) 39).toNat, by rw [w64 (by omega) (by omega)]; omega⟩
  have hr : (h : Int) = 2 + Int.tmod (Go.bits .and .i64 a0 65535) 39 := by rw [← hh]; exact w64 (by omega) (by omega)
  refine Ev.rounds (g := fun k => ashlarlaw10_TraceChain.f k a0 a1) ?_
  unfold ashlarlaw10_TraceChain.f
  rw [hh, w64 (n := -(h : Int)) (by omega) (by omega)]
  exact Ev.bind shown_ok (chain_grow (h := h) (by omega) (by omega) a1 (h - 1) 1 (by omega) (by omega))
end Go.Proofs.Ytbmnoofffodakaa.Pure
