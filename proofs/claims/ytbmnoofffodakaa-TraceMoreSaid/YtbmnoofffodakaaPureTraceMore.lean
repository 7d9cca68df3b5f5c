/- The law TraceMore, in plain Lean: more clauses, and lemmas that follow, do no harm. -/
import Derived.Test.YtbmnoofffodakaaTraceFew
import Derived.Test.YtbmnoofffodakaaTraceBits
import Derived.Test.YtbmnoofffodakaaQx10
import Derived.IntWalk
namespace Go.Proofs.Ytbmnoofffodakaa.Pure
set_option linter.unusedVariables false
open Go.RowKit Go.Proofs.Ytbmnoofffodakaa.Q Go.Proofs.Ytbmnoofffodakaa.PT Go.Proofs.YtbmnoofffodakaaW.PrintWords Go.Proofs.YtbmnoofffodakaaW.PrintLast Go.Proofs.YtbmnoofffodakaaW.PrintMore

theorem chain_more (m : List (List Int)) : ∀ (L M : List (List Int)), (∀ d ∈ L, d ∈ M) → Chain L m → Chain M m := by
  induction m with
  | nil => intro L M _ _; trivial
  | cons c m ih =>
    intro L M hs h
    exact ⟨h.1.more hs, ih _ _ (fun d hd => by
      rcases List.mem_append.1 hd with k | k
      · exact List.mem_append.2 (.inl (hs d k))
      · exact List.mem_append.2 (.inr k)) h.2⟩
theorem chain_app (p q : List (List Int)) : ∀ (L : List (List Int)), Chain L (p ++ q) ↔ Chain L p ∧ Chain (L ++ p) q := by
  induction p with
  | nil => intro L; simp [Chain]
  | cons c p ih =>
    intro L
    show Rup L c ∧ Chain (L ++ [c]) (p ++ q) ↔ (Rup L c ∧ Chain (L ++ [c]) p) ∧ Chain (L ++ c :: p) q
    rw [ih, List.append_assoc, List.singleton_append, and_assoc]
/-- A clause that is there follows. -/
theorem rup_mem {L : List (List Int)} {c : List Int} (h : c ∈ L) : Rup L c := by
  rintro ⟨F, hv, hF, hI⟩
  rcases hI c h with ⟨x, hx, e⟩ | ⟨x, hx, y, hy, hn, e1, e2⟩
  · have := hF x hx; omega
  · have := hF x hx; omega
theorem okay_more {l l' m : List (List Int)} (h : Okay l m) (hs : ∀ d ∈ l, d ∈ l') (hsm : ∀ d ∈ l', Small d) : Okay l' m := by
  refine ⟨fun c hc => ?_, h.2.1, chain_more m _ _ hs h.2.2⟩
  rcases List.mem_append.1 hc with k | k
  · exact hsm c k
  · exact h.1 c (List.mem_append.2 (.inr k))
theorem okay_twice {l m : List (List Int)} (h : Okay l m) {q : Nat} (hq : q < m.length) : Okay l (m.take q ++ [rd_L1 m (q : Int)] ++ m.drop q) := by
  obtain ⟨h1, ⟨i, hi⟩, h3⟩ := h
  have hrd : rd_L1 m (q : Int) = m[q] := by
    unfold rd_L1
    rw [Int.toNat_natCast, List.getD_eq_getElem?_getD, List.getElem?_eq_getElem hq]; rfl
  have hdr : m.drop q = m[q] :: m.drop (q + 1) := List.drop_eq_getElem_cons hq
  rw [hrd]
  refine ⟨fun c hc => ?_, ⟨m.take q ++ [m[q]] ++ i.drop q, ?_⟩, ?_⟩
  · rcases List.mem_append.1 hc with k | k
    · exact h1 c (List.mem_append.2 (.inl k))
    · refine h1 c (List.mem_append.2 (.inr ?_))
      rcases List.mem_append.1 k with k | k
      · rcases List.mem_append.1 k with k | k
        · exact List.mem_of_mem_take k
        · rw [List.mem_singleton.1 k]; exact List.getElem_mem hq
      · exact List.mem_of_mem_drop k
  · rw [List.append_assoc (m.take q ++ [m[q]])]
    congr 1
    have hl : q ≤ i.length := by have := hq; rw [hi, List.length_append, List.length_singleton] at this; omega
    rw [hi, List.drop_append_of_le_length hl]
  · have e : m = m.take q ++ m.drop q := (List.take_append_drop q m).symm
    rw [e, chain_app] at h3
    rw [List.append_assoc, chain_app]
    refine ⟨h3.1, ?_⟩
    have h4 := h3.2
    have h5 : Rup (l ++ m.take q) m[q] := by
      rw [hdr] at h4
      exact h4.1
    exact ⟨h5, chain_more _ _ _ (fun d hd => List.mem_append.2 (.inl hd)) h4⟩
theorem okay_ahead {l m : List (List Int)} (h : Okay l m) {c : List Int} (hc : c ∈ l) : Okay l ([c] ++ m) := by
  obtain ⟨h1, ⟨i, hi⟩, h3⟩ := h
  refine ⟨fun d hd => ?_, ⟨c :: i, by rw [hi]; rfl⟩, ?_⟩
  · rcases List.mem_append.1 hd with k | k
    · exact h1 d (List.mem_append.2 (.inl k))
    · rcases List.mem_append.1 k with k | k
      · rw [List.mem_singleton.1 k]; exact h1 c (List.mem_append.2 (.inl hc))
      · exact h1 d (List.mem_append.2 (.inr k))
  · exact ⟨rup_mem hc, chain_more _ _ _ (fun d hd => List.mem_append.2 (.inl hd)) h3⟩
theorem wfc_app {a b : List (List Int)} (ha : WfC a) (hb : WfC b) (hl : a.length + b.length ≤ 1000) : WfC (a ++ b) := ⟨by rw [List.length_append]; omega, fun c hc => (List.mem_append.1 hc).elim (ha.2 c) (hb.2 c)⟩
theorem wfc_sub {a b : List (List Int)} (hb : WfC b) (h : ∀ c ∈ a, c ∈ b) (hl : a.length ≤ 1000) : WfC a := ⟨by omega, fun c hc => hb.2 c (h c hc)⟩
theorem rd_mem {l : List (List Int)} {q : Int} (h0 : 0 ≤ q) (h1 : q < (l.length : Int)) : rd_L1 l q ∈ l := by
  unfold rd_L1
  rw [List.getD_eq_getElem?_getD, List.getElem?_eq_getElem (show q.toNat < l.length by omega)]
  exact List.getElem_mem _
theorem more_end {L M : List (List Int)} {C : List Int} (a3 : Int) (hL : WfC L) (hM : WfC M) (hLl : L.length ≤ 40) (hMl : M.length ≤ 40) (hC : C.length ≤ 10) (hCs : Small C) (h : Okay L M) : Ev (fun k => ashlarlaw10_TraceMore.t k L M C a3) true := by
  have hm0 : 0 < M.length := by
    obtain ⟨i, hi⟩ := h.2.1
    rw [hi]; simp
  have hb := bits_low a3
  have q0 := Int.tmod_nonneg (M.length : Int) hb.1
  have q1 := Int.tmod_lt_of_pos (Go.bits .and .i64 a3 65535) (b := (M.length : Int)) (by omega)
  obtain ⟨q, hq⟩ : ∃ q : Nat, Int.tmod (Go.bits .and .i64 a3 65535) (M.length : Int) = (q : Int) := ⟨(Int.tmod (Go.bits .and .i64 a3 65535) (M.length : Int)).toNat, by omega⟩
  have hwC : WfC [C] := ⟨by simp, fun c hc => by rw [List.mem_singleton.1 hc]; omega⟩
  have hsm : ∀ d ∈ L, Small d := fun d hd => h.1 d (List.mem_append.2 (.inl hd))
  unfold ashlarlaw10_TraceMore.t
  rw [hq, Int.toNat_natCast]
  rw [hq] at q0 q1
  refine Ev.neg (by omega) (Ev.pos ⟨by omega, by omega⟩ ?_)
  have hwT : WfC (M.take q ++ [rd_L1 M (q : Int)] ++ M.drop q) := wfc_sub hM (fun c hc => by
    rcases List.mem_append.1 hc with k | k
    · rcases List.mem_append.1 k with k | k
      · exact List.mem_of_mem_take k
      · rw [List.mem_singleton.1 k]; exact rd_mem q0 q1
    · exact List.mem_of_mem_drop k) (by simp only [List.length_append, List.length_take, List.length_drop, List.length_singleton]; omega)
  have hlT : (M.take q ++ [rd_L1 M (q : Int)] ++ M.drop q).length ≤ 1000 := by simp only [List.length_append, List.length_take, List.length_drop, List.length_singleton]; omega
  obtain ⟨r1, hE1, h1⟩ := check_ok (l := L ++ [C]) (m := M) (wfc_app hL hwC (by simp; omega)) hM ⟨by rw [List.length_append, List.length_singleton]; omega, by omega⟩
  obtain ⟨r2, hE2, h2⟩ := check_ok (l := L) (m := M.take q ++ [rd_L1 M (q : Int)] ++ M.drop q) hL hwT ⟨by omega, by omega⟩
  obtain ⟨r4, hE4, h4⟩ := check_ok (l := [C] ++ L) (m := M) (wfc_app hwC hL (by simp; omega)) hM ⟨by rw [List.length_append, List.length_singleton]; omega, by omega⟩
  have e1 : r1 = true := h1.2 (okay_more h (fun d hd => by simp [hd]) (fun d hd => by
    rcases List.mem_append.1 hd with k | k
    · exact hsm d k
    · rw [List.mem_singleton.1 k]; exact hCs))
  have e2 : r2 = true := h2.2 (okay_twice h (by omega))
  have e4 : r4 = true := h4.2 (okay_more h (fun d hd => by simp [hd]) (fun d hd => by
    rcases List.mem_append.1 hd with k | k
    · rw [List.mem_singleton.1 k]; exact hCs
    · exact hsm d k))
  subst e1 e2 e4
  refine Ev.bind hE1 (Ev.pos rfl (Ev.bind hE2 (Ev.pos rfl ?_)))
  by_cases hL0 : 0 < L.length
  · rw [if_pos hL0]
    have s0 := Int.tmod_nonneg (L.length : Int) hb.1
    have s1 := Int.tmod_lt_of_pos (Go.bits .and .i64 a3 65535) (b := (L.length : Int)) (by omega)
    have hmem := rd_mem s0 s1
    obtain ⟨c, hc⟩ : ∃ c, rd_L1 L (Int.tmod (Go.bits .and .i64 a3 65535) (L.length : Int)) = c := ⟨_, rfl⟩
    rw [hc] at hmem ⊢
    have hwc : WfC [c] := ⟨by simp, fun d hd => by rw [List.mem_singleton.1 hd]; exact hL.2 c hmem⟩
    obtain ⟨r3, hE3, h3⟩ := check_ok (l := L) (m := [c] ++ M) hL (wfc_app hwc hM (by simp; omega)) ⟨by omega, by rw [List.length_append, List.length_singleton]; omega⟩
    have e3 : r3 = true := h3.2 (okay_ahead h hmem)
    subst e3
    exact Ev.bind hE3 (Ev.pos rfl hE4)
  · rw [if_neg hL0]
    obtain ⟨r3, hE3, h3⟩ := check_ok (l := L) (m := M) hL hM ⟨by omega, by omega⟩
    have e3 : r3 = true := h3.2 h
    subst e3
    exact Ev.bind hE3 (Ev.pos rfl hE4)
theorem more_loop {L M : List (List Int)} {C : List Int} (a3 : Int) (hL : WfC L) (hM : WfC M) (hLl : L.length ≤ 40) (hMl : M.length ≤ 40) (hC : C.length ≤ 10) (h : Okay L M) (rest : List Int) : ∀ pre : List Int, pre ++ rest = C → Small pre → Ev (fun k => ashlarlaw10_TraceMore.l0 k L M C a3 (pre.length : Int)) true := by
  induction rest with
  | nil =>
    intro pre hp hs
    rw [List.append_nil] at hp
    subst hp
    refine Ev.succ ?_
    simp only [ashlarlaw10_TraceMore.l0]
    exact Ev.neg (by omega) (more_end a3 hL hM hLl hMl hC hs h)
  | cons x rest ih =>
    intro pre hp hs
    have hll : C.length = pre.length + rest.length + 1 := by rw [← hp]; simp; omega
    have hnx : wrap64 ((pre.length : Int) + 1) = ((pre ++ [x]).length : Int) := by rw [w64 (by omega) (by omega)]; simp
    have hx : rd C (pre.length : Int) = x := by rw [← hp]; exact rd_mid _ _ _
    refine Ev.succ ?_
    simp only [ashlarlaw10_TraceMore.l0, hx]
    rw [hnx]
    refine Ev.pos (by omega) (Ev.pos (by omega) ?_)
    by_cases k1 : x = 0
    · exact Ev.pos k1 (Ev.some_ _)
    · by_cases k2 : x < -10000
      · exact Ev.neg k1 (Ev.pos k2 (Ev.some_ _))
      · by_cases k3 : x > 10000
        · exact Ev.neg k1 (Ev.neg k2 (Ev.pos k3 (Ev.some_ _)))
        · refine Ev.neg k1 (Ev.neg k2 (Ev.neg k3 (ih (pre ++ [x]) (by rw [← hp]; simp) (fun y hy => ?_))))
          rcases List.mem_append.1 hy with k | k
          · exact hs y k
          · rw [List.mem_singleton.1 k]; exact ⟨k1, by omega, by omega⟩
theorem TraceMore : ∀ (l0 : List (List Int)) (l1 : List (List Int)) (l2 : List Int) (a3 : Int), l0.length ≤ maxLen → (∀ c ∈ l0, c.length ≤ maxLen ∧ ∀ x ∈ c, (Lit.int .i64 x).wf = true) → l1.length ≤ maxLen → (∀ c ∈ l1, c.length ≤ maxLen ∧ ∀ x ∈ c, (Lit.int .i64 x).wf = true) → l2.length ≤ maxLen → (∀ x ∈ l2, (Lit.int .i64 x).wf = true) → (Lit.int .i64 a3).wf = true → ∃ k, ashlarlaw10_TraceMore.f k l0 l1 l2 a3 = some true := by
  intro l0 l1 l2 a3 hl0 _ hl1 _ hl2 _ _
  have s0 := few_small l0
  have s1 := few_small l1
  have hmn := mn_val l2.length 10 (by decide)
  have e10 : ((10 : Int).toNat) = 10 := rfl
  obtain ⟨r, hE, hr⟩ := check_ok (few_wf l0) (few_wf l1) ⟨by omega, by omega⟩
  refine Ev.rounds ?_
  unfold ashlarlaw10_TraceMore.f
  rw [take_mn l2 10 (by decide), e10]
  refine Ev.bind shown_ok (Ev.pos rfl (Ev.bind (few_ok l0 hl0) (Ev.bind (few_ok l1 hl1) (Ev.bind hE ?_))))
  cases r with
  | false => exact Ev.neg (by decide) (Ev.some_ _)
  | true => exact Ev.pos rfl (more_loop a3 (few_wf l0) (few_wf l1) s0.1 s1.1 (List.length_take_le _ _) (hr.1 rfl) (l2.take 10) [] rfl (fun x hx => by cases hx))
end Go.Proofs.Ytbmnoofffodakaa.Pure
