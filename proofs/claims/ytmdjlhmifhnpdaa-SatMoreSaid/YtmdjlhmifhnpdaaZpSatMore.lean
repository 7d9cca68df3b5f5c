/- The law SatMore, in plain Lean: a clause more makes no model. -/
import Derived.Test.YtmdjlhmifhnpdaaZg
import Derived.IntWalk
import Derived.Test.YtmdjlhmifhnpdaaZlSatMore
namespace Go.Proofs.Ytmdjlhmifhnpdaa.Pure
set_option linter.unusedVariables false
open Go.RowKit Go.Proofs.Ytmdjlhmifhnpdaa.Q Go.Proofs.Ytmdjlhmifhnpdaa.PT Go.Proofs.YtmdjlhmifhnpdaaW.PrintWords Go.Proofs.YtmdjlhmifhnpdaaW.PrintLast Go.Proofs.YtmdjlhmifhnpdaaW.PrintMore

theorem few_idem (l : List (List Int)) : fewF (fewF l) = fewF l := by
  have h := few_small l
  obtain ⟨L, hL⟩ : ∃ L, fewF l = L := ⟨_, rfl⟩
  rw [hL] at h ⊢
  unfold fewF
  rw [List.take_of_length_le h.1]
  refine (List.map_congr_left (g := id) fun c hc => ?_).trans (List.map_id _)
  exact List.take_of_length_le (h.2 c hc)
theorem mod_congr {l : List (List Int)} {n : Nat} (hlit : ∀ c ∈ l, ∀ x ∈ c, SatW.lit n x) {a b : List Bool} (h : ∀ j : Int, 1 ≤ j → j ≤ n → rdOf false a j = rdOf false b j) (hm : Mod l a) : Mod l b := by
  intro c hc
  obtain ⟨x, hx, e⟩ := hm c hc
  obtain ⟨x0, x1, x2⟩ := hlit c hc x hx
  refine ⟨x, hx, ?_⟩
  unfold mlv at e ⊢
  by_cases hp : 0 < x
  · rw [if_pos hp] at e ⊢
    rw [← h x (by omega) (by omega)]; exact e
  · rw [if_neg hp] at e ⊢
    rw [← h (-x) (by omega) (by omega)]; exact e
theorem rdOf_app (a b : List Bool) (j : Int) (h : j.toNat < a.length) : rdOf false (a ++ b) j = rdOf false a j := by
  unfold rdOf
  rw [List.getD_eq_getElem?_getD, List.getD_eq_getElem?_getD, List.getElem?_append_left h]
theorem rdOf_take (a : List Bool) (n : Nat) (j : Int) (h : j.toNat < n) : rdOf false (a.take n) j = rdOf false a j := by
  unfold rdOf
  rw [List.getD_eq_getElem?_getD, List.getD_eq_getElem?_getD, List.getElem?_take, if_pos h]
theorem good_yes {l : List (List Int)} {n : Nat} {m : List Bool} (hl : WfR l) (hlit : ∀ c ∈ l, ∀ x ∈ c, SatW.lit n x) (hn : n ≤ 10000) (hm : m.length = n + 1) (hz : rdOf false m 0 = false) (hMod : Mod l m) : Ev (fun k => ashlarref09_Good.f k l (n : Int) 1 m []) true := by
  have hw : wrap64 ((n : Int) + 1) = (n : Int) + 1 := w64 (by omega) (by omega)
  unfold ashlarref09_Good.f
  refine Ev.pos rfl (Ev.pos rfl ?_)
  rw [hw]
  refine Ev.pos (by omega) (Ev.pos (by omega) (Ev.neg (by rw [hz]; simp) ?_))
  refine evalm_ok hl hm (by omega) hlit (F := fun _ t281 => some (t281 == 1)) (fun v hv => ?_)
  rw [hv.2 hMod]
  exact Ev.some_ _
theorem SatMore : ∀ (l0 : List (List Int)) (l1 : List Int) (a2 : Int), l0.length ≤ maxLen → (∀ c ∈ l0, c.length ≤ maxLen ∧ ∀ x ∈ c, (Lit.int .i64 x).wf = true) → l1.length ≤ maxLen → (∀ x ∈ l1, (Lit.int .i64 x).wf = true) → (Lit.int .i64 a2).wf = true → ∃ k, ashlarlaw09_SatMore.f k l0 l1 a2 = some true := by
  intro l0 l1 a2 hl _ hl1 _ _
  have hw := few_wfr l0
  have h40 := (few_small l0).1
  have hfe := few_ok (fewF l0) (Nat.le_trans h40 (by decide))
  rw [few_idem] at hfe
  have hbl := bits_low a2
  obtain ⟨n, hn⟩ : ∃ n : Nat, Int.tmod (Go.bits .and .i64 a2 65535) 6 = n := ⟨(Int.tmod (Go.bits .and .i64 a2 65535) 6).toNat, by have := Int.tmod_nonneg 6 hbl.1; omega⟩
  have hn5 : n ≤ 5 := by have := Int.tmod_lt_of_pos (Go.bits .and .i64 a2 65535) (b := 6) (by decide); omega
  have hw3 : wrap64 ((n : Int) + 3) = ((n + 3 : Nat) : Int) := by rw [w64 (by omega) (by omega)]; omega
  have hmn := mn_val l1.length 10 (by decide)
  have e10 : ((10 : Int).toNat) = 10 := rfl
  have hc10 : (l1.take 10).length ≤ 10 := List.length_take_le _ _
  obtain ⟨L, hL⟩ : ∃ L, fewF l0 = L := ⟨_, rfl⟩
  obtain ⟨M, hM⟩ : ∃ M, L ++ [l1.take 10] = M := ⟨_, rfl⟩
  have hwM : WfR M ∧ M.length ≤ 90000 := by
    rw [← hM, ← hL]
    refine ⟨⟨by rw [List.length_append]; simp; omega, fun c hc => ?_⟩, by rw [List.length_append]; simp; omega⟩
    rcases List.mem_append.1 hc with h | h
    · exact hw.1.2 c h
    · rw [List.mem_singleton.1 h]; omega
  have hsub : ∀ c ∈ L, c ∈ M := fun c hc => by rw [← hM]; simp [hc]
  refine Ev.rounds ?_
  unfold ashlarlaw09_SatMore.f
  rw [hn, hw3, take_mn l1 10 (by decide), e10]
  refine Ev.bind shown_ok (Ev.bind (few_ok l0 hl) (Ev.bind hfe ?_))
  simp only [Option.bind_some]
  rw [List.nil_append, hL, hM]
  rw [hL] at hw h40
  refine Ev.pos hmn.2.1 (Ev.pos hmn.2.2 (Ev.pos (by simp only [List.length_nil]; omega) (Ev.pos (by omega) ?_)))
  obtain ⟨b, hR, hb⟩ := right_ok (n : Int) hwM.1
  refine Ev.bind hR ?_
  by_cases hP : RightP M (n : Int)
  · refine Ev.pos (hb.2 hP) ?_
    have hlM := hP.2
    rw [Int.toNat_natCast] at hlM
    have hlL : ∀ c ∈ L, ∀ x ∈ c, SatW.lit n x := fun c hc => hlM c (hsub c hc)
    have hPL : RightP L (n : Int) := ⟨hP.1, fun c hc => hP.2 c (hsub c hc)⟩
    have hPL3 : RightP L ((n + 3 : Nat) : Int) := ⟨⟨by omega, by omega⟩, fun c hc x hx => by
      obtain ⟨x0, x1, x2⟩ := hlL c hc x hx
      rw [Int.toNat_natCast]
      exact ⟨x0, by omega, by omega⟩⟩
    have p5 : 3 ^ n ≤ 243 := Nat.pow_le_pow_right (n := 3) (by decide) hn5
    have p8 : 3 ^ (n + 3) ≤ 6561 := Nat.le_trans (Nat.pow_le_pow_right (by decide) (show n + 3 ≤ 8 by omega)) (by decide)
    obtain ⟨r1, hE1, hF1, hn1⟩ := solve_fit (fuel := 243) hw.1 hw.2 hPL (by decide)
    obtain ⟨r2, hE2, hF2, hn2⟩ := solve_fit (fuel := 243) hwM.1 hwM.2 hP (by decide)
    obtain ⟨r3, hE3, hF3, hn3⟩ := solve_fit (fuel := 6561) hw.1 hw.2 hPL3 (by decide)
    rw [Int.toNat_natCast] at hn1 hn2 hn3
    have g1 := hn1 (by omega)
    have g2 := hn2 (by omega)
    have g3 := hn3 (by omega)
    have mono : ∀ m, Mod M m → Mod L m := fun m h c hc => h c (hsub c hc)
    have k1 : r1.1 = 2 → r2.1 = 2 := fun h => by
      rcases hF2.three with e | e | e
      · exact absurd e g2
      · obtain ⟨y1, _, y3⟩ := hF2.yes e
        exact absurd (mono _ y3) (hF1.no h _ y1)
      · exact e
    have k2 : (r1.1 != r3.1) = false := by
      have : r1.1 = r3.1 := by
        rcases hF1.three with e | e | e
        · exact absurd e g1
        · rcases hF3.three with f | f | f
          · exact absurd f g3
          · rw [e, f]
          · obtain ⟨y1, _, y3⟩ := hF1.yes e
            refine absurd (mod_congr (b := r1.2.1 ++ [false, false, false]) hlL (fun j j1 j2 => (rdOf_app _ _ _ (by omega)).symm) y3) (hF3.no f _ (by rw [List.length_append]; simp; omega))
        · rcases hF3.three with f | f | f
          · exact absurd f g3
          · obtain ⟨y1, _, y3⟩ := hF3.yes f
            refine absurd (mod_congr (b := r3.2.1.take (n + 1)) hlL (fun j j1 j2 => (rdOf_take _ _ _ (by omega)).symm) y3) (hF1.no e _ (by rw [List.length_take]; omega))
          · rw [e, f]
      rw [this]; simp
    refine Ev.bind hE1 (Ev.bind hE2 (Ev.bind hE3 ?_))
    rw [k2]
    have fin : Ev (fun k => ashlarlaw09_SatMore.j0 k L (n : Int) true r2.1 r2.2.1 false) true := by
      refine Ev.succ ?_
      simp only [ashlarlaw09_SatMore.j0]
      refine Ev.neg (by decide) (Ev.pos trivial ?_)
      by_cases h : r2.1 = 1
      · obtain ⟨y1, y2, y3⟩ := hF2.yes h
        exact Ev.pos h (Ev.bind (good_yes hw.1 hlL (by omega) (by omega) y2 (mono _ y3)) (Ev.some_ _))
      · exact Ev.neg h (Ev.some_ _)
    by_cases h : r1.1 = 2
    · exact Ev.pos h (Ev.pos (k1 h) fin)
    · exact Ev.neg h fin
  · exact Ev.neg (fun h => hP (hb.1 h)) (Ev.some_ _)
end Go.Proofs.Ytmdjlhmifhnpdaa.Pure
