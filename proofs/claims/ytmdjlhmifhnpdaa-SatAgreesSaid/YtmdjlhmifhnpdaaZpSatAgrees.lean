/- The law SatAgrees, in plain Lean: a model agrees with what follows at once, and a conflict at once is No. -/
import Derived.Test.YtmdjlhmifhnpdaaZg
import Derived.IntWalk
import Derived.Test.YtmdjlhmifhnpdaaZlSatAgrees
namespace Go.Proofs.Ytmdjlhmifhnpdaa.Pure
open Go.RowKit Go.Proofs.Ytmdjlhmifhnpdaa.Q Go.Proofs.Ytmdjlhmifhnpdaa.PT Go.Proofs.YtmdjlhmifhnpdaaW.PrintWords Go.Proofs.YtmdjlhmifhnpdaaW.PrintLast Go.Proofs.YtmdjlhmifhnpdaaW.PrintMore

theorem agree_loop {n : Nat} (hn : n ≤ 60) {a : List Int} (ha : a.length = n + 1) {m : List Bool} (r1 : Int) (hm : r1 = 1 → m.length = n + 1) (h : r1 = 1 → ∀ v : Int, 1 ≤ v → v ≤ n → (rd a v > 0 → rdOf false m v = true) ∧ (rd a v < 0 → ¬ rdOf false m v = true)) (d : Nat) : ∀ i : Nat, i + d = n + 1 → 1 ≤ i →
    Ev (fun k => ashlarlaw09_SatAgrees.l0 k (n : Int) true a r1 m (i : Int)) true := by
  induction d with
  | zero =>
    intro i hi h1
    refine Ev.succ ?_
    simp only [ashlarlaw09_SatAgrees.l0]
    refine Ev.neg (by omega) (Ev.succ ?_)
    simp only [ashlarlaw09_SatAgrees.j1]
    exact Ev.neg (by decide) (Ev.some_ _)
  | succ d ih =>
    intro i hi h1
    have hnx : wrap64 ((i : Int) + 1) = ((i + 1 : Nat) : Int) := by rw [w64 (by omega) (by omega)]; omega
    have hih := ih (i + 1) (by omega) (by omega)
    refine Ev.succ ?_
    simp only [ashlarlaw09_SatAgrees.l0]
    refine Ev.pos (by omega) (Ev.succ ?_)
    simp only [ashlarlaw09_SatAgrees.j1]
    rw [hnx]
    by_cases hr : r1 = 1
    · have hml := hm hr
      obtain ⟨g1, g2⟩ := h hr i (by omega) (by omega)
      refine Ev.pos (by rw [hr]; rfl) (Ev.pos (by omega) (Ev.pos (by omega) ?_))
      by_cases c1 : rd a (i : Int) > 0
      · exact Ev.pos c1 (Ev.pos (by omega) (Ev.pos (g1 c1) (Ev.neg (by omega) hih)))
      · by_cases c2 : rd a (i : Int) < 0
        · exact Ev.neg c1 (Ev.pos c2 (Ev.pos (by omega) (Ev.neg (g2 c2) hih)))
        · exact Ev.neg c1 (Ev.neg c2 hih)
    · exact Ev.neg (by simpa using hr) (Ev.some_ _)
theorem lv_repl {n : Nat} {x : Int} (h : lv (List.replicate (n + 1) 0) x ≠ 0) : ¬ SatW.lit n x := by
  rintro ⟨x0, x1, x2⟩
  have hl : (List.replicate (n + 1) (0 : Int)).length = n + 1 := List.length_replicate
  rw [lv_in x0 (by omega) (by omega), rd_repl, rd_repl] at h
  apply h
  split <;> rfl
theorem SatAgrees : ∀ (l0 : List (List Int)) (a1 : Int) (a2 : Int), l0.length ≤ maxLen → (∀ c ∈ l0, c.length ≤ maxLen ∧ ∀ x ∈ c, (Lit.int .i64 x).wf = true) → (Lit.int .i64 a1).wf = true → (Lit.int .i64 a2).wf = true → ∃ k, ashlarlaw09_SatAgrees.f k l0 a1 a2 = some true := by
  intro l0 a1 a2 hl _ _ _
  have hw := few_wfr l0
  have hbl := bits_low a1
  obtain ⟨n, hn⟩ : ∃ n : Nat, Int.tmod (Go.bits .and .i64 a1 65535) 51 = n := ⟨(Int.tmod (Go.bits .and .i64 a1 65535) 51).toNat, by have := Int.tmod_nonneg 51 hbl.1; omega⟩
  have hn50 : n ≤ 50 := by have := Int.tmod_lt_of_pos (Go.bits .and .i64 a1 65535) (b := 51) (by decide); omega
  have hw1 : wrap64 ((n : Int) + 1) = ((n + 1 : Nat) : Int) := by rw [w64 (by omega) (by omega)]; omega
  refine Ev.rounds ?_
  unfold ashlarlaw09_SatAgrees.f
  rw [hn, hw1, Int.toNat_natCast]
  obtain ⟨b, hR, hb⟩ := right_ok (n : Int) hw.1
  refine Ev.bind shown_ok (Ev.bind (few_ok l0 hl) (Ev.bind hR ?_))
  by_cases hP : RightP (fewF l0) (n : Int)
  · refine Ev.pos (hb.2 hP) (Ev.pos (by omega) (Ev.pos (by omega) ?_))
    obtain ⟨z, c, hU, hRun⟩ := refUnit_ok hw.1 (a := List.replicate (n + 1) 0) (by rw [List.length_replicate]; omega)
    have hlz : z.length = n + 1 := by rw [hRun.length, List.length_replicate]
    have hlit := hP.2
    rw [Int.toNat_natCast] at hlit
    refine Ev.bind hU ?_
    cases c with
    | true =>
      have hRup : SatW.Rup (fewF l0) [] := (run_rup hRun (c := []) (fun d hd x hx => by
        obtain ⟨x0, x1, x2⟩ := hlit d hd x hx
        rw [List.length_replicate]
        exact ⟨x0, by omega, by omega⟩) (fun x hx => by cases hx) (fun x hx => by cases hx) (fun j _ _ => by rw [rd_repl]; simp)).1 rfl
      obtain ⟨k, hk⟩ := SatW.solve_conflict (mn a2 500) (rightF_P.2 hP) hw.1.2 (by have := hw.2; omega) hRup
      exact Ev.bind (solve_ev hk) (Ev.pos rfl (Ev.pos rfl (Ev.pos rfl (Ev.some_ _))))
    | false =>
      obtain ⟨r, hE, hF, _⟩ := solve_fit (fuel := mn a2 500) hw.1 hw.2 hP (by unfold mn; split <;> omega)
      refine Ev.bind hE (Ev.neg (by simp) ?_)
      refine agree_loop (by omega) hlz r.1 (fun h => by have := (hF.yes h).1; omega) (fun h v v1 v2 => ?_) n 1 (by omega) (by omega)
      obtain ⟨y1, y2, y3⟩ := hF.yes h
      have hml : r.2.1.length = n + 1 := by omega
      obtain ⟨s, _, hs1, hs2⟩ := signs_ok (m := r.2.1) (by omega) (by omega)
      have hagr : Agr (List.replicate (n + 1) 0) s := fun x hx => by
        have hnl := lv_repl hx
        rw [lv_out (a := s) (fun k => hnl ⟨k.1, by omega, by omega⟩), lv_out (a := List.replicate (n + 1) 0) (fun k => hnl ⟨k.1, by have := k.2.2; rw [List.length_replicate] at this; omega, by have := k.2.1; rw [List.length_replicate] at this; omega⟩)]
      have hsd := (hRun.sound (z := s) (fun c hc => by
        obtain ⟨x, hx, e⟩ := y3 c hc
        exact truB_iff.2 ⟨x, hx, by rw [signs_lv hml hs1 hs2 (hlit c hc x hx)]; exact e⟩) hagr).1 v
      rw [lv_pos (by omega) (by omega), signs_lv hml hs1 hs2 ⟨by omega, by omega, by omega⟩] at hsd
      unfold mlv at hsd
      rw [if_pos (by omega)] at hsd
      refine ⟨fun hp => ?_, fun hp => ?_⟩
      · rcases sg_cases (rd z v) with e | e | e
        · rw [e.1] at hsd
          have := hsd (by decide)
          split at this
          · assumption
          · cases this
        · omega
        · omega
      · rcases sg_cases (rd z v) with e | e | e
        · omega
        · rw [e.1] at hsd
          have := hsd (by decide)
          split at this
          · cases this
          · assumption
        · omega
  · exact Ev.neg (fun h => hP (hb.1 h)) (Ev.some_ _)
end Go.Proofs.Ytmdjlhmifhnpdaa.Pure
