/- The law SatTurned, in plain Lean: which way a variable is counted does not matter. -/
import Derived.Test.YtmdjlhmifhnpdaaZg
import Derived.Test.YtmdjlhmifhnpdaaZh
import Derived.IntWalk
import Derived.Test.YtmdjlhmifhnpdaaZlSatTurned
namespace Go.Proofs.Ytmdjlhmifhnpdaa.Pure
set_option linter.unusedVariables false
open Go.RowKit Go.Proofs.Ytmdjlhmifhnpdaa.Q Go.Proofs.Ytmdjlhmifhnpdaa.PT Go.Proofs.YtmdjlhmifhnpdaaW.PrintWords Go.Proofs.YtmdjlhmifhnpdaaW.PrintLast Go.Proofs.YtmdjlhmifhnpdaaW.PrintMore

theorem few_idem (l : List (List Int)) : fewF (fewF l) = fewF l := by
  have h := few_small l
  obtain ⟨L, hL⟩ : ∃ L, fewF l = L := ⟨_, rfl⟩
  rw [hL] at h ⊢
  unfold fewF
  rw [List.take_of_length_le h.1]
  refine (List.map_congr_left (g := id) fun c hc => ?_).trans (List.map_id _)
  exact List.take_of_length_le (h.2 c hc)
/-- A literal with one variable turned. -/
def tn (v x : Int) : Int := if x = v ∨ x = -v then -x else x
def tnL (v : Int) (l : List (List Int)) : List (List Int) := l.map (·.map (tn v))
theorem tn_tn (v x : Int) : tn v (tn v x) = x := by
  by_cases h : x = v ∨ x = -v
  · have e : tn v x = -x := if_pos h
    rw [e]
    have e2 : tn v (-x) = - -x := if_pos (by omega)
    rw [e2, Int.neg_neg]
  · have e : tn v x = x := if_neg h
    rw [e, e]
theorem mlv_p {m : List Bool} {x : Int} (h : 0 < x) : mlv m x = if rdOf false m x = true then 1 else -1 := if_pos h
theorem mlv_n {m : List Bool} {x : Int} (h : ¬ 0 < x) : mlv m x = if rdOf false m (-x) = true then -1 else 1 := if_neg h
theorem tnL_tnL (v : Int) (l : List (List Int)) : tnL v (tnL v l) = l := by
  unfold tnL
  rw [List.map_map]
  refine (List.map_congr_left (g := id) fun c hc => ?_).trans (List.map_id _)
  show (c.map (tn v)).map (tn v) = c
  rw [List.map_map]
  refine (List.map_congr_left (g := id) fun x hx => ?_).trans (List.map_id _)
  exact tn_tn v x
theorem tn_lit {n : Nat} {v x : Int} (h : SatW.lit n x) : SatW.lit n (tn v x) := by
  obtain ⟨x0, x1, x2⟩ := h
  unfold tn
  split
  · exact ⟨by omega, by omega, by omega⟩
  · exact ⟨x0, x1, x2⟩
theorem tnL_lit {n : Nat} {v : Int} {l : List (List Int)} (h : ∀ c ∈ l, ∀ x ∈ c, SatW.lit n x) : ∀ c ∈ tnL v l, ∀ x ∈ c, SatW.lit n x := by
  intro c hc x hx
  obtain ⟨d, hd, rfl⟩ := List.mem_map.1 hc
  obtain ⟨y, hy, rfl⟩ := List.mem_map.1 hx
  exact tn_lit (h d hd y hy)
theorem rdOf_set (m : List Bool) (i : Nat) (v : Bool) (j : Int) (hj : 0 ≤ j) : rdOf false (m.set i v) j = if j = (i : Int) ∧ i < m.length then v else rdOf false m j := by
  unfold rdOf
  rw [List.getD_eq_getElem?_getD, List.getD_eq_getElem?_getD, List.getElem?_set]
  by_cases h : i = j.toNat
  · by_cases hl : i < m.length
    · rw [if_pos h, if_pos (by omega), if_pos (by omega)]; rfl
    · rw [if_pos h, if_neg (by omega), if_neg (by omega)]
      rw [List.getElem?_eq_none (by omega)]
  · rw [if_neg h, if_neg (by omega)]
theorem rdOf_set_eq (m : List Bool) (i : Nat) (v : Bool) (h : i < m.length) : rdOf false (m.set i v) (i : Int) = v := by rw [rdOf_set _ _ _ _ (by omega), if_pos ⟨rfl, h⟩]
theorem rdOf_set_ne (m : List Bool) (i : Nat) (v : Bool) (j : Int) (hj : 0 ≤ j) (h : j ≠ (i : Int)) : rdOf false (m.set i v) j = rdOf false m j := by rw [rdOf_set _ _ _ _ hj, if_neg (fun k => h k.1)]
/-- A model with one variable turned. -/
def flip (v : Nat) (m : List Bool) : List Bool := m.set v (!(rdOf false m (v : Int)))
theorem mlv_flip {n v : Nat} {m : List Bool} (hm : m.length = n + 1) (h1 : 1 ≤ v) (h2 : v ≤ n) {x : Int} (hx : SatW.lit n x) : mlv (flip v m) (tn v x) = mlv m x := by
  obtain ⟨x0, x1, x2⟩ := hx
  unfold flip
  obtain ⟨b, hb⟩ : ∃ b, rdOf false m (v : Int) = b := ⟨_, rfl⟩
  rw [hb]
  by_cases e1 : x = (v : Int)
  · have e : tn (v : Int) x = -x := if_pos (.inl e1)
    rw [e]
    subst e1
    rw [mlv_n (by omega), mlv_p (by omega), Int.neg_neg, rdOf_set_eq _ _ _ (by omega), hb]
    cases b <;> rfl
  · by_cases e2 : x = -(v : Int)
    · have e : tn (v : Int) x = -x := if_pos (.inr e2)
      rw [e]
      subst e2
      rw [Int.neg_neg, mlv_p (by omega), mlv_n (by omega), Int.neg_neg, rdOf_set_eq _ _ _ (by omega), hb]
      cases b <;> rfl
    · have e : tn (v : Int) x = x := if_neg (by omega)
      rw [e]
      by_cases p : 0 < x
      · rw [mlv_p p, mlv_p p, rdOf_set_ne _ _ _ _ (by omega) e1]
      · rw [mlv_n p, mlv_n p, rdOf_set_ne _ _ _ _ (by omega) (by omega)]
theorem mod_flip {n v : Nat} {m : List Bool} {l : List (List Int)} (hl : ∀ c ∈ l, ∀ x ∈ c, SatW.lit n x) (hm : m.length = n + 1) (h1 : 1 ≤ v) (h2 : v ≤ n) (h : Mod l m) : Mod (tnL v l) (flip v m) := by
  intro c hc
  obtain ⟨d, hd, rfl⟩ := List.mem_map.1 hc
  obtain ⟨x, hx, e⟩ := h d hd
  exact ⟨tn v x, List.mem_map.2 ⟨x, hx, rfl⟩, by rw [mlv_flip hm h1 h2 (hl d hd x hx)]; exact e⟩
theorem set_mid {α : Type} (pre rest : List α) (x y : α) : (pre ++ x :: rest).set pre.length y = pre ++ y :: rest := by
  rw [List.set_append_right _ _ (Nat.le_refl _), Nat.sub_self, List.set_cons_zero]
/-- One row is turned. -/
theorem turn_row {L : List (List Int)} {n : Nat} {v : Nat} (hn : n ≤ 5) (hv : v ≤ n) (D R : List (List Int)) (hD : (D.length : Int) + R.length < 1000) {c0 : List Int} (hc0 : c0.length ≤ 1000) (hlit : ∀ x ∈ c0, SatW.lit n x) {b : Bool} (next : Ev (fun k => ashlarlaw09_SatTurned.l0 k L (n : Int) (v : Int) true (D ++ c0.map (tn v) :: R) ((D.length + 1 : Nat) : Int)) b) (cr : List Int) : ∀ cp : List Int, cp ++ cr = c0 →
    Ev (fun k => ashlarlaw09_SatTurned.l1 k L (n : Int) (v : Int) true (D ++ (cp.map (tn v) ++ cr) :: R) (D.length : Int) (cp.length : Int)) b := by
  induction cr with
  | nil =>
    intro cp hp
    rw [List.append_nil] at hp
    subst hp
    rw [List.append_nil]
    have hll : (D ++ cp.map (tn v) :: R).length = D.length + R.length + 1 := by simp; omega
    have hnx : wrap64 ((D.length : Int) + 1) = ((D.length + 1 : Nat) : Int) := by rw [w64 (by omega) (by omega)]; omega
    refine Ev.succ ?_
    simp only [ashlarlaw09_SatTurned.l1, rd_L2_mid]
    rw [hnx]
    exact Ev.pos (by omega) (Ev.pos (by omega) (Ev.neg (by simp) next))
  | cons x cr ih =>
    intro cp hp
    have hcl : c0.length = cp.length + cr.length + 1 := by rw [← hp]; simp; omega
    have hx := hlit x (by rw [← hp]; simp)
    obtain ⟨x0, x1, x2⟩ := hx
    have hml : (cp.map (tn v)).length = cp.length := List.length_map _
    have hll : ∀ y, (D ++ y :: R).length = D.length + R.length + 1 := fun y => by simp; omega
    have hrl : ((cp.map (tn v)) ++ x :: cr).length = cp.length + cr.length + 1 := by rw [List.length_append, hml, List.length_cons]; omega
    have hrd : rd (cp.map (tn v) ++ x :: cr) (cp.length : Int) = x := by
      have := rd_mid (cp.map (tn v)) cr x
      rw [hml] at this; exact this
    have hset : ∀ y, (cp.map (tn v) ++ x :: cr).set cp.length y = cp.map (tn v) ++ y :: cr := fun y => by
      have := set_mid (cp.map (tn v)) cr x y
      rw [hml] at this; exact this
    have hnx : wrap64 ((cp.length : Int) + 1) = ((cp ++ [x]).length : Int) := by rw [w64 (by omega) (by omega)]; simp
    have hng : wrap64 (-x) = -x := w64 (by omega) (by omega)
    have hnv : wrap64 (-(v : Int)) = -(v : Int) := w64 (by omega) (by omega)
    have hih := ih (cp ++ [x]) (by rw [← hp]; simp)
    rw [List.map_append, List.map_singleton, List.append_assoc, List.singleton_append] at hih
    refine Ev.succ ?_
    simp only [ashlarlaw09_SatTurned.l1, rd_L2_mid, Int.toNat_natCast, set_mid]
    rw [hrd, hset, hng, hnv, hnx, hll, hrl]
    clear hnx hng hnv
    refine Ev.pos (by omega) (Ev.pos (by omega) (Ev.pos (by omega) (Ev.pos (by omega) ?_)))
    by_cases e1 : x = (v : Int)
    · have et : tn v x = -x := if_pos (.inl e1)
      rw [et] at hih
      exact Ev.pos e1 hih
    · refine Ev.neg e1 ?_
      by_cases e2 : x = -(v : Int)
      · have et : tn v x = -x := if_pos (.inr e2)
        rw [et] at hih
        exact Ev.pos e2 hih
      · have et : tn v x = x := if_neg (by omega)
        rw [et] at hih
        exact Ev.neg e2 hih
theorem turn_rows {L : List (List Int)} {n : Nat} {v : Nat} (hn : n ≤ 5) (hv : v ≤ n) (hL : L.length ≤ 40) (hc : ∀ c ∈ L, c.length ≤ 10) (hlit : ∀ c ∈ L, ∀ x ∈ c, SatW.lit n x) {b : Bool} (next : Ev (fun k => (sat_Solve.f k L (n : Int) 243).bind fun bt281 => ((sat_Solve.f k (tnL v L) (n : Int) 243).bind fun bt288 => (if true = true then (if bt281.1 = bt288.1 then ((ashlarref09_Good.f k (tnL v L) (n : Int) bt288.1 bt288.2.1 bt288.2.2).bind fun t295 => (some t295)) else (some false)) else (some false)))) b) (R : List (List Int)) : ∀ D : List (List Int), D ++ R = L →
    Ev (fun k => ashlarlaw09_SatTurned.l0 k L (n : Int) (v : Int) true (tnL v D ++ R) (D.length : Int)) b := by
  induction R with
  | nil =>
    intro D hp
    rw [List.append_nil] at hp ⊢
    subst hp
    have hl : (tnL v D).length = D.length := List.length_map _
    refine Ev.succ ?_
    simp only [ashlarlaw09_SatTurned.l0]
    exact Ev.neg (by omega) (by simpa only using next)
  | cons c R ih =>
    intro D hp
    have hll : L.length = D.length + R.length + 1 := by rw [← hp]; simp; omega
    have hl : (tnL v D).length = D.length := List.length_map _
    have hcm : c ∈ L := by rw [← hp]; simp
    have hih := ih (D ++ [c]) (by rw [← hp]; simp)
    have e : tnL v (D ++ [c]) ++ R = tnL v D ++ c.map (tn v) :: R := by unfold tnL; simp
    have e2 : (D ++ [c]).length = (tnL v D).length + 1 := by rw [hl]; simp
    rw [e, e2] at hih
    have := turn_row hn hv (tnL v D) R (by omega) (by have := hc c hcm; omega) (hlit c hcm) hih c [] rfl
    refine Ev.succ ?_
    simp only [ashlarlaw09_SatTurned.l0]
    rw [hl] at this
    refine Ev.pos (by rw [List.length_append, hl, List.length_cons]; omega) this
theorem SatTurned : ∀ (l0 : List (List Int)) (a1 : Int) (a2 : Int), l0.length ≤ maxLen → (∀ c ∈ l0, c.length ≤ maxLen ∧ ∀ x ∈ c, (Lit.int .i64 x).wf = true) → (Lit.int .i64 a1).wf = true → (Lit.int .i64 a2).wf = true → ∃ k, ashlarlaw09_SatTurned.f k l0 a1 a2 = some true := by
  intro l0 a1 a2 hl _ _ _
  have hw := few_wfr l0
  have h40 := few_small l0
  have hfe := few_ok (fewF l0) (Nat.le_trans h40.1 (by decide))
  rw [few_idem] at hfe
  have hb1 := bits_low a1
  have hb2 := bits_low a2
  obtain ⟨n, hn, hn1, hn5⟩ : ∃ n : Nat, wrap64 (1 + (Int.tmod (Go.bits .and .i64 a1 65535) 5)) = (n : Int) ∧ 1 ≤ n ∧ n ≤ 5 := by
    have h1 := Int.tmod_nonneg 5 hb1.1
    have h2 := Int.tmod_lt_of_pos (Go.bits .and .i64 a1 65535) (b := 5) (by decide)
    exact ⟨(1 + (Int.tmod (Go.bits .and .i64 a1 65535) 5)).toNat, by rw [w64 (by omega) (by omega)]; omega, by omega, by omega⟩
  obtain ⟨v, hv, hv1, hvn⟩ : ∃ v : Nat, wrap64 (1 + (Int.tmod (Go.bits .and .i64 a2 65535) (n : Int))) = (v : Int) ∧ 1 ≤ v ∧ v ≤ n := by
    have h1 := Int.tmod_nonneg (n : Int) hb2.1
    have h2 := Int.tmod_lt_of_pos (Go.bits .and .i64 a2 65535) (b := (n : Int)) (by omega)
    exact ⟨(1 + (Int.tmod (Go.bits .and .i64 a2 65535) (n : Int))).toNat, by rw [w64 (by omega) (by omega)]; omega, by omega, by omega⟩
  obtain ⟨L, hL⟩ : ∃ L, fewF l0 = L := ⟨_, rfl⟩
  have hf0 := few_ok l0 hl
  rw [hL] at hw h40 hfe hf0
  refine Ev.rounds ?_
  unfold ashlarlaw09_SatTurned.f
  refine Ev.bind hf0 ?_
  unfold ashlarlaw09_SatTurned.g
  rw [hn, hv]
  clear hn hv
  obtain ⟨b, hR, hb⟩ := right_ok (n : Int) hw.1
  refine Ev.bind shown_ok (Ev.bind hR ?_)
  by_cases hP : RightP L (n : Int)
  · refine Ev.pos (hb.2 hP) (Ev.neg (by omega) (Ev.bind hfe ?_))
    have hlit := hP.2
    rw [Int.toNat_natCast] at hlit
    obtain ⟨M, hM⟩ : ∃ M, tnL v L = M := ⟨_, rfl⟩
    have hlM : ∀ c ∈ M, ∀ x ∈ c, SatW.lit n x := by rw [← hM]; exact tnL_lit hlit
    have hMl : M.length = L.length := by rw [← hM]; exact List.length_map _
    have hwM : WfR M := ⟨by rw [hMl]; exact hw.1.1, fun c hc => by
      rw [← hM] at hc
      obtain ⟨d, hd, rfl⟩ := List.mem_map.1 hc
      rw [List.length_map]
      exact hw.1.2 d hd⟩
    have hPM : RightP M (n : Int) := ⟨hP.1, fun c hc x hx => by rw [Int.toNat_natCast]; exact hlM c hc x hx⟩
    have p5 : 3 ^ n ≤ 243 := Nat.le_trans (Nat.pow_le_pow_right (by decide) hn5) (by decide)
    obtain ⟨r1, hE1, hF1, hn1'⟩ := solve_fit (fuel := 243) hw.1 hw.2 hP (by decide)
    obtain ⟨r2, hE2, hF2, hn2'⟩ := solve_fit (fuel := 243) hwM (by rw [hMl]; exact hw.2) hPM (by decide)
    rw [Int.toNat_natCast] at hn1' hn2'
    have g1 := hn1' (by omega)
    have g2 := hn2' (by omega)
    have hfl : ∀ m : List Bool, (flip v m).length = m.length := fun m => List.length_set
    have hsame : r1.1 = r2.1 := by
      rcases hF1.three with e | e | e
      · exact absurd e g1
      · rcases hF2.three with f | f | f
        · exact absurd f g2
        · rw [e, f]
        · obtain ⟨y1, _, y3⟩ := hF1.yes e
          have := mod_flip hlit (by omega) hv1 hvn y3
          rw [hM] at this
          exact absurd this (hF2.no f _ (by rw [hfl]; exact y1))
      · rcases hF2.three with f | f | f
        · exact absurd f g2
        · obtain ⟨y1, _, y3⟩ := hF2.yes f
          have := mod_flip hlM (by omega) hv1 hvn y3
          rw [← hM, tnL_tnL] at this
          exact absurd this (hF1.no e _ (by rw [hfl]; exact y1))
        · rw [e, f]
    refine turn_rows hn5 hvn h40.1 h40.2 hlit ?_ L [] rfl
    rw [hM]
    exact Ev.bind hE1 (Ev.bind hE2 (Ev.pos rfl (Ev.pos hsame (Ev.bind hF2.good (Ev.some_ _)))))
  · exact Ev.neg (fun h => hP (hb.1 h)) (Ev.some_ _)
end Go.Proofs.Ytmdjlhmifhnpdaa.Pure
