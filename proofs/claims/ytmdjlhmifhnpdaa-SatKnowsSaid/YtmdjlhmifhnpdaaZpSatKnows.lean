/- The law SatKnows, in plain Lean: of few variables the solver knows. -/
import Derived.Test.YtmdjlhmifhnpdaaZg
import Derived.IntWalk
import Derived.Test.YtmdjlhmifhnpdaaZlSatKnows
namespace Go.Proofs.Ytmdjlhmifhnpdaa.Pure
set_option linter.unusedVariables false
open Go.RowKit Go.Proofs.Ytmdjlhmifhnpdaa.Q Go.Proofs.Ytmdjlhmifhnpdaa.PT Go.Proofs.YtmdjlhmifhnpdaaW.PrintWords Go.Proofs.YtmdjlhmifhnpdaaW.PrintLast Go.Proofs.YtmdjlhmifhnpdaaW.PrintMore

theorem some_bits : ∀ is : Fin 64, ∀ v : Fin 6, (Go.bits .and .i64 (shr .i64 (is.val : Int) (IntKind.u64.wrap (wrap64 (((v.val + 1 : Nat) : Int) - 1)))) 1 == 1) = is.val.testBit v.val := by decide +kernel
theorem some_wrap : ∀ v : Fin 7, 0 ≤ IntKind.u64.wrap (wrap64 ((v.val : Int) - 1)) ∨ v.val = 0 := by decide +kernel
theorem some_shl : ∀ n : Fin 7, shl .i64 1 (IntKind.u64.wrap (n.val : Int)) = ((2 ^ n.val : Nat) : Int) ∧ 0 ≤ IntKind.u64.wrap (n.val : Int) := by decide +kernel
theorem rdOf_set (m : List Bool) (i : Nat) (v : Bool) (j : Int) (hj : 0 ≤ j) : rdOf false (m.set i v) j = if j = (i : Int) ∧ i < m.length then v else rdOf false m j := by
  unfold rdOf
  rw [List.getD_eq_getElem?_getD, List.getD_eq_getElem?_getD, List.getElem?_set]
  by_cases h : i = j.toNat
  · by_cases hl : i < m.length
    · rw [if_pos h, if_pos (by omega), if_pos (by omega)]; rfl
    · rw [if_pos h, if_neg (by omega), if_neg (by omega)]
      rw [List.getElem?_eq_none (by omega)]
  · rw [if_neg h, if_neg (by omega)]
def Bits (n is : Nat) (m : List Bool) : Prop := ∀ j : Nat, j < n → rdOf false m ((j + 1 : Nat) : Int) = is.testBit j
theorem mod_congr {l : List (List Int)} {n : Nat} (hlit : ∀ c ∈ l, ∀ x ∈ c, SatW.lit n x) {a b : List Bool} (h : ∀ j : Int, 1 ≤ j → j ≤ n → rdOf false a j = rdOf false b j) (hm : Mod l a) : Mod l b := by
  intro c hc
  obtain ⟨x, hx, e⟩ := hm c hc
  obtain ⟨x0, x1, x2⟩ := hlit c hc x hx
  refine ⟨x, hx, ?_⟩
  unfold mlv at e ⊢
  by_cases hp : 0 < x
  · rw [if_pos hp] at e ⊢
    rw [← h x (by omega) (by omega)]; exact e
  · rw [if_neg hp] at e ⊢
    rw [← h (-x) (by omega) (by omega)]; exact e
theorem bits_congr {l : List (List Int)} {n is : Nat} (hlit : ∀ c ∈ l, ∀ x ∈ c, SatW.lit n x) {a b : List Bool} (ha : Bits n is a) (hb : Bits n is b) (hm : Mod l a) : Mod l b :=
  mod_congr hlit (fun j h1 h2 => by
    obtain ⟨q, rfl⟩ : ∃ q : Nat, j = ((q + 1 : Nat) : Int) := ⟨j.toNat - 1, by omega⟩
    rw [ha q (by omega), hb q (by omega)]) hm
theorem code_ex (f : Nat → Bool) : ∀ n, ∃ c, c < 2 ^ n ∧ ∀ j, j < n → c.testBit j = f j
  | 0 => ⟨0, by simp, fun j hj => by omega⟩
  | n + 1 => by
    obtain ⟨c, hc, h⟩ := code_ex f n
    by_cases hf : f n = true
    · refine ⟨2 ^ n + c, by rw [Nat.pow_succ]; omega, fun j hj => ?_⟩
      by_cases e : j = n
      · subst e
        rw [Nat.testBit_two_pow_add_eq, Nat.testBit_lt_two_pow hc, hf]; rfl
      · rw [Nat.testBit_two_pow_add_gt (by omega)]
        exact h j (by omega)
    · refine ⟨c, by rw [Nat.pow_succ]; omega, fun j hj => ?_⟩
      by_cases e : j = n
      · subst e
        rw [Nat.testBit_lt_two_pow hc]
        exact (Bool.eq_false_iff.2 hf).symm
      · exact h j (by omega)
theorem some_inner {l : List (List Int)} {n : Nat} (hn : n ≤ 6) (hl : WfR l) (hlit : ∀ c ∈ l, ∀ x ∈ c, SatW.lit n x) {is : Nat} (his : is < 64) {b : Bool}
    (next : ∀ m : List Bool, m.length = n + 1 → Bits n is m → ∀ v : Int, (v = 1 ↔ Mod l m) → Ev (fun k => if v = 1 then (some true) else (ashlarref09_Some.l0 k l (n : Int) (wrap64 ((is : Int) + 1)))) b) (d : Nat) : ∀ (v : Nat) (m : List Bool), v + d = n → m.length = n + 1 → (∀ j : Nat, j < v → rdOf false m ((j + 1 : Nat) : Int) = is.testBit j) →
    Ev (fun k => ashlarref09_Some.l1 k l (n : Int) (is : Int) m ((v + 1 : Nat) : Int)) b := by
  induction d with
  | zero =>
    intro v m hv hm hb
    refine Ev.succ ?_
    simp only [ashlarref09_Some.l1]
    refine Ev.neg (by omega) ?_
    exact evalm_ok hl hm (by omega) hlit (F := fun k t307 => if t307 = 1 then (some true) else (ashlarref09_Some.l0 k l (n : Int) (wrap64 ((is : Int) + 1)))) (next m hm (fun j hj => hb j (by omega)))
  | succ d ih =>
    intro v m hv hm hb
    have hnx : wrap64 (((v + 1 : Nat) : Int) + 1) = ((v + 1 + 1 : Nat) : Int) := by rw [w64 (by omega) (by omega)]; omega
    have hbit := some_bits ⟨is, his⟩ ⟨v, by omega⟩
    simp only at hbit
    have hwr := (some_wrap ⟨v + 1, by omega⟩).resolve_right (by simp)
    simp only at hwr
    refine Ev.succ ?_
    simp only [ashlarref09_Some.l1]
    rw [hnx, hbit]
    refine Ev.pos (by omega) (Ev.pos hwr (Ev.pos (by omega) (Ev.pos (by omega) ?_)))
    refine ih (v + 1) _ (by omega) (by rw [List.length_set]; exact hm) (fun j hj => ?_)
    rw [rdOf_set _ _ _ _ (by omega), Int.toNat_natCast]
    by_cases e : j = v
    · subst e
      rw [if_pos ⟨rfl, by omega⟩]
    · rw [if_neg (by omega)]
      exact hb j (by omega)
theorem some_loop {l : List (List Int)} {n : Nat} (hn : n ≤ 6) (hl : WfR l) (hlit : ∀ c ∈ l, ∀ x ∈ c, SatW.lit n x) (d : Nat) : ∀ i : Nat, i + d = 2 ^ n → ∃ b, Ev (fun k => ashlarref09_Some.l0 k l (n : Int) (i : Int)) b ∧ (b = true → ∃ m : List Bool, m.length = n + 1 ∧ Mod l m) ∧ (b = false → ∀ is, i ≤ is → is < 2 ^ n → ∀ m : List Bool, m.length = n + 1 → Bits n is m → ¬ Mod l m) := by
  have h64 : 2 ^ n ≤ 64 := Nat.pow_le_pow_right (n := 2) (by decide) hn
  obtain ⟨hsh, hwr⟩ := some_shl ⟨n, by omega⟩
  simp only at hsh hwr
  induction d with
  | zero =>
    intro i hi
    refine ⟨false, Ev.succ ?_, fun h => by (cases h), fun _ is h1 h2 => by omega⟩
    simp only [ashlarref09_Some.l0]
    rw [hsh]
    exact Ev.pos hwr (Ev.neg (by omega) (Ev.some_ _))
  | succ d ih =>
    intro i hi
    have hnx : wrap64 ((i : Int) + 1) = ((i + 1 : Nat) : Int) := by rw [w64 (by omega) (by omega)]; omega
    have hw1 : wrap64 ((n : Int) + 1) = ((n + 1 : Nat) : Int) := by rw [w64 (by omega) (by omega)]; omega
    obtain ⟨b, hE, hb1, hb2⟩ := ih (i + 1) (by omega)
    rw [← hnx] at hE
    have step : ∀ b', (∀ m : List Bool, m.length = n + 1 → Bits n i m → ∀ v : Int, (v = 1 ↔ Mod l m) → Ev (fun k => if v = 1 then (some true) else (ashlarref09_Some.l0 k l (n : Int) (wrap64 ((i : Int) + 1)))) b') → Ev (fun k => ashlarref09_Some.l0 k l (n : Int) (i : Int)) b' := by
      intro b' hb'
      refine Ev.succ ?_
      simp only [ashlarref09_Some.l0]
      rw [hsh, hw1, Int.toNat_natCast]
      refine Ev.pos hwr (Ev.pos (by omega) (Ev.pos (by omega) (Ev.pos (by omega) ?_)))
      exact some_inner hn hl hlit (by omega) hb' n 0 _ (by omega) (by simp) (fun j hj => by omega)
    by_cases hM : ∃ m : List Bool, m.length = n + 1 ∧ Bits n i m ∧ Mod l m
    · obtain ⟨m, h1, h2, h3⟩ := hM
      refine ⟨true, step true (fun m' hm' hbm v hv => ?_), fun _ => ⟨m, h1, h3⟩, fun h => by (cases h)⟩
      exact Ev.pos (hv.2 (bits_congr hlit h2 hbm h3)) (Ev.some_ _)
    · refine ⟨b, step b (fun m' hm' hbm v hv => Ev.neg (fun h => hM ⟨m', hm', hbm, hv.1 h⟩) hE), hb1, fun h is h1 h2 m hm hbm hmod => ?_⟩
      by_cases e : is = i
      · subst e
        exact hM ⟨m, hm, hbm, hmod⟩
      · exact hb2 h is (by omega) h2 m hm hbm hmod
theorem some_ok {l : List (List Int)} {n : Nat} (hn : n ≤ 6) (hl : WfR l) (hlit : ∀ c ∈ l, ∀ x ∈ c, SatW.lit n x) : ∃ b, Ev (fun k => ashlarref09_Some.f k l (n : Int)) b ∧ (b = true → ∃ m : List Bool, m.length = n + 1 ∧ Mod l m) ∧ (b = false → ∀ m : List Bool, m.length = n + 1 → ¬ Mod l m) := by
  obtain ⟨b, hE, h1, h2⟩ := some_loop hn hl hlit (2 ^ n) 0 (by omega)
  refine ⟨b, hE, h1, fun h m hm => ?_⟩
  obtain ⟨c, hc, hj⟩ := code_ex (fun j => rdOf false m ((j + 1 : Nat) : Int)) n
  exact h2 h c (by omega) hc m hm (fun j hjn => (hj j hjn).symm)
theorem pow_le {n : Nat} (hn : n ≤ 6) : 3 ^ n ≤ 729 := Nat.pow_le_pow_right (n := 3) (by decide) hn
theorem three_loop {l : List (List Int)} {n : Nat} (hn : n ≤ 6) {h : Bool} {b : Bool} (next : Ev (fun k => (sat_Solve.f k l (n : Int) ((3 ^ n : Nat) : Int)).bind fun bt313 => ((ashlarref09_Some.f k l (n : Int)).bind fun t320 => (if h = true then ((ashlarref09_Good.f k l (n : Int) bt313.1 bt313.2.1 bt313.2.2).bind fun t321 => (if t321 = true then (if ((bt313.1 == 1) == t320) = true then (some ((bt313.1 == 2) == (!t320))) else (some false)) else (some false))) else (some false)))) b) (d : Nat) : ∀ i : Nat, i + d = n →
    Ev (fun k => ashlarlaw09_SatKnows.l0 k l (n : Int) h ((3 ^ i : Nat) : Int) (i : Int)) b := by
  induction d with
  | zero =>
    intro i hi
    have : i = n := by omega
    subst this
    refine Ev.succ ?_
    simp only [ashlarlaw09_SatKnows.l0]
    exact Ev.neg (by omega) next
  | succ d ih =>
    intro i hi
    have hp := pow_le (n := i) (by omega)
    have hnx : wrap64 ((i : Int) + 1) = ((i + 1 : Nat) : Int) := by rw [w64 (by omega) (by omega)]; omega
    have h3 : wrap64 (3 * ((3 ^ i : Nat) : Int)) = ((3 ^ (i + 1) : Nat) : Int) := by
      have e : 3 ^ (i + 1) = 3 * 3 ^ i := by rw [Nat.pow_succ, Nat.mul_comm]
      obtain ⟨q, hq⟩ : ∃ q, 3 ^ i = q := ⟨_, rfl⟩
      rw [hq] at hp
      rw [e, hq, w64 (by omega) (by omega)]; omega
    refine Ev.succ ?_
    simp only [ashlarlaw09_SatKnows.l0]
    rw [hnx, h3]
    exact Ev.pos (by omega) (ih (i + 1) (by omega))
theorem SatKnows : ∀ (l0 : List (List Int)) (a1 : Int), l0.length ≤ maxLen → (∀ c ∈ l0, c.length ≤ maxLen ∧ ∀ x ∈ c, (Lit.int .i64 x).wf = true) → (Lit.int .i64 a1).wf = true → ∃ k, ashlarlaw09_SatKnows.f k l0 a1 = some true := by
  intro l0 a1 hl _ _
  have hw := few_wfr l0
  have hbl := bits_low a1
  obtain ⟨n, hn⟩ : ∃ n : Nat, Int.tmod (Go.bits .and .i64 a1 65535) 7 = n := ⟨(Int.tmod (Go.bits .and .i64 a1 65535) 7).toNat, by have := Int.tmod_nonneg 7 hbl.1; omega⟩
  have hn6 : n ≤ 6 := by have := Int.tmod_lt_of_pos (Go.bits .and .i64 a1 65535) (b := 7) (by decide); omega
  refine Ev.rounds ?_
  unfold ashlarlaw09_SatKnows.f
  rw [hn]
  obtain ⟨b, hR, hb⟩ := right_ok (n : Int) hw.1
  refine Ev.bind shown_ok (Ev.bind (few_ok l0 hl) (Ev.bind hR ?_))
  by_cases hP : RightP (fewF l0) (n : Int)
  · refine Ev.pos (hb.2 hP) ?_
    have hlit := hP.2
    rw [Int.toNat_natCast] at hlit
    obtain ⟨s, hS, hs1, hs2⟩ := some_ok hn6 hw.1 hlit
    have hp := pow_le hn6
    obtain ⟨r, hE, hF, hne⟩ := solve_fit (fuel := ((3 ^ n : Nat) : Int)) hw.1 hw.2 hP (by omega)
    rw [Int.toNat_natCast] at hne
    have hr0 := hne (by omega)
    have key : (r.1 = 1 ∧ s = true) ∨ (r.1 = 2 ∧ s = false) := by
      rcases hF.three with h | h | h
      · exact absurd h hr0
      · left
        refine ⟨h, ?_⟩
        obtain ⟨y1, _, y3⟩ := hF.yes h
        cases s with
        | true => rfl
        | false => exact absurd y3 (hs2 rfl _ (by omega))
      · right
        refine ⟨h, ?_⟩
        cases s with
        | false => rfl
        | true =>
          obtain ⟨m, m1, m2⟩ := hs1 rfl
          exact absurd m2 (hF.no h m (by omega))
    refine three_loop (l := fewF l0) hn6 ?_ n 0 (by omega)
    refine Ev.bind hE (Ev.bind hS (Ev.pos rfl (Ev.bind hF.good (Ev.pos rfl ?_))))
    rcases key with ⟨h1, h2⟩ | ⟨h1, h2⟩
    · rw [h1, h2]
      exact Ev.some_ _
    · rw [h1, h2]
      exact Ev.some_ _
  · exact Ev.neg (fun h => hP (hb.1 h)) (Ev.some_ _)
end Go.Proofs.Ytmdjlhmifhnpdaa.Pure
