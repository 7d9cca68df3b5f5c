/- The plain law of WeighFinite: what the printed functions compute answers true. -/
import Derived.Test.YtglpafflpcgnpaaWeigh3
import Derived.Test.YtglpafflpcgnpaaQx9
namespace Go.Proofs.Ytglpafflpcgnpaa.Pure
set_option linter.unusedVariables false
open Go.RowKit Go.Proofs.Ytglpafflpcgnpaa.Q Go.Proofs.YtglpafflpcgnpaaW.PrintWords Go.Proofs.YtglpafflpcgnpaaW.PrintLast Go.Proofs.Ytglpafflpcgnpaa.Fl

theorem finite_f (x : Nat) (h : rung x < inf) : ashlarlaw02_finite.f x = some true := by
  unfold ashlarlaw02_finite.f
  have e1 : sv 9218868437227405311 = (V top : Int) := sv_small top top_lt
  have e2 : sv 18442240474082181119 = -(V top : Int) := sv_word true top top_lt
  obtain ⟨a, b⟩ := finite_sv x h
  rw [Fl.eq_self, if_pos (decide_eq_true (by omega)), le_eq (by omega) (by decide), e1, if_pos (decide_eq_true b), ge_eq (by omega) (by decide), e2, decide_eq_true a]
theorem rows_self (l : List Nat) (hl : l.length ≤ 100) (hf : ∀ x ∈ l, rung x < inf) (d : Nat) : ∀ (k i : Nat), l.length - i = d → i ≤ l.length → d < k → ashlarlaw02_rows.l0 k l l (i : Int) = some true := by
  induction d with
  | zero =>
    intro k i hd hi hk
    obtain ⟨k, rfl⟩ : ∃ m, k = m + 1 := ⟨k - 1, by omega⟩
    simp only [ashlarlaw02_rows.l0]
    rw [if_neg (by omega)]
  | succ d ih =>
    intro k i hd hi hk
    obtain ⟨k, rfl⟩ : ∃ m, k = m + 1 := ⟨k - 1, by omega⟩
    simp only [ashlarlaw02_rows.l0]
    have := hf _ (getD_mem l i 0 (by omega))
    rw [if_pos (by omega), if_pos (by omega), if_pos (by omega), rd_nat, same_self _ (by omega), Option.bind_some, if_pos rfl, wrap_succ (by omega) (by omega)]
    exact ih k (i + 1) (by omega) (by omega) (by omega)
theorem row_fin (b : Bool) (x : Nat) : rung (row b x) < inf := by
  unfold row
  split
  · have := mulT_rung x; have : inf = 9218868437227405312 := rfl; omega
  · exact tame_fin x
theorem row_small (l : List Nat) (x : Nat) (hx : x ∈ l) : rung (row (l.any farB) x) ≤ (if l.any farB then 7748537163665533883 else lim) := by
  unfold row
  cases hb : l.any farB with
  | true => simp only [if_true]; exact mulT_rung x
  | false =>
    simp only [Bool.false_eq_true, if_false]
    have := List.any_eq_false.1 hb x hx
    unfold farB at this
    simp only [decide_eq_true_eq] at this
    omega
theorem abs_gt (x c : Nat) (hx : W x) (h : rung x ≤ c) (hc : c < inf) : ∃ t, math_Abs.f x = some t ∧ fGt t c = false := by
  have hi := inf_lt
  refine ⟨_, abs_f x hx, ?_⟩
  obtain ⟨a, b⟩ := rung_small (rung x) (by omega)
  obtain ⟨a', b'⟩ := rung_small c (by omega)
  rw [gt_eq (by omega) (by omega), sv_small c (by omega), sv_small (rung x) (by omega)]
  have := V_le h
  simp only [decide_eq_false_iff_not]; omega
theorem finite_tail (y : Nat) (hy : W y) : (if fLe y 0 = true then some true else (weigh_Tame.f y).bind fun t => some (fGe (decay y) t)) = some true := by
  by_cases c : fLe y 0 = true
  · rw [if_pos c]
  · rw [if_neg c, tame_f y hy, Option.bind_some]
    have hf := tame_fin y
    have hd := decay_fin y
    obtain ⟨d1, d2⟩ := decay_ge y
    rw [ge_eq (by omega) (by omega)]
    have hs : sv (tame y) ≤ sv (decay y) := by
      by_cases n : inf < rung y
      · have : tame y = 0 := by unfold tame; rw [if_pos n]
        rw [this] at d1 d2 ⊢
        unfold sv
        rw [d1]
        have z : sgn 0 = false := by decide
        have z2 : rung 0 = 0 := rfl
        rw [z, z2]
        simp [V_zero]
      · have hy' : rung y ≤ inf := by omega
        rw [le_eq hy' (by decide)] at c
        have z : sv 0 = 0 := by decide
        rw [z] at c
        simp only [decide_eq_true_eq] at c
        have hsy : sgn y = false := by
          cases g : sgn y with
          | false => rfl
          | true => unfold sv at c; rw [g] at c; simp at c
        have hst : sgn (tame y) = false := by
          unfold tame
          rw [if_neg n]
          split
          · rw [hsy]; exact sgn_word false top top_lt
          · exact hsy
        unfold sv
        rw [d1, hst]
        have := V_le d2
        simp; omega
    rw [decide_eq_true hs]
theorem rescale_again (l : List Nat) (h : l.any farB = false) : rescale (l.map tame) = (l.map tame, false) := by
  rw [rescale_row]
  have e : (l.map tame).any farB = false := by
    rw [List.any_eq_false]
    intro x hx
    rw [List.mem_map] at hx
    obtain ⟨y, hy, rfl⟩ := hx
    have := List.any_eq_false.1 h y hy
    unfold farB at this ⊢
    rw [tame_tame]; exact this
  rw [e]
  congr 1
  rw [List.map_map]
  apply List.map_congr_left
  intro x _
  show row false (tame x) = tame x
  unfold row
  simp only [Bool.false_eq_true, if_false]
  exact tame_tame x
theorem finite_l0 (l : List Nat) (hw : Ws l) (hl : l.length ≤ 100) (y : Nat) (hy : W y) (d : Nat) : ∀ (k i : Nat), l.length - i = d → i ≤ l.length → d + 500 < k →
    ashlarlaw02_WeighFinite.l0 k true y (decay y) (l.map (row (l.any farB))) (l.any farB) (i : Int) = some true := by
  have hlen : (l.map (row (l.any farB))).length = l.length := List.length_map _
  have hfin : ∀ x ∈ l.map (row (l.any farB)), rung x < inf := by
    intro x hx
    rw [List.mem_map] at hx
    obtain ⟨z, _, rfl⟩ := hx
    exact row_fin _ z
  have hWs : Ws (l.map (row (l.any farB))) := by
    intro x hx
    rw [List.mem_map] at hx
    obtain ⟨z, hz, rfl⟩ := hx
    exact row_W _ z (hw z hz)
  induction d with
  | zero =>
    intro k i hd hi hk
    obtain ⟨k, rfl⟩ : ∃ m, k = m + 1 := ⟨k - 1, by omega⟩
    rw [ashlarlaw02_WeighFinite.l0]
    rw [if_neg (by rw [hlen]; omega), rescale_f _ hWs (by omega) k (by omega), Option.bind_some, if_pos rfl]
    cases hb : l.any farB with
    | true => rw [if_pos rfl]; exact finite_tail y hy
    | false =>
      rw [if_neg (by decide)]
      have e : l.map (row false) = l.map tame := List.map_congr_left (fun x _ => rfl)
      rw [e, rescale_again l hb, if_neg (by simp)]
      rw [hb, e] at hlen hfin
      have hr : ashlarlaw02_rows.f k (l.map tame) (l.map tame) = some true := by
        unfold ashlarlaw02_rows.f
        rw [if_pos rfl]
        exact rows_self _ (by omega) hfin _ k 0 rfl (by omega) (by omega)
      rw [hr, Option.bind_some, if_pos rfl]
      exact finite_tail y hy
  | succ d ih =>
    intro k i hd hi hk
    obtain ⟨k, rfl⟩ : ∃ m, k = m + 1 := ⟨k - 1, by omega⟩
    have hil : i < l.length := by omega
    rw [ashlarlaw02_WeighFinite.l0]
    have g := getD_map l (row (l.any farB)) i hil
    have hmem := getD_mem l i 0 hil
    have hs := row_small l (l.getD i 0) hmem
    have hW := row_W (l.any farB) _ (hw _ hmem)
    rw [if_pos (by rw [hlen]; omega), if_pos (by omega), rd_nat, g, finite_f _ (row_fin _ _), Option.bind_some, if_pos rfl, wrap_succ (by omega) (by omega)]
    have hrec := ih k (i + 1) (by omega) (by omega) (by omega)
    by_cases hb : l.any farB = true
    · rw [if_pos hb]
      rw [if_pos hb] at hs
      obtain ⟨t, h1, h2⟩ := abs_gt _ _ hW hs (by decide)
      rw [h1, Option.bind_some, h2, if_neg (by decide)]; exact hrec
    · rw [if_neg hb]
      rw [if_neg hb] at hs
      obtain ⟨t, h1, h2⟩ := abs_gt _ _ hW hs (by decide)
      have h2' : fGt t 6103021453049119613 = false := h2
      rw [h1, Option.bind_some, h2', if_neg (by decide)]; exact hrec
theorem finite_j0 (x y : Nat) (l : List Int) (hx : W x) (hy : W y) (hm : ∀ z ∈ l, (Lit.int .u64 z).wf = true) (k : Nat) (hk : 1000 < k) : ashlarlaw02_WeighFinite.j0 k l true y (bump x y) (decay y) (tame x) false = some true := by
  obtain ⟨k, rfl⟩ : ∃ m, k = m + 2 := ⟨k - 2, by omega⟩
  rw [ashlarlaw02_WeighFinite.j0]
  have hl := flo_len l
  have hw := flo_W l hm
  have hj1 : ashlarlaw02_WeighFinite.j1 (k + 1) l true y (decay y) false = some true := by
    rw [ashlarlaw02_WeighFinite.j1]
    rw [if_neg (by decide), floats_f l k (by omega), Option.bind_some, rescale_f (flo l) hw (by omega) k (by omega), Option.bind_some, rescale_row]
    exact finite_l0 (flo l) hw (by omega) y hy (flo l).length k 0 (by omega) (by omega) (by omega)
  have bf := bump_fin x y
  have tf := tame_fin x
  have z : sv 0 = 0 := by decide
  have e1 : ∀ h : fGt y 0 = true, fLt (bump x y) (tame x) = false := by
    intro h
    have hn : rung y ≤ inf := by
      by_cases g : inf < rung y
      · rw [gt_nan y 0 (Or.inl g)] at h; cases h
      · omega
    rw [gt_eq hn (by decide), z] at h
    simp only [decide_eq_true_eq] at h
    rw [lt_eq (by omega) (by omega), sv_bump]
    have h2 : 0 ≤ sv (tame y) := by
      unfold tame
      rw [if_neg (by omega)]
      split
      · rename_i hi
        have hs : sgn y = false := by
          cases g : sgn y with
          | false => rfl
          | true => unfold sv at h; rw [g] at h; simp at h; omega
        rw [hs, sv_word _ _ top_lt]; simp
      · omega
    have := R_mono (show sv (tame x) ≤ sv (tame x) + sv (tame y) by omega)
    rw [R_sv _ tf] at this
    simp only [decide_eq_false_iff_not]; omega
  have e2 : ∀ h : fLt y 0 = true, fGt (bump x y) (tame x) = false := by
    intro h
    have hn : rung y ≤ inf := by
      by_cases g : inf < rung y
      · rw [lt_nan y 0 (Or.inl g)] at h; cases h
      · omega
    rw [lt_eq hn (by decide), z] at h
    simp only [decide_eq_true_eq] at h
    rw [gt_eq (by omega) (by omega), sv_bump]
    have h2 : sv (tame y) ≤ 0 := by
      unfold tame
      rw [if_neg (by omega)]
      split
      · rename_i hi
        have hs : sgn y = true := by
          cases g : sgn y with
          | true => rfl
          | false => unfold sv at h; rw [g] at h; simp at h; omega
        rw [hs, sv_word _ _ top_lt]; simp
      · omega
    have := R_mono (show sv (tame x) + sv (tame y) ≤ sv (tame x) by omega)
    rw [R_sv _ tf] at this
    simp only [decide_eq_false_iff_not]; omega
  rw [if_neg (by decide)]
  by_cases c1 : fGt y 0 = true
  · rw [if_pos c1, e1 c1, if_neg (by decide)]
    by_cases c2 : fLt y 0 = true
    · rw [if_pos c2, e2 c2]; exact hj1
    · rw [if_neg c2]; exact hj1
  · rw [if_neg c1]
    by_cases c2 : fLt y 0 = true
    · rw [if_pos c2, e2 c2]; exact hj1
    · rw [if_neg c2]; exact hj1
theorem WeighFinite : ∀ (a0 : Int) (a1 : Int) (l2 : List Int), (Lit.int .u64 a0).wf = true → (Lit.int .u64 a1).wf = true → l2.length ≤ maxLen → (∀ x ∈ l2, (Lit.int .u64 x).wf = true) → ∃ k, ashlarlaw02_WeighFinite.f k a0 a1 l2 = some true := by
  intro a0 a1 l h0 h1 hm hwf
  obtain ⟨n, hn⟩ : ∃ n, n = 2000 := ⟨2000, rfl⟩
  refine ⟨n, ?_⟩
  have w0 := uW h0
  have w1 := uW h1
  unfold ashlarlaw02_WeighFinite.f
  rw [shown_f n (by omega), Option.bind_some, bump_f _ _ w0 w1, Option.bind_some, decay_f _ w1, Option.bind_some, tame_f _ w0, Option.bind_some, finite_f _ (bump_fin _ _), Option.bind_some, if_pos rfl, finite_f _ (decay_fin _), Option.bind_some, if_pos rfl, finite_f _ (tame_fin _), Option.bind_some, if_pos rfl, tame_f _ (tame_W _ w0), Option.bind_some, tame_tame, same_self _ (by have := tame_fin a0.toNat; omega), Option.bind_some]
  exact finite_j0 _ _ l w0 w1 hwf n (by omega)

end Go.Proofs.Ytglpafflpcgnpaa.Pure
