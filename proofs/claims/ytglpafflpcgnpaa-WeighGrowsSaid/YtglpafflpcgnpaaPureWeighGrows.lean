/- The plain law of WeighGrows: what the printed functions compute answers true. -/
import Derived.Test.YtglpafflpcgnpaaWeigh3
import Derived.Test.YtglpafflpcgnpaaQx10
namespace Go.Proofs.Ytglpafflpcgnpaa.Pure
set_option linter.unusedVariables false
open Go.RowKit Go.Proofs.Ytglpafflpcgnpaa.Q Go.Proofs.YtglpafflpcgnpaaW.PrintWords Go.Proofs.YtglpafflpcgnpaaW.PrintLast Go.Proofs.Ytglpafflpcgnpaa.Fl

def itd : Nat → Nat → Nat
  | 0, x => x
  | n + 1, x => itd n (decay x)
theorem itd_add (m n x : Nat) : itd (m + n) x = itd n (itd m x) := by
  induction m generalizing x with
  | zero => rw [Nat.zero_add]; rfl
  | succ m ih => rw [Nat.succ_add]; exact ih (decay x)
theorem grow0 : itd 250 4607182418800017408 = 4690113305893708985 := by decide +kernel
theorem grow1 : itd 250 4690113305893708985 = 4773816512638301722 := by decide +kernel
theorem grow2 : itd 250 4773816512638301722 = 4856747775812151625 := by decide +kernel
theorem grow3 : itd 250 4856747775812151625 = 4940450606659502868 := by decide +kernel
theorem grow4 : itd 250 4940450606659502868 = 5023382245989303810 := by decide +kernel
theorem grow5 : itd 250 5023382245989303810 = 5107084700863657710 := by decide +kernel
theorem grow6 : itd 250 5107084700863657710 = 5190016716425217654 := by decide +kernel
theorem grow7 : itd 250 5190016716425217654 = 5273718795250803117 := by decide +kernel
theorem grow8 : itd 250 5273718795250803117 = 5356651187119945328 := by decide +kernel
theorem grow9 : itd 250 5356651187119945328 = 5440352889820975978 := by decide +kernel
theorem grow10 : itd 250 5440352889820975978 = 5523285658073538981 := by decide +kernel
theorem grow11 : itd 250 5523285658073538981 = 5606986984574213177 := by decide +kernel
theorem grow12 : itd 250 5606986984574213177 = 5689920129286050786 := by decide +kernel
theorem grow13 : itd 250 5689920129286050786 = 5773621079510551599 := by decide +kernel
theorem grow14 : itd 250 5773621079510551599 = 5856554600757532926 := by decide +kernel
theorem grow15 : itd 250 5856554600757532926 = 5940255174630028158 := by decide +kernel
theorem grow16 : itd 250 5940255174630028158 = 6023189072488037593 := by decide +kernel
theorem grow17 : itd 250 6023189072488037593 = 6106889269932679745 := by decide +kernel
theorem grow18 : itd 250 6106889269932679745 = 6189823544477616966 := by decide +kernel
theorem grow19 : itd 250 6189823544477616966 = 6273523365418543280 := by decide +kernel
theorem grow : itd 5000 4607182418800017408 = 6273523365418543280 := by
  have h : ∀ a b x y z, itd a x = y → itd b y = z → itd (a + b) x = z := fun a b x y z h1 h2 => by rw [itd_add, h1, h2]
  have g1 := h 250 250 _ _ _ grow0 grow1
  have g2 := h 500 250 _ _ _ g1 grow2
  have g3 := h 750 250 _ _ _ g2 grow3
  have g4 := h 1000 250 _ _ _ g3 grow4
  have g5 := h 1250 250 _ _ _ g4 grow5
  have g6 := h 1500 250 _ _ _ g5 grow6
  have g7 := h 1750 250 _ _ _ g6 grow7
  have g8 := h 2000 250 _ _ _ g7 grow8
  have g9 := h 2250 250 _ _ _ g8 grow9
  have g10 := h 2500 250 _ _ _ g9 grow10
  have g11 := h 2750 250 _ _ _ g10 grow11
  have g12 := h 3000 250 _ _ _ g11 grow12
  have g13 := h 3250 250 _ _ _ g12 grow13
  have g14 := h 3500 250 _ _ _ g13 grow14
  have g15 := h 3750 250 _ _ _ g14 grow15
  have g16 := h 4000 250 _ _ _ g15 grow16
  have g17 := h 4250 250 _ _ _ g16 grow17
  have g18 := h 4500 250 _ _ _ g17 grow18
  have g19 := h 4750 250 _ _ _ g18 grow19
  exact g19
theorem grows_l1 (d : Nat) : ∀ (k i x : Nat), 5000 - i = d → i ≤ 5000 → d < k → W x → ashlarlaw02_WeighGrows.l1 k true x (i : Int) = some (fGt (itd d x) 6103021453049119613) := by
  induction d with
  | zero =>
    intro k i x hd hi hk hx
    obtain ⟨k, rfl⟩ : ∃ m, k = m + 1 := ⟨k - 1, by omega⟩
    simp only [ashlarlaw02_WeighGrows.l1]
    rw [if_neg (by omega), if_pos trivial]; rfl
  | succ d ih =>
    intro k i x hd hi hk hx
    obtain ⟨k, rfl⟩ : ∃ m, k = m + 1 := ⟨k - 1, by omega⟩
    simp only [ashlarlaw02_WeighGrows.l1]
    rw [if_pos (by omega), decay_f x hx, Option.bind_some, wrap_succ (by omega) (by omega)]
    exact ih k (i + 1) (decay x) (by omega) (by omega) (by omega) (decay_W x)
theorem grows_l0 (d : Nat) : ∀ (k i x : Nat), 1000 - i = d → i ≤ 1000 → d + 5001 < k → W x → sgn x = false → rung x < inf → ashlarlaw02_WeighGrows.l0 k true x (i : Int) = some true := by
  induction d with
  | zero =>
    intro k i x hd hi hk hx hs hf
    obtain ⟨k, rfl⟩ : ∃ m, k = m + 1 := ⟨k - 1, by omega⟩
    simp only [ashlarlaw02_WeighGrows.l0]
    rw [if_neg (by omega)]
    have := grows_l1 5000 k 0 4607182418800017408 (by omega) (by omega) (by omega) (by unfold W; omega)
    rw [grow] at this
    have g : fGt 6273523365418543280 6103021453049119613 = true := by decide +kernel
    rw [g] at this
    exact this
  | succ d ih =>
    intro k i x hd hi hk hx hs hf
    obtain ⟨k, rfl⟩ : ∃ m, k = m + 1 := ⟨k - 1, by omega⟩
    simp only [ashlarlaw02_WeighGrows.l0]
    obtain ⟨d1, d2⟩ := decay_ge x
    rw [tame_of x hf] at d1 d2
    have df := decay_fin x
    have ht := top_inf
    have hsv : sv x = (V (rung x) : Int) := by unfold sv; rw [hs]; rfl
    have hsd : sv (decay x) = (V (rung (decay x)) : Int) := by unfold sv; rw [d1, hs]; rfl
    have e1 : fLt (decay x) x = false := by
      rw [lt_eq (by omega) (by omega), hsv, hsd]
      have := V_le d2
      simp only [decide_eq_false_iff_not]; omega
    have e2 : fGt (decay x) 9218868437227405311 = false := by
      rw [gt_eq (by omega) (by decide)]
      have e : sv 9218868437227405311 = (V top : Int) := sv_small top top_lt
      have := (finite_sv (decay x) df).2
      rw [e]
      simp only [decide_eq_false_iff_not]; omega
    rw [if_pos (by omega), decay_f x hx, Option.bind_some, e1, e2, if_neg (by decide), if_neg (by decide), wrap_succ (by omega) (by omega)]
    exact ih k (i + 1) (decay x) (by omega) (by omega) (by omega) (decay_W x) (by rw [d1, hs]) df
theorem WeighGrows : ∀ (a0 : Int), (Lit.int .u64 a0).wf = true → ∃ k, ashlarlaw02_WeighGrows.f k a0 = some true := by
  intro a0 h0
  obtain ⟨n, hn⟩ : ∃ n, n = 7000 := ⟨7000, rfl⟩
  refine ⟨n + 1, ?_⟩
  have w0 := uW h0
  unfold ashlarlaw02_WeighGrows.f
  rw [shown_f (n + 1) (by omega), Option.bind_some, tame_f _ w0, Option.bind_some, abs_f _ (tame_W _ w0), Option.bind_some]
  have hi := inf_lt
  have hf := tame_fin a0.toNat
  obtain ⟨a, b⟩ := rung_small (rung (tame a0.toNat)) (by omega)
  exact grows_l0 1000 (n + 1) 0 _ (by omega) (by omega) (by omega) (by unfold W; omega) b (by omega)

end Go.Proofs.Ytglpafflpcgnpaa.Pure
