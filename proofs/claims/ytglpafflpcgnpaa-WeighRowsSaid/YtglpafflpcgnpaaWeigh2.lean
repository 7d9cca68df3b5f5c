/- The printed functions over rows of floats, told as plain functions of lists. -/
import Derived.Test.YtglpafflpcgnpaaWeigh1
import Derived.Test.YtglpafflpcgnpaaQx3
namespace Go.Proofs.Ytglpafflpcgnpaa.Fl
set_option linter.unusedVariables false
open Ieee Go.Proofs.YtglpafflpcgnpaaW.PrintWords Go.Proofs.Ytglpafflpcgnpaa.Q Go.RowKit

theorem wrap_succ {i : Int} (h0 : 0 ≤ i) (h1 : i < 9223372036854775807) : wrap64 (i + 1) = i + 1 := by unfold wrap64; omega
theorem rd_nat (l : List Nat) (i : Nat) : rdOf (0 : Nat) l (i : Int) = l.getD i 0 := by unfold rdOf; rw [Int.toNat_natCast]
theorem rdI_nat (l : List Int) (i : Nat) : rd l (i : Int) = l.getD i 0 := by unfold rd; rw [Int.toNat_natCast]
def Ws (l : List Nat) : Prop := ∀ x ∈ l, W x
theorem getD_mem {α : Type} (l : List α) (i : Nat) (d : α) (h : i < l.length) : l.getD i d ∈ l := by
  rw [List.getD_eq_getElem?_getD, List.getElem?_eq_getElem h]; exact List.getElem_mem h
theorem getD_of_lt {α : Type} (l : List α) (i : Nat) (d : α) (h : i < l.length) : l.getD i d = l[i] := by
  rw [List.getD_eq_getElem?_getD, List.getElem?_eq_getElem h]; rfl

/-! ### floats -/
def flo (l : List Int) : List Nat := (l.take 100).map Int.toNat
theorem floats_loop (l : List Int) (d : Nat) : ∀ (k i : Nat), (min l.length 100) - i = d → i ≤ min l.length 100 → d < k →
    ashlarlaw02_floats.l0 k l ((l.take i).map Int.toNat) (i : Int) = some (flo l) := by
  induction d with
  | zero =>
    intro k i hd hi hk
    obtain ⟨k, rfl⟩ : ∃ m, k = m + 1 := ⟨k - 1, by omega⟩
    have hi' : i = min l.length 100 := by omega
    simp only [ashlarlaw02_floats.l0]
    have e : l.take i = l.take 100 := by
      by_cases h : l.length ≤ 100
      · rw [List.take_of_length_le (by omega), List.take_of_length_le (by omega)]
      · rw [hi', Nat.min_eq_right (by omega)]
    have hr : some (List.map Int.toNat (List.take i l)) = some (flo l) := by rw [e]; rfl
    by_cases h : (i : Int) < (l.length : Int)
    · rw [if_pos h, if_neg (by omega)]; exact hr
    · rw [if_neg h]; exact hr
  | succ d ih =>
    intro k i hd hi hk
    obtain ⟨k, rfl⟩ : ∃ m, k = m + 1 := ⟨k - 1, by omega⟩
    simp only [ashlarlaw02_floats.l0]
    have hil : i < l.length := by omega
    have hlen : (List.map Int.toNat (List.take i l)).length < 17592186044416 := by
      rw [List.length_map, List.length_take]; omega
    rw [if_pos (by omega), if_pos (by omega), if_pos (by omega), if_pos hlen, wrap_succ (by omega) (by omega), rdI_nat]
    have e : List.map Int.toNat (List.take i l) ++ [(l.getD i 0).toNat] = List.map Int.toNat (List.take (i + 1) l) := by
      rw [List.take_succ_eq_append_getElem hil, List.map_append, getD_of_lt l i 0 hil]; rfl
    rw [e]
    exact ih k (i + 1) (by omega) (by omega) (by omega)
theorem floats_f (l : List Int) (k : Nat) (hk : 101 ≤ k) : ashlarlaw02_floats.f k l = some (flo l) := by
  unfold ashlarlaw02_floats.f
  have := floats_loop l (min l.length 100) k 0 (by omega) (by omega) (by omega)
  simpa using this
theorem flo_len (l : List Int) : (flo l).length = min l.length 100 := by unfold flo; rw [List.length_map, List.length_take, Nat.min_comm]
theorem flo_W (l : List Int) (h : ∀ x ∈ l, (Lit.int .u64 x).wf = true) : Ws (flo l) := by
  intro x hx
  unfold flo at hx
  rw [List.mem_map] at hx
  obtain ⟨y, hy, rfl⟩ := hx
  have := h y (List.mem_of_mem_take hy)
  have hb : (0 : Int) ≤ y ∧ y ≤ 18446744073709551615 := by simpa [Lit.wf, IntKind.min, IntKind.max, IntKind.signed, IntKind.bits] using this
  unfold W
  omega

/-! ### Rescale -/
def lim : Nat := 6103021453049119613
def less : Nat := 3110860544497550640
def farB (x : Nat) : Bool := decide (lim < rung (tame x))
def mulT (x : Nat) : Nat := mulW (tame x) less
def rescale (l : List Nat) : List Nat × Bool := if l.any farB then (l.map mulT, true) else (l.map tame, false)
theorem far_f (x : Nat) (hx : W x) : ∃ t, math_Abs.f (tame x) = some t ∧ fGt t 6103021453049119613 = farB x := by
  have hi := inf_lt
  have hf := tame_fin x
  refine ⟨_, abs_f _ (tame_W x hx), ?_⟩
  obtain ⟨a, b⟩ := rung_small (rung (tame x)) (by omega)
  have e1 : sv 6103021453049119613 = (V lim : Int) := sv_small lim (by decide)
  rw [gt_eq (by omega) (by decide), e1, sv_small _ (by omega)]
  unfold farB
  rw [Bool.eq_iff_iff]
  simp only [decide_eq_true_eq]
  have := V_lt_iff lim (rung (tame x))
  omega
theorem mul_ok (x : Nat) (hx : rung x < inf) : fMulOk x 3110860544497550640 = true ∧ fMul x 3110860544497550640 = mulW x less := by
  unfold fMulOk fMul
  rw [mul_fin x 3110860544497550640 hx (by decide)]
  exact ⟨rfl, rfl⟩
theorem W_getD (l : List Nat) (h : Ws l) (i : Nat) : W (l.getD i 0) := by
  by_cases hi : i < l.length
  · exact h _ (getD_mem l i 0 hi)
  · rw [List.getD_eq_getElem?_getD, List.getElem?_eq_none (by omega)]; show W 0; unfold W; omega
theorem set_app {α : Type} (a : List α) (n : Nat) (x y : α) (i : Nat) (h : a.length = i) : (a ++ List.replicate (n + 1) x).set i y = a ++ [y] ++ List.replicate n x := by
  rw [List.set_append, if_neg (by omega), show i - a.length = 0 by omega, List.replicate_succ, List.set_cons_zero, List.append_assoc]; rfl
theorem set_app2 {α : Type} (a b : List α) (x y : α) (i : Nat) (h : a.length = i) : (a ++ x :: b).set i y = a ++ [y] ++ b := by
  rw [List.set_append, if_neg (by omega), show i - a.length = 0 by omega, List.set_cons_zero, List.append_assoc]; rfl
theorem drop_cons {α : Type} (l : List α) (i : Nat) (d : α) (h : i < l.length) : l.drop i = l.getD i d :: l.drop (i + 1) := by
  rw [getD_of_lt l i d h, List.drop_eq_getElem_cons h]
theorem take_snoc {α : Type} (l : List α) (i : Nat) (d : α) (h : i < l.length) : l.take (i + 1) = l.take i ++ [l.getD i d] := by
  rw [getD_of_lt l i d h, List.take_succ_eq_append_getElem h]
theorem getD_mid {α : Type} (a b : List α) (x d : α) (i : Nat) (h : a.length = i) : (a ++ x :: b).getD i d = x := by
  rw [List.getD_eq_getElem?_getD, List.getElem?_append_right (by omega), show i - a.length = 0 by omega]; rfl

theorem resc_l1 (l : List Nat) (hl : l.length < 9223372036854775807) (far : Bool) (d : Nat) : ∀ (k i : Nat), l.length - i = d → i ≤ l.length → d < k →
    weigh_Rescale.l1 k ((l.take i).map (fun x => if far then mulT x else tame x) ++ (l.drop i).map tame) far (l.length : Int) (i : Int) = some (l.map (fun x => if far then mulT x else tame x), far) := by
  induction d with
  | zero =>
    intro k i hd hi hk
    obtain ⟨k, rfl⟩ : ∃ m, k = m + 1 := ⟨k - 1, by omega⟩
    simp only [weigh_Rescale.l1]
    rw [if_neg (by omega), List.take_of_length_le (by omega), List.drop_eq_nil_of_le (by omega), List.map_nil, List.append_nil]
  | succ d ih =>
    intro k i hd hi hk
    obtain ⟨k, rfl⟩ : ∃ m, k = m + 1 := ⟨k - 1, by omega⟩
    simp only [weigh_Rescale.l1]
    have hil : i < l.length := by omega
    have ha : ((l.take i).map (fun x => if far then mulT x else tame x)).length = i := by rw [List.length_map, List.length_take]; omega
    have hq : ((l.take i).map (fun x => if far then mulT x else tame x) ++ (l.drop i).map tame).length = l.length := by rw [List.length_append, ha, List.length_map, List.length_drop]; omega
    have hsn : ∀ g : Nat → Nat, (l.take (i + 1)).map g = (l.take i).map g ++ [g (l.getD i 0)] := fun g => by rw [take_snoc l i 0 hil, List.map_append]; rfl
    rw [if_pos (by omega), wrap_succ (by omega) (by omega)]
    have hrec := ih k (i + 1) (by omega) (by omega) (by omega)
    rw [hsn] at hrec
    cases far with
    | false =>
      rw [if_neg (by decide)]
      simp only [Bool.false_eq_true, if_false] at hrec ⊢
      have e : (l.take i).map (fun x => tame x) ++ (l.drop i).map tame = (l.take i).map (fun x => tame x) ++ [tame (l.getD i 0)] ++ (l.drop (i + 1)).map tame := by
        rw [drop_cons l i 0 hil, List.map_cons, List.append_assoc]; rfl
      rw [e]; exact hrec
    | true =>
      simp only [if_true] at hrec ha hq ⊢
      rw [if_pos (by omega), if_pos (by rw [hq]; omega), rd_nat, drop_cons l i 0 hil, List.map_cons, getD_mid _ _ _ _ _ ha, Int.toNat_natCast]
      obtain ⟨a, b⟩ := mul_ok (tame (l.getD i 0)) (tame_fin _)
      rw [if_pos a, b, set_app2 _ _ _ _ _ ha]
      exact hrec
theorem resc_l0 (l : List Nat) (hw : Ws l) (hl : l.length < 9223372036854775807) (d : Nat) : ∀ (k i : Nat), l.length - i = d → i ≤ l.length → d + l.length + 1 < k →
    weigh_Rescale.l0 k ((l.take i).map tame ++ List.replicate (l.length - i) 0) ((l.take i).any farB) l (l.length : Int) (i : Int) = some (rescale l) := by
  induction d with
  | zero =>
    intro k i hd hi hk
    obtain ⟨k, rfl⟩ : ∃ m, k = m + 1 := ⟨k - 1, by omega⟩
    simp only [weigh_Rescale.l0]
    have e1 : l.take i = l := List.take_of_length_le (by omega)
    have e2 : l.length - i = 0 := by omega
    rw [if_neg (by omega), e1, e2, List.replicate_zero, List.append_nil, List.length_map]
    have h := resc_l1 l hl (l.any farB) l.length k 0 (by omega) (by omega) (by omega)
    rw [List.take_zero, List.map_nil, List.nil_append, List.drop_zero] at h
    rw [show ((0 : Nat) : Int) = 0 from rfl] at h
    rw [h]
    unfold rescale
    cases l.any farB <;> simp
  | succ d ih =>
    intro k i hd hi hk
    obtain ⟨k, rfl⟩ : ∃ m, k = m + 1 := ⟨k - 1, by omega⟩
    simp only [weigh_Rescale.l0]
    have hil : i < l.length := by omega
    have ha : ((l.take i).map tame).length = i := by rw [List.length_map, List.length_take]; omega
    have hq : ((l.take i).map tame ++ List.replicate (l.length - i) 0).length = l.length := by rw [List.length_append, ha, List.length_replicate]; omega
    have hW := W_getD l hw i
    rw [if_pos (by omega), if_pos (by omega), if_pos (by omega), rd_nat, tame_f _ hW, Option.bind_some, if_pos (by rw [hq]; omega), Option.bind_some, Int.toNat_natCast, wrap_succ (by omega) (by omega)]
    have hr : l.length - i = (l.length - (i + 1)) + 1 := by omega
    rw [hr, set_app _ _ _ _ _ ha]
    have hrec := ih k (i + 1) (by omega) (by omega) (by omega)
    have e1 : (l.take (i + 1)).map tame = (l.take i).map tame ++ [tame (l.getD i 0)] := by rw [take_snoc l i 0 hil, List.map_append]; rfl
    have e2 : (l.take (i + 1)).any farB = ((l.take i).any farB || farB (l.getD i 0)) := by rw [take_snoc l i 0 hil, List.any_append]; simp
    rw [e1, e2] at hrec
    have e3 : rdOf (0 : Nat) ((l.take i).map tame ++ [tame (l.getD i 0)] ++ List.replicate (l.length - (i + 1)) 0) (i : Int) = tame (l.getD i 0) := by
      rw [rd_nat, List.append_assoc]; exact getD_mid _ _ _ _ _ ha
    cases hb : (l.take i).any farB with
    | true => rw [if_pos rfl]; rw [hb] at hrec; exact hrec
    | false =>
      rw [if_neg (by decide), e3]
      obtain ⟨t, ht, hg⟩ := far_f (l.getD i 0) hW
      rw [ht, Option.bind_some, hg]
      rw [hb] at hrec; exact hrec
theorem rescale_f (l : List Nat) (hw : Ws l) (hl : l.length ≤ 1000000) (k : Nat) (hk : 2 * l.length + 2 ≤ k) : weigh_Rescale.f k l = some (rescale l) := by
  unfold weigh_Rescale.f
  rw [if_pos (by omega), if_pos (by omega)]
  have := resc_l0 l hw (by omega) l.length k 0 (by omega) (by omega) (by omega)
  simpa using this

/-! ### the reference's Rescale -/
theorem rfar (x : Nat) : fGt (tame x) 6103021453049119613 = (decide (lim < rung (tame x)) && !sgn (tame x)) ∧ fLt (tame x) 15326393489903895421 = (decide (lim < rung (tame x)) && sgn (tame x)) := by
  have hi := inf_lt
  have hf := tame_fin x
  have e1 : sv 6103021453049119613 = (V lim : Int) := sv_small lim (by decide)
  have e2 : sv 15326393489903895421 = -(V lim : Int) := sv_word true lim (by decide)
  have := V_lt_iff lim (rung (tame x))
  rw [gt_eq (by omega) (by decide), lt_eq (by omega) (by decide), e1, e2]
  have p : 0 < V lim := Nat.pos_of_ne_zero (V_ne lim (by decide))
  unfold sv
  constructor
  · rw [Bool.eq_iff_iff]; cases sgn (tame x) <;> simp <;> omega
  · rw [Bool.eq_iff_iff]; cases sgn (tame x) <;> simp <;> omega
theorem rresc_l1 (l : List Nat) (hl : l.length < 9223372036854775807) (d : Nat) : ∀ (k i : Nat), l.length - i = d → i ≤ l.length → d < k →
    ashlarref02_Rescale.l1 k ((l.take i).map mulT ++ (l.drop i).map tame) true (i : Int) = some (l.map mulT, true) := by
  induction d with
  | zero =>
    intro k i hd hi hk
    obtain ⟨k, rfl⟩ : ∃ m, k = m + 1 := ⟨k - 1, by omega⟩
    simp only [ashlarref02_Rescale.l1]
    have hq : ((l.take i).map mulT ++ (l.drop i).map tame).length = l.length := by rw [List.length_append, List.length_map, List.length_take, List.length_map, List.length_drop]; omega
    rw [if_neg (by rw [hq]; omega), List.take_of_length_le (by omega), List.drop_eq_nil_of_le (by omega), List.map_nil, List.append_nil]
  | succ d ih =>
    intro k i hd hi hk
    obtain ⟨k, rfl⟩ : ∃ m, k = m + 1 := ⟨k - 1, by omega⟩
    simp only [ashlarref02_Rescale.l1]
    have hil : i < l.length := by omega
    have ha : ((l.take i).map mulT).length = i := by rw [List.length_map, List.length_take]; omega
    have hq : ((l.take i).map mulT ++ (l.drop i).map tame).length = l.length := by rw [List.length_append, ha, List.length_map, List.length_drop]; omega
    have hsn : (l.take (i + 1)).map mulT = (l.take i).map mulT ++ [mulT (l.getD i 0)] := by rw [take_snoc l i 0 hil, List.map_append]; rfl
    have hrec := ih k (i + 1) (by omega) (by omega) (by omega)
    rw [hsn] at hrec
    rw [if_pos (by rw [hq]; omega), if_pos trivial, if_pos (by omega), rd_nat, wrap_succ (by omega) (by omega), drop_cons l i 0 hil, List.map_cons, getD_mid _ _ _ _ _ ha, Int.toNat_natCast]
    obtain ⟨a, b⟩ := mul_ok (tame (l.getD i 0)) (tame_fin _)
    rw [if_pos a, b, set_app2 _ _ _ _ _ ha]
    exact hrec
theorem rresc_l0 (l : List Nat) (hw : Ws l) (hl : l.length < 1000001) (d : Nat) : ∀ (k i : Nat), l.length - i = d → i ≤ l.length → d + l.length + 1 < k →
    ashlarref02_Rescale.l0 k l ((l.take i).map tame) ((l.take i).any farB) (i : Int) = some (rescale l) := by
  induction d with
  | zero =>
    intro k i hd hi hk
    obtain ⟨k, rfl⟩ : ∃ m, k = m + 1 := ⟨k - 1, by omega⟩
    simp only [ashlarref02_Rescale.l0]
    have e1 : l.take i = l := List.take_of_length_le (by omega)
    rw [if_neg (by omega), e1]
    unfold rescale
    cases hb : l.any farB with
    | true =>
      have h := rresc_l1 l (by omega) l.length k 0 (by omega) (by omega) (by omega)
      rw [List.take_zero, List.map_nil, List.nil_append, List.drop_zero] at h
      exact h
    | false =>
      obtain ⟨k, rfl⟩ : ∃ m, k = m + 1 := ⟨k - 1, by omega⟩
      simp only [ashlarref02_Rescale.l1]
      split <;> simp
  | succ d ih =>
    intro k i hd hi hk
    obtain ⟨k, rfl⟩ : ∃ m, k = m + 1 := ⟨k - 1, by omega⟩
    simp only [ashlarref02_Rescale.l0]
    have hil : i < l.length := by omega
    have ha : ((l.take i).map tame).length < 17592186044416 := by rw [List.length_map, List.length_take]; omega
    have hW := W_getD l hw i
    have hrec := ih k (i + 1) (by omega) (by omega) (by omega)
    have e1 : (l.take (i + 1)).map tame = (l.take i).map tame ++ [tame (l.getD i 0)] := by rw [take_snoc l i 0 hil, List.map_append]; rfl
    have e2 : (l.take (i + 1)).any farB = ((l.take i).any farB || farB (l.getD i 0)) := by rw [take_snoc l i 0 hil, List.any_append]; simp
    rw [e1, e2] at hrec
    obtain ⟨r1, r2⟩ := rfar (l.getD i 0)
    have hfb : farB (l.getD i 0) = decide (lim < rung (tame (l.getD i 0))) := rfl
    rw [if_pos (by omega), if_pos (by omega), rd_nat, rtame_f _ hW, Option.bind_some, wrap_succ (by omega) (by omega)]
    cases hb : (l.take i).any farB with
    | true => rw [if_pos rfl, if_pos ha]; rw [hb] at hrec; exact hrec
    | false =>
      rw [if_neg (by decide), if_pos ha, if_pos ha, r1, r2]
      rw [hb, hfb] at hrec
      cases hx : decide (lim < rung (tame (l.getD i 0))) <;> rw [hx] at hrec <;> cases hs : sgn (tame (l.getD i 0)) <;> simpa using hrec
theorem rrescale_f (l : List Nat) (hw : Ws l) (hl : l.length ≤ 1000000) (k : Nat) (hk : 2 * l.length + 2 ≤ k) : ashlarref02_Rescale.f k l = some (rescale l) := by
  unfold ashlarref02_Rescale.f
  have := rresc_l0 l hw (by omega) l.length k 0 (by omega) (by omega) (by omega)
  simpa using this

/-! ### Heavy -/
/-- h is the place of the greatest, the first such. -/
def Top (l : List Nat) (h : Nat) : Prop := h < l.length ∧ (∀ i, i < l.length → K (l.getD i 0) ≤ K (l.getD h 0)) ∧ ∀ i, i < h → K (l.getD i 0) < K (l.getD h 0)
theorem heavyK_top (l : List Nat) (hw : Ws l) (n : Nat) : 0 < n → ∃ h : Nat, heavyK l n = (h : Int) ∧ h < n ∧ (∀ i, i < n → K (l.getD i 0) ≤ K (l.getD h 0)) ∧ ∀ i, i < h → K (l.getD i 0) < K (l.getD h 0) := by
  induction n with
  | zero => intro h; omega
  | succ n ih =>
    intro _
    have hs : heavyK l (n + 1) = if heavyK l n < 0 ∨ lessB (rdOf (0 : Nat) l (heavyK l n)) (rdOf (0 : Nat) l n) = true then (n : Int) else heavyK l n := rfl
    by_cases h0 : n = 0
    · subst h0
      refine ⟨0, ?_, by omega, ?_, by intro i hi; omega⟩
      · rw [hs, if_pos (Or.inl (by show (-1 : Int) < 0; omega))]
      · intro i hi; obtain rfl : i = 0 := by omega
        exact Int.le_refl _
    · obtain ⟨h, e, hn, ha, hb⟩ := ih (by omega)
      rw [e, rd_nat, rd_nat, less_eq _ _ (W_getD l hw h) (W_getD l hw n)] at hs
      by_cases c : K (l.getD h 0) < K (l.getD n 0)
      · refine ⟨n, ?_, by omega, ?_, ?_⟩
        · rw [hs, if_pos (Or.inr (decide_eq_true c))]
        · intro i hi
          by_cases g : i = n
          · subst g; exact Int.le_refl _
          · have := ha i (by omega); omega
        · intro i hi; have := ha i (by omega); omega
      · refine ⟨h, ?_, by omega, ?_, hb⟩
        · rw [hs, if_neg (by simp only [decide_eq_true_eq]; omega)]
        · intro i hi
          by_cases g : i = n
          · subst g; omega
          · exact ha i (by omega)
theorem heavy_f (l : List Nat) (hw : Ws l) (hl : l.length ≤ 1000000) : (l = [] ∧ weigh_Heavy.f l = some (-1)) ∨ ∃ h : Nat, weigh_Heavy.f l = some (h : Int) ∧ Top l h := by
  unfold weigh_Heavy.f
  rw [if_pos (by omega)]
  by_cases h0 : l.length = 0
  · have : l = [] := List.eq_nil_of_length_eq_zero h0
    subst this; exact Or.inl ⟨rfl, rfl⟩
  · obtain ⟨h, e, hn, ha, hb⟩ := heavyK_top l hw l.length (by omega)
    exact Or.inr ⟨h, by rw [e], hn, ha, hb⟩
theorem Top.unique {l : List Nat} {a b : Nat} (ha : Top l a) (hb : Top l b) : a = b := by
  obtain ⟨a1, a2, a3⟩ := ha
  obtain ⟨b1, b2, b3⟩ := hb
  rcases Nat.lt_trichotomy a b with h | h | h
  · have := b3 a h; have := a2 b b1; omega
  · exact h
  · have := a3 b h; have := b2 a a1; omega

/-! ### the reference's Heavy -/
theorem rheavy_l1 (l : List Nat) (hw : Ws l) (hl : l.length < 9223372036854775807) (i : Nat) (hil : i < l.length) (d : Nat) : ∀ (k j : Nat) (m : Bool), l.length - j = d → j ≤ l.length → d < k →
    (m = true → ∀ q, q < j → K (l.getD q 0) ≤ K (l.getD i 0)) → (m = false → ∃ q, q < j ∧ K (l.getD i 0) < K (l.getD q 0)) →
    ((∀ q, q < l.length → K (l.getD q 0) ≤ K (l.getD i 0)) ∧ ashlarref02_Heavy.l1 k l (i : Int) m (j : Int) = some (i : Int)) ∨
    ((∃ q, q < l.length ∧ K (l.getD i 0) < K (l.getD q 0)) ∧ ashlarref02_Heavy.l1 k l (i : Int) m (j : Int) = ashlarref02_Heavy.l0 (k - d - 1) l ((i + 1 : Nat) : Int)) := by
  induction d with
  | zero =>
    intro k j m hd hj hk ht hf
    obtain ⟨k, rfl⟩ : ∃ m, k = m + 1 := ⟨k - 1, by omega⟩
    simp only [ashlarref02_Heavy.l1]
    rw [if_neg (by omega)]
    cases m with
    | true => rw [if_pos rfl]; exact Or.inl ⟨fun q hq => ht rfl q (by omega), rfl⟩
    | false =>
      rw [if_neg (by decide), wrap_succ (by omega) (by omega)]
      obtain ⟨q, hq, hk⟩ := hf rfl
      exact Or.inr ⟨⟨q, by omega, hk⟩, rfl⟩
  | succ d ih =>
    intro k j m hd hj hk ht hf
    obtain ⟨k, rfl⟩ : ∃ m, k = m + 1 := ⟨k - 1, by omega⟩
    simp only [ashlarref02_Heavy.l1]
    rw [if_pos (by omega), wrap_succ (by omega) (by omega)]
    have hjs : (j : Int) + 1 = ((j + 1 : Nat) : Int) := by omega
    have hkk : k + 1 - (d + 1) - 1 = k - d - 1 := by omega
    rw [hkk, hjs]
    cases m with
    | true =>
      rw [if_pos rfl, if_pos (by omega), rd_nat, rd_nat, place_f _ (W_getD l hw j), Option.bind_some, if_pos (by omega), if_pos (by omega), place_f _ (W_getD l hw i), Option.bind_some]
      have e : decide (K (l.getD j 0) + 9223372036854775809 ≤ K (l.getD i 0) + 9223372036854775809) = decide (K (l.getD j 0) ≤ K (l.getD i 0)) := by
        rw [Bool.eq_iff_iff]; simp only [decide_eq_true_eq]; omega
      rw [e]
      refine ih k (j + 1) _ (by omega) (by omega) (by omega) ?_ ?_
      · intro hm q hq
        by_cases g : q = j
        · subst g; exact of_decide_eq_true hm
        · exact ht rfl q (by omega)
      · intro hm
        exact ⟨j, by omega, by have := of_decide_eq_false hm; omega⟩
    | false =>
      rw [if_neg (by decide)]
      obtain ⟨q, hq, hk'⟩ := hf rfl
      exact ih k (j + 1) false (by omega) (by omega) (by omega) (fun h => by cases h) (fun _ => ⟨q, by omega, hk'⟩)
theorem rheavy_l0 (l : List Nat) (hw : Ws l) (hl : l.length < 9223372036854775807) (h : Nat) (ht : Top l h) (d : Nat) : ∀ (k i : Nat), h - i = d → i ≤ h → (d + 1) * (l.length + 2) < k → ashlarref02_Heavy.l0 k l (i : Int) = some (h : Int) := by
  induction d with
  | zero =>
    intro k i hd hi hk
    obtain ⟨k, rfl⟩ : ∃ m, k = m + 1 := ⟨k - 1, by omega⟩
    have hlt := ht.1
    obtain rfl : i = h := by omega
    simp only [ashlarref02_Heavy.l0]
    rw [if_pos (by omega)]
    rcases rheavy_l1 l hw hl i hlt l.length k 0 true (by omega) (by omega) (by omega) (fun _ q hq => by omega) (fun h => by cases h) with ⟨_, e⟩ | ⟨⟨q, hq, hk'⟩, _⟩
    · exact e
    · have := ht.2.1 q hq; omega
  | succ d ih =>
    intro k i hd hi hk
    obtain ⟨k, rfl⟩ : ∃ m, k = m + 1 := ⟨k - 1, by omega⟩
    have hlt := ht.1
    have hmul : (d + 1 + 1) * (l.length + 2) = (d + 1) * (l.length + 2) + (l.length + 2) := by rw [Nat.add_mul (d + 1) 1, Nat.one_mul]
    simp only [ashlarref02_Heavy.l0]
    rw [if_pos (by omega)]
    rcases rheavy_l1 l hw hl i (by omega) l.length k 0 true (by omega) (by omega) (by omega) (fun _ q hq => by omega) (fun h => by cases h) with ⟨h1, _⟩ | ⟨_, e⟩
    · have := h1 h hlt; have := ht.2.2 i (by omega); omega
    · rw [show ((0 : Nat) : Int) = 0 from rfl] at e
      rw [e]
      exact ih _ (i + 1) (by omega) (by omega) (by omega)
theorem rheavy_f (l : List Nat) (hw : Ws l) (hl : l.length ≤ 100) (k : Nat) (hk : 10400 ≤ k) : ashlarref02_Heavy.f k l = weigh_Heavy.f l := by
  unfold ashlarref02_Heavy.f
  rcases heavy_f l hw (by omega) with ⟨e, h⟩ | ⟨h, e, ht⟩
  · subst e
    obtain ⟨k, rfl⟩ : ∃ m, k = m + 1 := ⟨k - 1, by omega⟩
    rw [h]; rfl
  · rw [e]
    have hh := ht.1
    have : (h - 0 + 1) * (l.length + 2) ≤ 100 * 102 := Nat.mul_le_mul (by omega) (by omega)
    exact rheavy_l0 l hw (by omega) h ht (h - 0) k 0 rfl (by omega) (by omega)

/-! ### same, shown -/
theorem same_f (x y : Nat) : ashlarlaw02_same.f x y = some (decide (rung x ≤ inf) && (decide (rung y ≤ inf) && decide (x = y))) := by
  unfold ashlarlaw02_same.f
  rw [eq_self, eq_self]
  by_cases h : rung x ≤ inf
  · rw [if_pos (decide_eq_true h), decide_eq_true h]
    by_cases g : rung y ≤ inf
    · rw [if_pos (decide_eq_true g), decide_eq_true g]
      congr 1
      rw [Bool.eq_iff_iff]
      simp
      omega
    · rw [if_neg (by simpa using g), decide_eq_false g]; rfl
  · rw [if_neg (by simpa using h), decide_eq_false h]; rfl
theorem same_self (x : Nat) (h : rung x ≤ inf) : ashlarlaw02_same.f x x = some true := by
  rw [same_f, decide_eq_true h]; simp
theorem shown_8 : ashlarlaw02_shown.f 8 = some true := by decide +kernel
theorem shown_f (k : Nat) (hk : 8 ≤ k) : ashlarlaw02_shown.f k = some true := by
  obtain ⟨d, rfl⟩ : ∃ d, k = 8 + d := ⟨k - 8, by omega⟩
  clear hk
  induction d with
  | zero => exact shown_8
  | succ d ih => exact ashlarlaw02_shown.mono (8 + d) _ ih
theorem uW {a : Int} (h : (Lit.int .u64 a).wf = true) : W a.toNat := by
  have hb : (0 : Int) ≤ a ∧ a ≤ 18446744073709551615 := by simpa [Lit.wf, IntKind.min, IntKind.max, IntKind.signed, IntKind.bits] using h
  unfold W
  omega
theorem less_k (k : Nat) (hk : 1 ≤ k) (a b : Nat) (ha : W a) (hb : W b) : weigh_Less.f k a b = some (decide (K a < K b)) := by
  obtain ⟨n, rfl⟩ : ∃ n, k = n + 1 := ⟨k - 1, by omega⟩
  exact less_f n a b ha hb
end Go.Proofs.Ytglpafflpcgnpaa.Fl
