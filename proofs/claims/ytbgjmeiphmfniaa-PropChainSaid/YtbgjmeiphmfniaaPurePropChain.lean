/- The law PropChain, in plain Lean: what follows goes on and on. -/
import Derived.Test.YtbgjmeiphmfniaaPropFew
import Derived.Test.YtbgjmeiphmfniaaQx10
namespace Go.Proofs.Ytbgjmeiphmfniaa.Pure
open Go.RowKit Go.Proofs.Ytbgjmeiphmfniaa.Q Go.Proofs.Ytbgjmeiphmfniaa.PT Go.Proofs.YtbgjmeiphmfniaaW.PrintWords Go.Proofs.YtbgjmeiphmfniaaW.PrintLast Go.Proofs.YtbgjmeiphmfniaaW.PrintMore

/-- l holds just the links of a chain of n. -/
def Links (l : List (List Int)) (n : Int) : Prop := ∀ c, c ∈ l ↔ ∃ i : Int, 1 ≤ i ∧ i < n ∧ c = [-i, i + 1]
theorem link_up {z : List Int} {i : Int} (h : idle z [-i, i + 1]) (hi : lv z i = 1) : lv z (i + 1) = 1 := by
  have hn := lv_opp hi
  rcases lv_cases z (i + 1) with e | e | e
  · exact e
  · exact (idle_not_fls h (flsB_iff.2 fun x hx => by
      rcases List.mem_cons.1 hx with rfl | hx
      · exact hn
      · rw [List.mem_singleton.1 hx]; exact e)).elim
  · exact (idle_not_unt h (n := i + 1) (untB_iff.2 ⟨by simp, e, fun x hx => by
      rcases List.mem_cons.1 hx with rfl | hx
      · exact .inl hn
      · exact .inr (List.mem_singleton.1 hx)⟩)).elim
theorem link_down {z : List Int} {i : Int} (h : idle z [-i, i + 1]) (hi : lv z (i + 1) = -1) : lv z (-i) = 1 := by
  rcases lv_cases z (-i) with e | e | e
  · exact e
  · exact (idle_not_fls h (flsB_iff.2 fun x hx => by
      rcases List.mem_cons.1 hx with rfl | hx
      · exact e
      · rw [List.mem_singleton.1 hx]; exact hi)).elim
  · exact (idle_not_unt h (n := -i) (untB_iff.2 ⟨by simp, e, fun x hx => by
      rcases List.mem_cons.1 hx with rfl | hx
      · exact .inr rfl
      · exact .inl (by rw [List.mem_singleton.1 hx]; exact hi)⟩)).elim
theorem chain_up {l : List (List Int)} {n : Int} (hl : Links l n) {z : List Int} (hz : ∀ c ∈ l, idle z c) (h1 : lv z 1 = 1) (d : Nat) : (d : Int) + 1 ≤ n → lv z ((d : Int) + 1) = 1 := by
  induction d with
  | zero => intro _; exact h1
  | succ d ih =>
    intro h
    have := link_up (i := (d : Int) + 1) (hz _ ((hl _).2 ⟨_, by omega, by omega, rfl⟩)) (ih (by omega))
    have e : ((d + 1 : Nat) : Int) + 1 = (d : Int) + 1 + 1 := by omega
    rw [e]
    exact this
theorem chain_down {l : List (List Int)} {n : Int} (hl : Links l n) {z : List Int} (hz : ∀ c ∈ l, idle z c) (h1 : lv z n = -1) (d : Nat) : 1 ≤ n - (d : Int) → lv z (n - (d : Int)) = -1 := by
  induction d with
  | zero => intro _; rw [show n - ((0 : Nat) : Int) = n by omega]; exact h1
  | succ d ih =>
    intro h
    have e : n - ((d + 1 : Nat) : Int) + 1 = n - (d : Int) := by omega
    have := link_down (i := n - ((d + 1 : Nat) : Int)) (hz _ ((hl _).2 ⟨_, by omega, by omega, rfl⟩)) (by rw [e]; exact ih (by omega))
    have h2 := lv_opp this
    rw [Int.neg_neg] at h2
    exact h2

/-- All variables from 1 on say v. -/
def allOf (n : Nat) (v : Int) : List Int := 0 :: List.replicate n v
theorem rd_allOf (n : Nat) (v : Int) (j : Int) (h0 : 1 ≤ j) (h1 : j ≤ (n : Int)) : rd (allOf n v) j = v := by
  unfold rd allOf
  obtain ⟨m, hm⟩ : ∃ m, j.toNat = m + 1 := ⟨j.toNat - 1, by omega⟩
  rw [hm, List.getD_eq_getElem?_getD, List.getElem?_cons_succ, List.getElem?_replicate, if_pos (by omega)]
  rfl
theorem lv_allOf (n : Nat) (v : Int) (j : Int) (h0 : 1 ≤ j) (h1 : j ≤ (n : Int)) : lv (allOf n v) j = sg v := by
  rw [lv_pos (by omega) (by simp [allOf]; omega), rd_allOf n v j h0 h1]
theorem lv_allOf_neg (n : Nat) (v : Int) (j : Int) (h0 : 1 ≤ j) (h1 : j ≤ (n : Int)) : lv (allOf n v) (-j) = - sg v := by
  unfold lv
  rw [if_neg (by omega), if_pos (by simp [allOf]; omega), Int.neg_neg, rd_allOf n v j h0 h1]

theorem links_tru {l : List (List Int)} {n : Nat} (hl : Links l (n : Int)) (v : Int) (hv : v = 1 ∨ v = -1) : ∀ c ∈ l, truB (allOf n v) c = true := by
  intro c hc
  obtain ⟨i, h1, h2, rfl⟩ := (hl c).1 hc
  rcases hv with rfl | rfl
  · exact truB_iff.2 ⟨i + 1, by simp, by rw [lv_allOf _ _ _ (by omega) (by omega)]; rfl⟩
  · exact truB_iff.2 ⟨-i, by simp, by rw [lv_allOf_neg _ _ _ (by omega) (by omega)]; rfl⟩

/-- An assignment of n variables with at most two set. -/
theorem lv_rep_set (n : Nat) (i : Int) (h0 : 1 ≤ i) (h1 : i ≤ (n : Int)) (v : Int) (x : Int) : lv ((List.replicate (n + 1) 0).set i.toNat v) x = if x = i then sg v else if x = -i then - sg v else if (0 < x ∧ x ≤ (n : Int)) ∨ (x < 0 ∧ -x ≤ (n : Int)) then 0 else -1 := by
  have hr : ∀ j : Int, 0 ≤ j → rd ((List.replicate (n + 1) (0 : Int)).set i.toNat v) j = if j = i then v else 0 := by
    intro j hj
    rw [rd_set _ _ _ _ hj]
    have h2 : rd (List.replicate (n + 1) (0 : Int)) j = 0 := by
      unfold rd
      rw [List.getD_eq_getElem?_getD, List.getElem?_replicate]
      split <;> rfl
    by_cases e : j = i
    · rw [if_pos (by simp; omega), if_pos e]
    · rw [if_neg (by omega), if_neg e, h2]
  unfold lv
  rw [List.length_set, List.length_replicate]
  by_cases hx : 0 < x ∧ x < ((n + 1 : Nat) : Int)
  · rw [if_pos hx, hr x (by omega)]
    by_cases e : x = i
    · rw [if_pos e, if_pos e]
    · rw [if_neg e, if_neg e, if_neg (by omega), if_pos (by omega)]
      rfl
  · rw [if_neg hx]
    by_cases hx2 : x < 0 ∧ -x < ((n + 1 : Nat) : Int)
    · rw [if_pos hx2, hr (-x) (by omega)]
      by_cases e : x = -i
      · rw [if_pos (by omega), if_neg (by omega), if_pos e]
      · rw [if_neg (by omega), if_neg (by omega), if_neg e, if_pos (by omega)]
        rfl
    · rw [if_neg hx2, if_neg (by omega), if_neg (by omega), if_neg (by omega)]

theorem agr_all (n : Nat) (i : Int) (h0 : 1 ≤ i) (h1 : i ≤ (n : Int)) (v : Int) (_hv : v = 1 ∨ v = -1) : Agr ((List.replicate (n + 1) 0).set i.toNat v) (allOf n v) := by
  intro x hx
  rw [lv_rep_set n i h0 h1] at hx ⊢
  by_cases e : x = i
  · rw [if_pos e, e, lv_allOf _ _ _ h0 h1]
  · rw [if_neg e] at hx ⊢
    by_cases e2 : x = -i
    · rw [if_pos e2, e2, lv_allOf_neg _ _ _ h0 h1]
    · rw [if_neg e2] at hx ⊢
      by_cases e3 : (0 < x ∧ x ≤ (n : Int)) ∨ (x < 0 ∧ -x ≤ (n : Int))
      · rw [if_pos e3] at hx
        exact (hx rfl).elim
      · rw [if_neg e3]
        unfold lv
        have : (allOf n v).length = n + 1 := by simp [allOf]
        rw [this, if_neg (by omega), if_neg (by omega)]

theorem chain_read {n : Nat} (hn2 : n ≤ 40) {x y : List Int} (hxl : x.length = n + 1) (hyl : y.length = n + 1) (hx : ∀ j : Int, 1 ≤ j → j ≤ (n : Int) → rd x j = 1) (hy : ∀ j : Int, 1 ≤ j → j ≤ (n : Int) → rd y j = -1) (d : Nat) :
    ∀ (j : Nat), 1 ≤ j → n + 1 - j = d → Ev (fun k => ashlarlaw08_PropChain.l2 k (n : Int) true x false y false true (j : Int)) true := by
  induction d with
  | zero =>
    intro j _ hj
    refine Ev.succ ?_
    simp only [ashlarlaw08_PropChain.l2]
    exact Ev.neg (by omega) (Ev.pos trivial (Ev.neg (by simp) (Ev.neg (by simp) (Ev.some_ _))))
  | succ d ih =>
    intro j h1 hj
    have e : wrap64 ((j : Int) + 1) = ((j + 1 : Nat) : Int) := by rw [w64 (by omega) (by omega)]; omega
    refine Ev.succ ?_
    simp only [ashlarlaw08_PropChain.l2, e]
    exact Ev.pos (by omega) (Ev.pos (by omega) (Ev.pos (by omega) (Ev.pos (hx _ (by omega) (by omega)) (Ev.pos (by omega) (Ev.pos (hy _ (by omega) (by omega)) (ih (j + 1) (by omega) (by omega)))))))

set_option maxHeartbeats 2000000 in
/-- The end of the law: the three runs, whatever the order of the links. -/
theorem chain_end {l : List (List Int)} {n : Nat} (hn : 2 ≤ n) (hn2 : n ≤ 40) (hl : Links l (n : Int)) (hsl : Small l) : Ev (fun k => ashlarlaw08_PropChain.j2 k (n : Int) true l) true := by
  have hsg1 : sg 1 = 1 := rfl
  have hsg2 : sg (-1) = -1 := rfl
  have hw : wrap64 ((n : Int) + 1) = ((n + 1 : Nat) : Int) := by rw [w64 (by omega) (by omega)]; omega
  have ht : ((n + 1 : Nat) : Int).toNat = n + 1 := Int.toNat_natCast _
  have wfrep : WfA (List.replicate (n + 1) (0 : Int)) := ⟨fun x hx => by rw [(List.mem_replicate.1 hx).2]; omega, by rw [List.length_replicate]; omega⟩
  have wset : ∀ {a : List Int} (i : Nat) (v : Int), WfA a → v = 1 ∨ v = -1 → WfA (a.set i v) := by
    intro a i v ha hv
    refine ⟨fun x hx => ?_, by rw [List.length_set]; exact ha.2⟩
    rcases List.mem_or_eq_of_mem_set hx with h | h
    · exact ha.1 x h
    · omega
  have hu := wset (1 : Int).toNat 1 wfrep (.inl rfl)
  have hd := wset (n : Int).toNat (-1) wfrep (.inr rfl)
  have hb := wset (n : Int).toNat (-1) (wset (1 : Int).toNat 1 wfrep (.inl rfl)) (.inr rfl)
  obtain ⟨x, r1, hE1, hR1⟩ := unit_ok hsl.wf hu
  obtain ⟨y, r2, hE2, hR2⟩ := unit_ok hsl.wf hd
  obtain ⟨z, r3, hE3, hR3⟩ := unit_ok hsl.wf hb
  obtain ⟨_, g1⟩ := hR1.sound (links_tru hl 1 (.inl rfl)) (agr_all n 1 (by omega) (by omega) 1 (.inl rfl))
  obtain ⟨_, g2⟩ := hR2.sound (links_tru hl (-1) (.inr rfl)) (agr_all n n (by omega) (by omega) (-1) (.inr rfl))
  have hxl : x.length = n + 1 := by rw [hR1.length]; simp
  have hyl : y.length = n + 1 := by rw [hR2.length]; simp
  have hx : ∀ j : Int, 1 ≤ j → j ≤ (n : Int) → rd x j = 1 := by
    intro j h0 h1
    have hone : lv x 1 = 1 := by
      have e := lv_rep_set n 1 (by omega) (by omega) 1 1
      rw [if_pos rfl] at e
      rw [hR1.agr 1 (by rw [e]; decide), e]
      rfl
    have := chain_up hl (hR1.closed g1) hone (j - 1).toNat (by omega)
    have e : (((j - 1).toNat : Int)) + 1 = j := by omega
    rw [e, lv_pos (by omega) (by omega)] at this
    rcases sg_cases (rd x j) with q | q | q <;> try omega
    rcases hR1.vals j (by omega) with f | ⟨_, _, f⟩
    · have hr : rd ((List.replicate (n + 1) (0 : Int)).set (1 : Int).toNat 1) j = 0 ∨ rd ((List.replicate (n + 1) (0 : Int)).set (1 : Int).toNat 1) j = 1 := by
        rw [rd_set _ _ _ _ (by omega)]
        split
        · exact .inr rfl
        · left
          unfold rd
          rw [List.getD_eq_getElem?_getD, List.getElem?_replicate]
          split <;> rfl
      omega
    · omega
  have hy : ∀ j : Int, 1 ≤ j → j ≤ (n : Int) → rd y j = -1 := by
    intro j h0 h1
    have hone : lv y (n : Int) = -1 := by
      have e := lv_rep_set n n (by omega) (by omega) (-1) n
      rw [if_pos rfl] at e
      rw [hR2.agr n (by rw [e]; decide), e]
      rfl
    have := chain_down hl (hR2.closed g2) hone ((n : Int) - j).toNat (by omega)
    have e : (n : Int) - ((((n : Int) - j).toNat : Int)) = j := by omega
    rw [e, lv_pos (by omega) (by omega)] at this
    rcases sg_cases (rd y j) with q | q | q <;> try omega
    rcases hR2.vals j (by omega) with f | ⟨_, _, f⟩
    · have hr : rd ((List.replicate (n + 1) (0 : Int)).set (n : Int).toNat (-1)) j = 0 ∨ rd ((List.replicate (n + 1) (0 : Int)).set (n : Int).toNat (-1)) j = -1 := by
        rw [rd_set _ _ _ _ (by omega)]
        split
        · exact .inr rfl
        · left
          unfold rd
          rw [List.getD_eq_getElem?_getD, List.getElem?_replicate]
          split <;> rfl
      omega
    · omega
  have g3 : r3 = true := by
    cases r3 with
    | true => rfl
    | false =>
      have hrz : ∀ j : Int, 0 ≤ j → rd (((List.replicate (n + 1) (0 : Int)).set (1 : Int).toNat 1).set (n : Int).toNat (-1)) j = if j = (n : Int) then -1 else rd ((List.replicate (n + 1) (0 : Int)).set (1 : Int).toNat 1) j := by
        intro j hj
        rw [rd_set _ _ _ _ hj]
        by_cases e : j = (n : Int)
        · rw [if_pos (by simp; omega), if_pos e]
        · rw [if_neg (by omega), if_neg e]
      have hlen : (((List.replicate (n + 1) (0 : Int)).set (1 : Int).toNat 1).set (n : Int).toNat (-1)).length = n + 1 := by simp
      have l1 : lv (((List.replicate (n + 1) (0 : Int)).set (1 : Int).toNat 1).set (n : Int).toNat (-1)) 1 = 1 := by
        rw [lv_pos (by omega) (by omega), hrz 1 (by omega), if_neg (by omega), rd_set _ _ _ _ (by omega), if_pos (by simp; omega)]
        rfl
      have ln : lv (((List.replicate (n + 1) (0 : Int)).set (1 : Int).toNat 1).set (n : Int).toNat (-1)) (n : Int) = -1 := by
        rw [lv_pos (by omega) (by omega), hrz n (by omega), if_pos rfl]
        rfl
      have h1 : lv z 1 = 1 := by rw [hR3.agr 1 (by omega), l1]
      have hzn : lv z (n : Int) = -1 := by rw [hR3.agr n (by omega), ln]
      have := chain_up hl (hR3.closed rfl) h1 (n - 1) (by omega)
      have e : (((n - 1 : Nat) : Int)) + 1 = (n : Int) := by omega
      rw [e] at this
      omega
  subst g1 g2 g3
  refine Ev.succ ?_
  simp only [ashlarlaw08_PropChain.j2, hw, ht, Option.bind_some, List.length_replicate]
  refine Ev.pos (by omega) (Ev.pos (by omega) (Ev.pos (by omega) (Ev.pos (by omega) (Ev.pos (by omega) (Ev.pos (by omega) (Ev.pos (by omega) (Ev.bind hE1 (Ev.bind hE2 (Ev.bind hE3 (Ev.neg (by simp only; omega) ?_))))))))))
  refine Ev.succ ?_
  simp only [ashlarlaw08_PropChain.j3]
  exact Ev.neg (by simp only [decide_eq_true_eq]; omega) (chain_read hn2 hxl hyl hx hy _ 1 (Nat.le_refl _) rfl)

theorem links_swap {l : List (List Int)} {n : Int} (hl : Links l n) {i j : Nat} (hi : i < l.length) (hj : j < l.length) : Links ((l.set i (rd_L2 l (j : Int))).set j (rd_L2 l (i : Int))) n := by
  have hri : rd_L2 l (i : Int) = l[i] := by
    unfold rd_L2
    rw [Int.toNat_natCast, List.getD_eq_getElem?_getD, List.getElem?_eq_getElem hi]
    rfl
  have hrj : rd_L2 l (j : Int) = l[j] := by
    unfold rd_L2
    rw [Int.toNat_natCast, List.getD_eq_getElem?_getD, List.getElem?_eq_getElem hj]
    rfl
  rw [hri, hrj]
  intro c
  rw [← hl c]
  constructor
  · intro h
    rcases List.mem_or_eq_of_mem_set h with h | h
    · rcases List.mem_or_eq_of_mem_set h with h | h
      · exact h
      · rw [h]; exact List.getElem_mem hj
    · rw [h]; exact List.getElem_mem hi
  · intro h
    obtain ⟨m, hm, rfl⟩ := List.getElem_of_mem h
    by_cases e1 : m = i
    · subst e1
      exact List.mem_iff_getElem.2 ⟨j, by simpa using hj, by rw [List.getElem_set_self]⟩
    · by_cases e2 : m = j
      · subst e2
        refine List.mem_iff_getElem.2 ⟨i, by simpa using hi, ?_⟩
        rw [List.getElem_set_ne (fun h => e1 h), List.getElem_set_self]
      · refine List.mem_iff_getElem.2 ⟨m, by simpa using hm, ?_⟩
        rw [List.getElem_set_ne (fun h => e2 h.symm), List.getElem_set_ne (fun h => e1 h.symm)]
theorem links_small {l : List (List Int)} {n : Int} (hl : Links l n) (h : l.length ≤ 100) : Small l := ⟨by omega, fun c hc => by
  obtain ⟨i, _, _, rfl⟩ := (hl c).1 hc
  simp⟩
theorem chain_turn {n : Nat} (hn : 2 ≤ n) (hn2 : n ≤ 40) (d : Nat) : ∀ (i : Nat) (l : List (List Int)), Links l (n : Int) → l.length ≤ 100 → l.length / 2 - i = d → Ev (fun k => ashlarlaw08_PropChain.l1 k (n : Int) true l (i : Int)) true := by
  induction d with
  | zero =>
    intro i l hl hll hi
    refine Ev.succ ?_
    simp only [ashlarlaw08_PropChain.l1]
    rw [w64 (n := (l.length : Int) / 2) (by omega) (by omega)]
    exact Ev.neg (by omega) (chain_end hn hn2 hl (links_small hl hll))
  | succ d ih =>
    intro i l hl hll hi
    have e : wrap64 ((i : Int) + 1) = ((i + 1 : Nat) : Int) := by rw [w64 (by omega) (by omega)]; omega
    have e2 : wrap64 ((l.length : Int) - 1) = ((l.length - 1 : Nat) : Int) := by rw [w64 (by omega) (by omega)]; omega
    have e3 : wrap64 (((l.length - 1 : Nat) : Int) - (i : Int)) = ((l.length - 1 - i : Nat) : Int) := by rw [w64 (by omega) (by omega)]; omega
    refine Ev.succ ?_
    simp only [ashlarlaw08_PropChain.l1, e, e2, e3, Int.toNat_natCast]
    rw [w64 (n := (l.length : Int) / 2) (by omega) (by omega)]
    refine Ev.pos (by omega) (Ev.pos (by omega) (Ev.pos (by omega) (Ev.pos (by omega) (Ev.pos (by omega) ?_))))
    exact ih (i + 1) _ (links_swap hl (by omega) (by omega)) (by simpa using hll) (by simp; omega)
theorem chain_build {n : Nat} (hn : 2 ≤ n) (hn2 : n ≤ 40) (t : Bool) (d : Nat) : ∀ (i : Nat) (l : List (List Int)), 1 ≤ i → i ≤ n → Links l (i : Int) → l.length = i - 1 → n - i = d → Ev (fun k => ashlarlaw08_PropChain.l0 k (n : Int) t true l (i : Int)) true := by
  induction d with
  | zero =>
    intro i l _ hle hl hll hi
    have hin : i = n := by omega
    subst hin
    refine Ev.succ ?_
    simp only [ashlarlaw08_PropChain.l0]
    refine Ev.neg (by omega) ?_
    by_cases ht : t = true
    · exact Ev.pos ht (chain_turn hn hn2 _ 0 l hl (by omega) rfl)
    · exact Ev.neg ht (chain_end hn hn2 hl (links_small hl (by omega)))
  | succ d ih =>
    intro i l h1 hle hl hll hi
    have e : wrap64 ((i : Int) + 1) = ((i + 1 : Nat) : Int) := by rw [w64 (by omega) (by omega)]; omega
    have e2 : wrap64 (-(i : Int)) = -(i : Int) := w64 (by omega) (by omega)
    refine Ev.succ ?_
    simp only [ashlarlaw08_PropChain.l0, e, e2]
    refine Ev.pos (by omega) (Ev.pos (by omega) ?_)
    refine ih (i + 1) _ (by omega) (by omega) (fun c => ?_) (by simp; omega) (by omega)
    have e3 : ((i + 1 : Nat) : Int) = (i : Int) + 1 := by omega
    rw [List.mem_append, List.mem_singleton, hl c, e3]
    constructor
    · rintro (⟨j, g1, g2, g3⟩ | g)
      · exact ⟨j, g1, by omega, g3⟩
      · exact ⟨i, by omega, by omega, g⟩
    · rintro ⟨j, g1, g2, g3⟩
      by_cases ej : j = (i : Int)
      · exact .inr (by rw [g3, ej])
      · exact .inl ⟨j, g1, by omega, g3⟩

theorem chain_num (a : Int) : ∃ n : Nat, 2 ≤ n ∧ n ≤ 40 ∧ wrap64 (2 + (Int.tmod (Go.bits .and .i64 a 65535) 39)) = (n : Int) := by
  have h : 0 ≤ Go.bits .and .i64 a 65535 := (bits_mask_range a 65535 (by decide)).1
  have h2 : 0 ≤ Int.tmod (Go.bits .and .i64 a 65535) 39 ∧ Int.tmod (Go.bits .and .i64 a 65535) 39 < 39 := ⟨Int.tmod_nonneg _ h, Int.tmod_lt_of_pos _ (by decide)⟩
  exact ⟨(2 + Int.tmod (Go.bits .and .i64 a 65535) 39).toNat, by omega, by omega, by rw [w64 (by omega) (by omega)]; omega⟩

theorem PropChain : ∀ (a0 : Int) (a1 : Bool), (Lit.int .i64 a0).wf = true → ∃ k, ashlarlaw08_PropChain.f k a0 a1 = some true := by
  intro a0 a1 _
  refine Ev.rounds ?_
  obtain ⟨n, h1, h2, hn⟩ := chain_num a0
  unfold ashlarlaw08_PropChain.f
  rw [hn]
  refine Ev.bind shown_ok ?_
  exact chain_build h1 h2 a1 _ 1 [] (Nat.le_refl _) (by omega) (fun c => ⟨fun h => by simp at h, fun ⟨i, g1, g2, _⟩ => by omega⟩) rfl rfl
end Go.Proofs.Ytbgjmeiphmfniaa.Pure
