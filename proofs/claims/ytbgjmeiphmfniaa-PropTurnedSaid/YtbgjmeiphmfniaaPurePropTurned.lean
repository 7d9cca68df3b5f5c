/- The law PropTurned, in plain Lean: which way a variable is counted does not matter. -/
import Derived.Test.YtbgjmeiphmfniaaPropFew
import Derived.Test.YtbgjmeiphmfniaaQx6
import Derived.IntWalk
namespace Go.Proofs.Ytbgjmeiphmfniaa.Pure
set_option linter.unusedVariables false
open Go.RowKit Go.Proofs.Ytbgjmeiphmfniaa.Q Go.Proofs.Ytbgjmeiphmfniaa.PT Go.Proofs.YtbgjmeiphmfniaaW.PrintWords Go.Proofs.YtbgjmeiphmfniaaW.PrintLast Go.Proofs.YtbgjmeiphmfniaaW.PrintMore

/-- A literal with one variable turned. -/
def tn (v x : Int) : Int := if x = v ∨ x = -v then -x else x
def tnL (v : Int) (l : List (List Int)) : List (List Int) := l.map (·.map (tn v))
theorem tn_y {v x : Int} (h : x = v ∨ x = -v) : tn v x = -x := if_pos h
theorem tn_n {v x : Int} (h : ¬ (x = v ∨ x = -v)) : tn v x = x := if_neg h
theorem tn_tn (v x : Int) : tn v (tn v x) = x := by
  by_cases h : x = v ∨ x = -v
  · rw [tn_y h, tn_y (by omega), Int.neg_neg]
  · rw [tn_n h, tn_n h]
theorem tn_inj {v x y : Int} (h : tn v x = tn v y) : x = y := by rw [← tn_tn v x, h, tn_tn]
/-- An assignment with one variable turned. -/
def flip (v : Nat) (a : List Int) : List Int := a.set v (-(rd a (v : Int)))
theorem flip_len (v : Nat) (a : List Int) : (flip v a).length = a.length := List.length_set
theorem rd_flip_eq {v : Nat} {a : List Int} (h : v < a.length) : rd (flip v a) (v : Int) = -(rd a (v : Int)) := by
  unfold flip
  rw [rd_set _ _ _ _ (by omega), if_pos ⟨rfl, h⟩]
theorem rd_flip_ne {v : Nat} {a : List Int} {j : Int} (h0 : 0 ≤ j) (h : j ≠ (v : Int)) : rd (flip v a) j = rd a j := by
  unfold flip
  rw [rd_set _ _ _ _ h0, if_neg (fun k => h k.1)]
theorem flip_flip {v : Nat} {a : List Int} (h : v < a.length) : flip v (flip v a) = a := by
  refine ext_rd (by rw [flip_len, flip_len]) fun j h0 h1 => ?_
  by_cases e : j = (v : Int)
  · subst e
    rw [rd_flip_eq (by rw [flip_len]; exact h), rd_flip_eq h, Int.neg_neg]
  · rw [rd_flip_ne h0 e, rd_flip_ne h0 e]
theorem sg_neg (v : Int) : sg (-v) = - sg v := by
  rcases sg_cases v with ⟨e, h⟩ | ⟨e, h⟩ | ⟨e, h⟩ <;> rcases sg_cases (-v) with ⟨f, g⟩ | ⟨f, g⟩ | ⟨f, g⟩ <;> omega
theorem lv_n' {a : List Int} {x : Int} (h0 : x < 0) (h1 : -x < (a.length : Int)) : lv a x = - sg (rd a (-x)) := by
  unfold lv
  rw [if_neg (by omega), if_pos ⟨h0, h1⟩]
theorem lv_o {a : List Int} {x : Int} (h : ¬ (0 < x ∧ x < (a.length : Int))) (h' : ¬ (x < 0 ∧ -x < (a.length : Int))) : lv a x = -1 := by
  unfold lv
  rw [if_neg h, if_neg h']
theorem lv_flip {v : Nat} {a : List Int} (h1 : 1 ≤ v) (h2 : v < a.length) (x : Int) : lv (flip v a) (tn v x) = lv a x := by
  have hl := flip_len v a
  by_cases e1 : x = (v : Int)
  · subst e1
    rw [tn_y (.inl rfl), lv_n' (by omega) (by omega), lv_pos (by omega) (by omega), Int.neg_neg, rd_flip_eq h2, sg_neg, Int.neg_neg]
  · by_cases e2 : x = -(v : Int)
    · subst e2
      rw [tn_y (.inr rfl), Int.neg_neg, lv_pos (by omega) (by omega), lv_n' (by omega) (by omega), Int.neg_neg, rd_flip_eq h2, sg_neg]
    · rw [tn_n (by omega)]
      by_cases p : 0 < x ∧ x < (a.length : Int)
      · rw [lv_pos p.1 (by omega), lv_pos p.1 p.2, rd_flip_ne (by omega) e1]
      · by_cases q : x < 0 ∧ -x < (a.length : Int)
        · rw [lv_n' q.1 (by omega), lv_n' q.1 q.2, rd_flip_ne (by omega) (by omega)]
        · rw [lv_o (by omega) (by omega), lv_o p q]
section
variable {v : Nat} {a : List Int} (h1 : 1 ≤ v) (h2 : v < a.length)
include h1 h2
theorem fls_flip (c : List Int) : flsB (flip v a) (c.map (tn v)) = flsB a c := by
  rw [Bool.eq_iff_iff, flsB_iff, flsB_iff]
  constructor
  · intro h x hx
    rw [← lv_flip h1 h2 x]
    exact h _ (List.mem_map.2 ⟨x, hx, rfl⟩)
  · intro h y hy
    obtain ⟨x, hx, rfl⟩ := List.mem_map.1 hy
    rw [lv_flip h1 h2 x]
    exact h x hx
theorem tru_flip (c : List Int) : truB (flip v a) (c.map (tn v)) = truB a c := by
  rw [Bool.eq_iff_iff, truB_iff, truB_iff]
  constructor
  · rintro ⟨y, hy, e⟩
    obtain ⟨x, hx, rfl⟩ := List.mem_map.1 hy
    exact ⟨x, hx, by rw [← lv_flip h1 h2 x]; exact e⟩
  · rintro ⟨x, hx, e⟩
    exact ⟨tn v x, List.mem_map.2 ⟨x, hx, rfl⟩, by rw [lv_flip h1 h2 x]; exact e⟩
theorem unt_flip (c : List Int) (n : Int) : untB (flip v a) (c.map (tn v)) (tn v n) = untB a c n := by
  rw [Bool.eq_iff_iff, untB_iff, untB_iff, lv_flip h1 h2 n]
  constructor
  · rintro ⟨m, e, h⟩
    obtain ⟨x, hx, ex⟩ := List.mem_map.1 m
    have := tn_inj ex
    subst this
    refine ⟨hx, e, fun y hy => ?_⟩
    rcases h _ (List.mem_map.2 ⟨y, hy, rfl⟩) with k | k
    · exact .inl (by rw [← lv_flip h1 h2 y]; exact k)
    · exact .inr (tn_inj k)
  · rintro ⟨m, e, h⟩
    refine ⟨List.mem_map.2 ⟨n, m, rfl⟩, e, fun z hz => ?_⟩
    obtain ⟨y, hy, rfl⟩ := List.mem_map.1 hz
    rcases h y hy with k | k
    · exact .inl (by rw [lv_flip h1 h2 y]; exact k)
    · exact .inr (by rw [k])
theorem idle_flip {c : List Int} (h : idle a c) : idle (flip v a) (c.map (tn v)) := by
  refine ⟨by rw [fls_flip h1 h2]; exact h.1, fun n => ?_⟩
  have := unt_flip h1 h2 c (tn v n)
  rw [tn_tn] at this
  rw [this]
  exact h.2 _
theorem put_flip {n : Int} (h : lv a n = 0) : put (flip v a) (tn v n) = flip v (put a n) := by
  have h' : lv (flip v a) (tn v n) = 0 := by rw [lv_flip h1 h2]; exact h
  have hv : v < (put a n).length := by rw [put_length]; exact h2
  refine ext_rd (by rw [put_length, flip_len, flip_len, put_length]) fun j h0 _ => ?_
  rw [rd_put h' j h0]
  by_cases e : j = (v : Int)
  · subst e
    rw [rd_flip_eq hv, rd_put h _ h0, rd_flip_eq h2]
    by_cases e1 : n = (v : Int)
    · subst e1
      rw [tn_y (.inl rfl), if_neg (by omega), if_pos (by omega), if_pos rfl]
    · by_cases e2 : n = -(v : Int)
      · subst e2
        rw [tn_y (.inr rfl), if_pos (by omega), if_neg (by omega), if_pos (by omega)]; rfl
      · rw [tn_n (by omega), if_neg (by omega), if_neg (by omega), if_neg (by omega), if_neg (by omega)]
  · rw [rd_flip_ne h0 e, rd_flip_ne h0 e, rd_put h j h0]
    by_cases e1 : n = (v : Int)
    · subst e1
      rw [tn_y (.inl rfl), if_neg (by omega), if_neg (by omega), if_neg (by omega), if_neg (by omega)]
    · by_cases e2 : n = -(v : Int)
      · subst e2
        rw [tn_y (.inr rfl), if_neg (by omega), if_neg (by omega), if_neg (by omega), if_neg (by omega)]
      · rw [tn_n (by omega)]
end
theorem Run.flip' {v : Nat} {l : List (List Int)} {a b : List Int} {r : Bool} (h : Run l a b r) (h1 : 1 ≤ v) (h2 : v < a.length) : Run (tnL v l) (flip v a) (flip v b) r := by
  induction h with
  | done hd =>
    refine Run.done fun d hd' => ?_
    obtain ⟨c, hc, rfl⟩ := List.mem_map.1 hd'
    exact idle_flip h1 h2 (hd c hc)
  | @conf a c pre post hl hi hc =>
    refine Run.conf (c := c.map (tn v)) (pre := tnL v pre) (post := tnL v post) (by rw [hl]; simp [tnL]) (fun d hd => ?_) (by rw [fls_flip h1 h2]; exact hc)
    obtain ⟨e, he, rfl⟩ := List.mem_map.1 hd
    exact idle_flip h1 h2 (hi e he)
  | @step a c b n r pre post hl hi hc hr ih =>
    refine Run.step (c := c.map (tn v)) (n := tn v n) (pre := tnL v pre) (post := tnL v post) (by rw [hl]; simp [tnL]) (fun d hd => ?_) (by rw [unt_flip h1 h2]; exact hc) ?_
    · obtain ⟨e, he, rfl⟩ := List.mem_map.1 hd
      exact idle_flip h1 h2 (hi e he)
    · rw [put_flip h1 h2 (untB_iff.1 hc).2.1]
      exact ih (by rw [put_length]; exact h2)
theorem eval_flip {v : Nat} {a : List Int} (h1 : 1 ≤ v) (h2 : v < a.length) (l : List (List Int)) : evalV (tnL v l) (flip v a) = evalV l a := by
  unfold evalV tnL
  rw [List.any_map, List.all_map]
  have e1 : (flsB (flip v a) ∘ fun c : List Int => c.map (tn v)) = flsB a := funext fun c => fls_flip h1 h2 c
  have e2 : (truB (flip v a) ∘ fun c : List Int => c.map (tn v)) = truB a := funext fun c => tru_flip h1 h2 c
  rw [e1, e2]
theorem set_mid {α : Type} (pre rest : List α) (x y : α) : (pre ++ x :: rest).set pre.length y = pre ++ y :: rest := by
  rw [List.set_append_right _ _ (Nat.le_refl _), Nat.sub_self, List.set_cons_zero]
/-- One row is turned. -/
theorem turn_row {T : Nat → List (List Int) → List Int → Option Bool} {A B : List Int} {v : Nat} (hv : v ≤ 1000) (D R : List (List Int)) (hD : (D.length : Int) + R.length < 1000) {c0 : List Int} (hc0 : c0.length ≤ 1000) {b : Bool} (next : Ev (fun k => ashlarlaw08_PropTurned.l0 T k A (v : Int) (D ++ c0.map (tn v) :: R) B ((D.length + 1 : Nat) : Int)) b) (cr : List Int) : ∀ cp : List Int, cp ++ cr = c0 →
    Ev (fun k => ashlarlaw08_PropTurned.l1 T k A (v : Int) (D ++ (cp.map (tn v) ++ cr) :: R) B (D.length : Int) (cp.length : Int)) b := by
  induction cr with
  | nil =>
    intro cp hp
    rw [List.append_nil] at hp
    subst hp
    rw [List.append_nil]
    have hll : (D ++ cp.map (tn v) :: R).length = D.length + R.length + 1 := by simp; omega
    have hnx : wrap64 ((D.length : Int) + 1) = ((D.length + 1 : Nat) : Int) := by rw [w64 (by omega) (by omega)]; omega
    refine Ev.succ ?_
    simp only [ashlarlaw08_PropTurned.l1, rd_L2_mid]
    rw [hnx]
    exact Ev.pos (by omega) (Ev.pos (by omega) (Ev.neg (by simp) next))
  | cons x cr ih =>
    intro cp hp
    have hcl : c0.length = cp.length + cr.length + 1 := by rw [← hp]; simp; omega
    have hml : (cp.map (tn v)).length = cp.length := List.length_map _
    have hll : ∀ y, (D ++ y :: R).length = D.length + R.length + 1 := fun y => by simp; omega
    have hrl : ((cp.map (tn v)) ++ x :: cr).length = cp.length + cr.length + 1 := by rw [List.length_append, hml, List.length_cons]; omega
    have hrd : rd (cp.map (tn v) ++ x :: cr) (cp.length : Int) = x := by
      have := rd_mid (cp.map (tn v)) cr x
      rw [hml] at this; exact this
    have hset : ∀ y, (cp.map (tn v) ++ x :: cr).set cp.length y = cp.map (tn v) ++ y :: cr := fun y => by
      have := set_mid (cp.map (tn v)) cr x y
      rw [hml] at this; exact this
    have hnx : wrap64 ((cp.length : Int) + 1) = ((cp ++ [x]).length : Int) := by rw [w64 (by omega) (by omega)]; simp
    have hnv : wrap64 (-(v : Int)) = -(v : Int) := w64 (by omega) (by omega)
    have hih := ih (cp ++ [x]) (by rw [← hp]; simp)
    rw [List.map_append, List.map_singleton, List.append_assoc, List.singleton_append] at hih
    refine Ev.succ ?_
    simp only [ashlarlaw08_PropTurned.l1, rd_L2_mid, Int.toNat_natCast, set_mid]
    rw [hrd, hset, hnv, hnx, hll, hrl]
    clear hnx hnv
    refine Ev.pos (by omega) (Ev.pos (by omega) (Ev.pos (by omega) (Ev.pos (by omega) ?_)))
    by_cases e1 : x = (v : Int)
    · rw [tn_y (.inl e1)] at hih
      have hng : wrap64 (-x) = -x := w64 (by omega) (by omega)
      rw [hng]
      exact Ev.pos e1 hih
    · refine Ev.neg e1 ?_
      by_cases e2 : x = -(v : Int)
      · rw [tn_y (.inr e2)] at hih
        have hng : wrap64 (-x) = -x := w64 (by omega) (by omega)
        rw [hng]
        exact Ev.pos e2 hih
      · rw [tn_n (by omega)] at hih
        exact Ev.neg e2 hih
theorem turn_rows {T : Nat → List (List Int) → List Int → Option Bool} {A B : List Int} {L : List (List Int)} {v : Nat} (hv : v ≤ 1000) (hL : L.length ≤ 200) (hc : ∀ c ∈ L, c.length ≤ 200) {b : Bool} (next : Ev (fun k => T k (tnL v L) B) b) (R : List (List Int)) : ∀ D : List (List Int), D ++ R = L →
    Ev (fun k => ashlarlaw08_PropTurned.l0 T k A (v : Int) (tnL v D ++ R) B (D.length : Int)) b := by
  induction R with
  | nil =>
    intro D hp
    rw [List.append_nil] at hp ⊢
    subst hp
    have hl : (tnL v D).length = D.length := List.length_map _
    refine Ev.succ ?_
    simp only [ashlarlaw08_PropTurned.l0]
    exact Ev.neg (by omega) next
  | cons c R ih =>
    intro D hp
    have hll : L.length = D.length + R.length + 1 := by rw [← hp]; simp; omega
    have hl : (tnL v D).length = D.length := List.length_map _
    have hcm : c ∈ L := by rw [← hp]; simp
    have hih := ih (D ++ [c]) (by rw [← hp]; simp)
    have e : tnL v (D ++ [c]) ++ R = tnL v D ++ c.map (tn v) :: R := by unfold tnL; simp
    have e2 : (D ++ [c]).length = (tnL v D).length + 1 := by rw [hl]; simp
    rw [e, e2] at hih
    have := turn_row (T := T) (A := A) (B := B) hv (tnL v D) R (by omega) (by have := hc c hcm; omega) hih c [] rfl
    refine Ev.succ ?_
    simp only [ashlarlaw08_PropTurned.l0]
    rw [hl] at this
    refine Ev.pos (by rw [List.length_append, hl, List.length_cons]; omega) this
theorem wfa_set {a : List Int} (h : WfA a) (i : Nat) {x : Int} (h0 : -128 ≤ x) (h1 : x ≤ 127) : WfA (a.set i x) := by
  refine ⟨fun y hy => ?_, by rw [List.length_set]; exact h.2⟩
  rcases List.mem_or_eq_of_mem_set hy with k | k
  · exact h.1 y k
  · subst k; exact ⟨h0, h1⟩
/-- What stands behind the loops. -/
theorem turned_end {L : List (List Int)} {A : List Int} {v : Nat} (hL : WfC L) (hM : WfC (tnL v L)) (hA : WfA A) (h1 : 1 ≤ v) (h2 : v < A.length) : Ev (fun k => ashlarlaw08_PropTurned.s L true A (v : Int) k (tnL v L) A) true := by
  obtain ⟨q, hq⟩ : ∃ q, mx (rd A (v : Int)) (-1) = q := ⟨_, rfl⟩
  have hr := hA.val (v : Int)
  have hq1 : -1 ≤ q ∧ q ≤ 127 := by rw [← hq]; unfold mx; split <;> omega
  obtain ⟨A', hA'⟩ : ∃ A', A.set v q = A' := ⟨_, rfl⟩
  have hl' : A'.length = A.length := by rw [← hA', List.length_set]
  have hrd : rd A' (v : Int) = q := by rw [← hA', rd_set _ _ _ _ (by omega), if_pos ⟨rfl, h2⟩]
  have hB' : A.set v (IntKind.i8.wrap (-q)) = flip v A' := by
    rw [i8w (by omega) (by omega)]
    unfold flip
    rw [hrd, ← hA', List.set_set]
  have hwA : WfA A' := by rw [← hA']; exact wfa_set hA v (by omega) (by omega)
  have hwB : WfA (flip v A') := by rw [← hB', i8w (by omega) (by omega)]; exact wfa_set hA v (by omega) (by omega)
  obtain ⟨x, one, hE, hR⟩ := unit_ok hL hwA
  obtain ⟨y, two, hE', hR'⟩ := unit_ok hM hwB
  obtain ⟨e1, e2⟩ := (Run.flip' hR h1 (by omega)).det hR'
  subst e1 e2
  have hxl := hR.length
  have hv := hR.vals (v : Int) (by omega)
  rw [hrd] at hv
  have hy : (flip v x).set v (IntKind.i8.wrap (-(rd (flip v x) (v : Int)))) = x := by
    rw [rd_flip_eq (by omega), Int.neg_neg, i8w (by omega) (by omega)]
    have e := flip_flip (v := v) (a := x) (by omega)
    unfold flip at e ⊢
    rw [List.set_set] at e ⊢
    rw [rd_set _ _ _ _ (by omega), if_pos ⟨rfl, by omega⟩, Int.neg_neg] at e
    exact e
  have hfl := flip_len v x
  have hA2 := hA.2
  unfold ashlarlaw08_PropTurned.s
  refine Ev.pos (by omega) (Ev.pos (by omega) (Ev.pos (by omega) ?_))
  unfold ashlarlaw08_PropTurned.u
  rw [Int.toNat_natCast, hq, hA', hB']
  refine Ev.bind hE (Ev.bind hE' ?_)
  simp only
  rw [hy]
  refine Ev.neg (by omega) (Ev.pos (by omega) (Ev.pos (by omega) (Ev.pos trivial (Ev.pos (by simp) (Ev.bind (same_ok x x (by omega)) (Ev.pos (decide_eq_true rfl) (Ev.bind (eval_ok hwA hL) (Ev.bind (eval_ok hwB hM) ?_))))))))
  rw [eval_flip h1 (by omega)]
  have : (evalV L A' == evalV L A') = true := by simp
  rw [this]
  exact Ev.some_ _
theorem PropTurned : ∀ (l0 : List (List Int)) (l1 : List Int) (a2 : Int), l0.length ≤ maxLen → (∀ c ∈ l0, c.length ≤ maxLen ∧ ∀ x ∈ c, (Lit.int .i64 x).wf = true) → l1.length ≤ maxLen → (∀ x ∈ l1, (Lit.int .i8 x).wf = true) → (Lit.int .i64 a2).wf = true → ∃ k, ashlarlaw08_PropTurned.f k l0 l1 a2 = some true := by
  intro l0 l1 a2 hl0 _ _ h3 _
  obtain ⟨hwA, hsA⟩ := few_wfA h3
  have hs := few_small' l0
  have hb : 0 ≤ Go.bits .and .i64 a2 65535 ∧ Go.bits .and .i64 a2 65535 ≤ 65535 := bits_mask_range a2 65535 (by decide)
  refine Ev.rounds ?_
  unfold ashlarlaw08_PropTurned.f
  refine Ev.bind (few_ok l0 l1 hl0) ?_
  obtain ⟨L, hL⟩ : ∃ L, (l0.take 50).map (·.take 20) = L := ⟨_, rfl⟩
  obtain ⟨A, hA⟩ : ∃ A, l1.take 50 = A := ⟨_, rfl⟩
  have h50 := few_small l0
  rw [hL] at hs h50
  rw [hA] at hwA hsA
  have hf2 : Ev (fun k => ashlarlaw08_few.f k L A) (L, A) := by
    have := few_ok L A (by have := h50.1; exact Nat.le_trans this (by decide))
    have e1 : (L.take 50).map (·.take 20) = L := by
      rw [List.take_of_length_le h50.1]
      refine (List.map_congr_left (g := id) fun c hc => ?_).trans (List.map_id _)
      exact List.take_of_length_le (h50.2 c hc)
    have e2 : A.take 50 = A := List.take_of_length_le hsA
    rw [e1, e2] at this
    exact this
  show Ev (fun k => ashlarlaw08_PropTurned.g k ((l0.take 50).map (·.take 20)) (l1.take 50) a2) true
  rw [hL, hA]
  unfold ashlarlaw08_PropTurned.g
  refine Ev.bind shown_ok ?_
  by_cases h2 : (A.length : Int) < 2
  · exact Ev.pos h2 (Ev.some_ _)
  · refine Ev.neg h2 ?_
    have hw : wrap64 ((A.length : Int) - 1) = (A.length : Int) - 1 := w64 (by omega) (by omega)
    rw [hw]
    clear hw
    have t0 := Int.tmod_nonneg ((A.length : Int) - 1) hb.1
    have t1 := Int.tmod_lt_of_pos (Go.bits .and .i64 a2 65535) (b := (A.length : Int) - 1) (by omega)
    obtain ⟨v, hv, hv1, hv2⟩ : ∃ v : Nat, wrap64 (1 + (Int.tmod (Go.bits .and .i64 a2 65535) ((A.length : Int) - 1))) = (v : Int) ∧ 1 ≤ v ∧ v < A.length :=
      ⟨(1 + (Int.tmod (Go.bits .and .i64 a2 65535) ((A.length : Int) - 1))).toNat, by rw [w64 (by omega) (by omega)]; omega, by omega, by omega⟩
    rw [hv]
    clear hv t0 t1
    refine Ev.neg (by omega) (Ev.bind hf2 ?_)
    have hM : WfC (tnL v L) := ⟨by rw [tnL, List.length_map]; have := hs.1; omega, fun c hc => by
      obtain ⟨d, hd, rfl⟩ := List.mem_map.1 hc
      rw [List.length_map]
      have := hs.2 d hd; omega⟩
    exact turn_rows (by omega) hs.1 hs.2 (turned_end hs.wf hM hwA hv1 hv2) L [] rfl
end Go.Proofs.Ytbgjmeiphmfniaa.Pure
