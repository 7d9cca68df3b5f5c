/- Unit propagation, in plain Lean: what a clause is under an assignment; a run of "the first clause from which something follows"; what such runs have in common. No program is named here. -/
import Derived.Test.YtbgjmeiphmfniaaWMore
namespace Go.Proofs.Ytbgjmeiphmfniaa.PT
open Go.Proofs.YtbgjmeiphmfniaaW.PrintWords

/-- The sign of a number. -/
def sg (v : Int) : Int := if 0 < v then 1 else if v < 0 then -1 else 0
theorem sg_cases (v : Int) : (sg v = 1 ∧ 0 < v) ∨ (sg v = -1 ∧ v < 0) ∨ (sg v = 0 ∧ v = 0) := by
  unfold sg
  split
  · omega
  · split <;> omega

/-- What an assignment says of a literal: 1 it is true, -1 it is not (or nothing is said), 0 it is open. -/
def lv (a : List Int) (n : Int) : Int := if 0 < n ∧ n < (a.length : Int) then sg (rd a n) else if n < 0 ∧ -n < (a.length : Int) then - sg (rd a (-n)) else -1

/-- A literal made true. -/
def put (a : List Int) (n : Int) : List Int := if 0 < n then a.set n.toNat 1 else a.set (-n).toNat (-1)

def truB (a : List Int) (c : List Int) : Bool := c.any fun x => lv a x == 1
def flsB (a : List Int) (c : List Int) : Bool := c.all fun x => lv a x == -1
/-- n is the one open literal of a clause without a true one. -/
def untB (a : List Int) (c : List Int) (n : Int) : Bool := c.contains n && (lv a n == 0) && c.all fun x => lv a x == -1 || x == n
/-- Eval: -1 where a clause is without true and open literals, 1 where each has a true one, else 0. -/
def evalV (l : List (List Int)) (a : List Int) : Int := if l.any (flsB a) then -1 else if l.all (truB a) then 1 else 0
/-- Nothing follows from a clause. -/
def idle (a : List Int) (c : List Int) : Prop := flsB a c = false ∧ ∀ n, untB a c n = false

theorem truB_iff {a c : List Int} : truB a c = true ↔ ∃ x ∈ c, lv a x = 1 := by simp [truB]
theorem flsB_iff {a c : List Int} : flsB a c = true ↔ ∀ x ∈ c, lv a x = -1 := by simp [flsB]
theorem untB_iff {a c : List Int} {n : Int} : untB a c n = true ↔ n ∈ c ∧ lv a n = 0 ∧ ∀ x ∈ c, lv a x = -1 ∨ x = n := by
  simp only [untB, Bool.and_eq_true, List.contains_iff_mem, beq_iff_eq, List.all_eq_true, Bool.or_eq_true]
  exact ⟨fun ⟨⟨h1, h2⟩, h3⟩ => ⟨h1, h2, h3⟩, fun ⟨h1, h2, h3⟩ => ⟨⟨h1, h2⟩, h3⟩⟩

theorem lv_cases (a : List Int) (n : Int) : lv a n = 1 ∨ lv a n = -1 ∨ lv a n = 0 := by
  unfold lv
  split
  · rcases sg_cases (rd a n) with h | h | h <;> omega
  · split
    · rcases sg_cases (rd a (-n)) with h | h | h <;> omega
    · omega
theorem lv_zero (a : List Int) : lv a 0 = -1 := by simp [lv]
theorem lv_neg (a : List Int) (n : Int) (h : lv a n = 0) : lv a (-n) = 0 := by
  unfold lv at h ⊢
  split at h
  · rename_i hn
    rw [if_neg (by omega), if_pos (by omega), Int.neg_neg, h]
    rfl
  · split at h
    · rename_i hn1 hn
      rw [if_pos (by omega)]
      omega
    · omega
/-- An open literal's variable is one of the assignment. -/
theorem lv_open {a : List Int} {n : Int} (h : lv a n = 0) : (0 < n ∧ n < (a.length : Int) ∧ rd a n = 0) ∨ (n < 0 ∧ -n < (a.length : Int) ∧ rd a (-n) = 0) := by
  unfold lv at h
  split at h
  · rename_i hn
    rcases sg_cases (rd a n) with h' | h' | h' <;> first | exact .inl ⟨hn.1, hn.2, h'.2⟩ | omega
  · split at h
    · rename_i hn
      rcases sg_cases (rd a (-n)) with h' | h' | h' <;> first | exact .inr ⟨hn.1, hn.2, h'.2⟩ | omega
    · omega

theorem rd_set (a : List Int) (i : Nat) (v : Int) (j : Int) (hj : 0 ≤ j) : rd (a.set i v) j = if j = (i : Int) ∧ i < a.length then v else rd a j := by
  unfold rd
  rw [List.getD_eq_getElem?_getD, List.getD_eq_getElem?_getD, List.getElem?_set]
  by_cases h : i = j.toNat
  · by_cases hl : i < a.length
    · rw [if_pos h, if_pos (by omega), if_pos (by omega)]; rfl
    · rw [if_pos h, if_neg (by omega), if_neg (by omega)]
      rw [List.getElem?_eq_none (by omega)]
  · rw [if_neg h, if_neg (by omega)]
theorem put_length (a : List Int) (n : Int) : (put a n).length = a.length := by unfold put; split <;> simp
theorem rd_put {a : List Int} {n : Int} (h : lv a n = 0) (j : Int) (hj : 0 ≤ j) : rd (put a n) j = if j = n then 1 else if j = -n then -1 else rd a j := by
  rcases lv_open h with ⟨h0, h1, _⟩ | ⟨h0, h1, _⟩
  · unfold put
    rw [if_pos h0, rd_set _ _ _ _ hj]
    by_cases e : j = n
    · rw [if_pos (by omega), if_pos e]
    · rw [if_neg (by omega), if_neg e, if_neg (by omega)]
  · unfold put
    rw [if_neg (by omega), rd_set _ _ _ _ hj]
    by_cases e : j = -n
    · rw [if_pos (by omega), if_neg (by omega), if_pos e]
    · rw [if_neg (by omega), if_neg (by omega), if_neg e]
theorem lv_put {a : List Int} {n : Int} (h : lv a n = 0) (x : Int) : lv (put a n) x = if x = n then 1 else if x = -n then -1 else lv a x := by
  have ho := lv_open h
  unfold lv
  rw [put_length]
  by_cases hx : 0 < x ∧ x < (a.length : Int)
  · rw [if_pos hx, if_pos hx, rd_put h _ (by omega)]
    by_cases e : x = n
    · rw [if_pos e, if_pos e]; rfl
    · rw [if_neg e, if_neg e]
      by_cases e2 : x = -n
      · rw [if_pos e2, if_pos e2]; rfl
      · rw [if_neg e2, if_neg e2]
  · rw [if_neg hx, if_neg hx]
    by_cases hx2 : x < 0 ∧ -x < (a.length : Int)
    · rw [if_pos hx2, if_pos hx2, rd_put h _ (by omega)]
      by_cases e : x = n
      · rw [if_neg (by omega), if_pos (by omega), if_pos e]; rfl
      · rw [if_neg e]
        by_cases e2 : x = -n
        · rw [if_pos (by omega), if_pos e2]; rfl
        · rw [if_neg (by omega), if_neg (by omega), if_neg e2]
    · rw [if_neg hx2, if_neg hx2, if_neg (by omega), if_neg (by omega)]

/-- A run: again and again the first clause from which something follows. -/
inductive Run (l : List (List Int)) : List Int → List Int → Bool → Prop
  | done {a : List Int} (h : ∀ c ∈ l, idle a c) : Run l a a false
  | conf {a c : List Int} {pre post : List (List Int)} (hl : l = pre ++ c :: post) (h : ∀ d ∈ pre, idle a d) (hc : flsB a c = true) : Run l a a true
  | step {a c b : List Int} {n : Int} {r : Bool} {pre post : List (List Int)} (hl : l = pre ++ c :: post) (h : ∀ d ∈ pre, idle a d) (hc : untB a c n = true) (hr : Run l (put a n) b r) : Run l a b r

theorem idle_not_fls {a c : List Int} (h : idle a c) (h' : flsB a c = true) : False := by rw [h.1] at h'; cases h'
theorem idle_not_unt {a c : List Int} {n : Int} (h : idle a c) (h' : untB a c n = true) : False := by rw [h.2 n] at h'; cases h'
theorem unt_not_fls {a c : List Int} {n : Int} (h : untB a c n = true) (h' : flsB a c = true) : False := by
  obtain ⟨h1, h2, _⟩ := untB_iff.1 h
  have := flsB_iff.1 h' n h1
  omega
theorem unt_one {a c : List Int} {n m : Int} (h : untB a c n = true) (h' : untB a c m = true) : n = m := by
  obtain ⟨h1, h2, h3⟩ := untB_iff.1 h
  obtain ⟨g1, g2, g3⟩ := untB_iff.1 h'
  rcases h3 m g1 with e | e
  · omega
  · exact e.symm
theorem tru_idle {a c : List Int} (h : truB a c = true) : idle a c := by
  obtain ⟨x, hx, h1⟩ := truB_iff.1 h
  refine ⟨Bool.eq_false_iff.2 fun hf => ?_, fun n => Bool.eq_false_iff.2 fun hu => ?_⟩
  · have := flsB_iff.1 hf x hx
    omega
  · obtain ⟨_, h2, h3⟩ := untB_iff.1 hu
    rcases h3 x hx with e | e
    · omega
    · rw [e] at h1
      omega

theorem split_eq {l pre post pre' post' : List (List Int)} {c c' : List Int} {p : List Int → Prop} (h : l = pre ++ c :: post) (h' : l = pre' ++ c' :: post') (hp : ∀ d ∈ pre, p d) (hp' : ∀ d ∈ pre', p d) (hc : ¬ p c) (hc' : ¬ p c') : c = c' := by
  subst h
  induction pre generalizing pre' with
  | nil =>
    cases pre' with
    | nil => exact (List.cons.inj h').1
    | cons d pre' => exact absurd (by have := (List.cons.inj h').1; rw [this]; exact hp' d List.mem_cons_self) hc
  | cons d pre ih =>
    cases pre' with
    | nil => exact absurd (by have := (List.cons.inj h').1; rw [← this]; exact hp d List.mem_cons_self) hc'
    | cons d' pre' => exact ih (fun x hx => hp x (List.mem_cons_of_mem _ hx)) (fun x hx => hp' x (List.mem_cons_of_mem _ hx)) (List.cons.inj h').2

/-- A run has one end. -/
theorem Run.det {l : List (List Int)} {a b b' : List Int} {r r' : Bool} (h : Run l a b r) (h' : Run l a b' r') : b = b' ∧ r = r' := by
  induction h with
  | done hd =>
    cases h' with
    | done => exact ⟨rfl, rfl⟩
    | conf hl _ hc => exact (idle_not_fls (hd _ (by rw [hl]; simp)) hc).elim
    | step hl _ hc _ => exact (idle_not_unt (hd _ (by rw [hl]; simp)) hc).elim
  | conf hl hi hc =>
    cases h' with
    | done hd => exact (idle_not_fls (hd _ (by rw [hl]; simp)) hc).elim
    | conf => exact ⟨rfl, rfl⟩
    | step hl' hi' hc' _ =>
      have := split_eq hl hl' hi hi' (fun h => idle_not_fls h hc) (fun h => idle_not_unt h hc')
      subst this
      exact (unt_not_fls hc' hc).elim
  | step hl hi hc hr ih =>
    cases h' with
    | done hd => exact (idle_not_unt (hd _ (by rw [hl]; simp)) hc).elim
    | conf hl' hi' hc' =>
      have := split_eq hl hl' hi hi' (fun h => idle_not_unt h hc) (fun h => idle_not_fls h hc')
      subst this
      exact (unt_not_fls hc hc').elim
    | step hl' hi' hc' hr' =>
      have := split_eq hl hl' hi hi' (fun h => idle_not_unt h hc) (fun h => idle_not_unt h hc')
      subst this
      have := unt_one hc hc'
      subst this
      exact ih hr'

/-- How many variables are open. -/
def zeros (a : List Int) : Nat := a.count 0
theorem zeros_set {a : List Int} {i : Nat} {v : Int} (hi : i < a.length) (h0 : a.getD i 0 = 0) (hv : v ≠ 0) : zeros (a.set i v) < zeros a := by
  unfold zeros
  induction a generalizing i with
  | nil => simp at hi
  | cons x a ih =>
    cases i with
    | zero =>
      have hx : x = 0 := by simpa using h0
      subst hx
      rw [List.set_cons_zero, List.count_cons_of_ne hv, List.count_cons_self]
      omega
    | succ i =>
      rw [List.set_cons_succ, List.count_cons, List.count_cons]
      have := ih (i := i) (by simpa using hi) (by simpa using h0)
      omega
theorem zeros_put {a : List Int} {n : Int} (h : lv a n = 0) : zeros (put a n) < zeros a := by
  unfold put
  rcases lv_open h with ⟨h0, h1, h2⟩ | ⟨h0, h1, h2⟩
  · rw [if_pos h0]
    exact zeros_set (by omega) h2 (by decide)
  · rw [if_neg (by omega)]
    exact zeros_set (by omega) h2 (by decide)

/-- z says whatever a says. -/
def Agr (a z : List Int) : Prop := ∀ x, lv a x ≠ 0 → lv z x = lv a x
theorem Agr.refl (a : List Int) : Agr a a := fun _ _ => rfl
theorem Agr.trans {a b c : List Int} (h : Agr a b) (k : Agr b c) : Agr a c := fun x hx => by
  have h1 := h x hx
  rw [← h1] at hx ⊢
  exact k x hx
theorem Agr.fls {a z c : List Int} (h : Agr a z) (hc : flsB a c = true) : flsB z c = true := flsB_iff.2 fun x hx => by
  have := flsB_iff.1 hc x hx
  rw [h x (by omega), this]
theorem Agr.tru {a z c : List Int} (h : Agr a z) (hc : truB a c = true) : truB z c = true := by
  obtain ⟨x, hx, h1⟩ := truB_iff.1 hc
  exact truB_iff.2 ⟨x, hx, by rw [h x (by omega), h1]⟩
theorem agr_put {a : List Int} {n : Int} (h : lv a n = 0) : Agr a (put a n) := fun x hx => by
  rw [lv_put h, if_neg (fun e => hx (by rw [e]; exact h)), if_neg (fun e => hx (by rw [e]; exact lv_neg _ _ h))]
theorem lv_opp {z : List Int} {n : Int} (h : lv z n = 1) : lv z (-n) = -1 := by
  unfold lv at h ⊢
  split at h
  · rw [if_neg (by omega), if_pos (by omega), Int.neg_neg, h]
  · split at h
    · rw [if_pos (by omega)]
      omega
    · omega
theorem agr_put_of {a z : List Int} {n : Int} (h : lv a n = 0) (hz : Agr a z) (hn : lv z n = 1) : Agr (put a n) z := fun x hx => by
  rw [lv_put h] at hx ⊢
  by_cases e : x = n
  · rw [if_pos e, e, hn]
  · rw [if_neg e] at hx ⊢
    by_cases e2 : x = -n
    · rw [if_pos e2, e2]
      exact lv_opp hn
    · rw [if_neg e2] at hx ⊢
      exact hz x hx

/-- What a run does: it makes open variables true or not true, nothing else. -/
theorem Run.agr {l : List (List Int)} {a b : List Int} {r : Bool} (h : Run l a b r) : Agr a b := by
  induction h with
  | done => exact Agr.refl _
  | conf => exact Agr.refl _
  | step hl hi hc hr ih => exact (agr_put (untB_iff.1 hc).2.1).trans ih
theorem Run.length {l : List (List Int)} {a b : List Int} {r : Bool} (h : Run l a b r) : b.length = a.length := by
  induction h with
  | done => rfl
  | conf => rfl
  | step hl hi hc hr ih => rw [ih, put_length]
theorem Run.vals {l : List (List Int)} {a b : List Int} {r : Bool} (h : Run l a b r) (j : Int) (hj : 0 ≤ j) : rd b j = rd a j ∨ (rd a j = 0 ∧ 0 < j ∧ (rd b j = 1 ∨ rd b j = -1)) := by
  induction h with
  | done => exact .inl rfl
  | conf => exact .inl rfl
  | @step a c b n r pre post hl hi hc hr ih =>
    have h0 := (untB_iff.1 hc).2.1
    rw [rd_put h0 j hj] at ih
    rcases lv_open h0 with ⟨g0, g1, g2⟩ | ⟨g0, g1, g2⟩
    · by_cases e : j = n
      · rw [if_pos e] at ih
        subst e
        exact .inr ⟨g2, g0, by omega⟩
      · rw [if_neg e, if_neg (by omega)] at ih
        exact ih
    · by_cases e : j = -n
      · rw [if_neg (by omega), if_pos e] at ih
        subst e
        exact .inr ⟨g2, by omega, by omega⟩
      · rw [if_neg (by omega), if_neg e] at ih
        exact ih
theorem Run.closed {l : List (List Int)} {a b : List Int} {r : Bool} (h : Run l a b r) (hr : r = false) : ∀ c ∈ l, idle b c := by
  induction h with
  | done h => exact h
  | conf => cases hr
  | step hl hi hc hr' ih => exact ih hr
theorem Run.conflict {l : List (List Int)} {a b : List Int} {r : Bool} (h : Run l a b r) (hr : r = true) : ∃ c ∈ l, flsB b c = true := by
  induction h with
  | done => cases hr
  | conf hl hi hc => exact ⟨_, by rw [hl]; simp, hc⟩
  | step hl hi hc hr' ih => exact ih hr
/-- Where nothing follows any more in z, and z says what a says, it says what follows from a, too, and there is no conflict. -/
theorem Run.least {l : List (List Int)} {a b z : List Int} {r : Bool} (h : Run l a b r) (hz : ∀ c ∈ l, idle z c) (ha : Agr a z) : Agr b z ∧ r = false := by
  induction h with
  | done => exact ⟨ha, rfl⟩
  | @conf a c pre post hl hi hc => exact (idle_not_fls (hz c (by rw [hl]; simp)) (ha.fls hc)).elim
  | @step a c b n r pre post hl hi hc hr ih =>
    obtain ⟨h1, h2, h3⟩ := untB_iff.1 hc
    have hi' := hz c (by rw [hl]; simp)
    refine ih (agr_put_of h2 ha ?_)
    have hx : ∀ x ∈ c, lv z x = -1 ∨ x = n := fun x hx => (h3 x hx).imp (fun e => by rw [ha x (by omega), e]) id
    rcases lv_cases z n with e | e | e
    · exact e
    · exact (idle_not_fls hi' (flsB_iff.2 fun x h => (hx x h).elim id fun q => by rw [q, e])).elim
    · exact (idle_not_unt hi' (untB_iff.2 ⟨h1, e, hx⟩)).elim
/-- Whatever makes all clauses true, and agrees, agrees with what follows. -/
theorem Run.sound {l : List (List Int)} {a b z : List Int} {r : Bool} (h : Run l a b r) (hz : ∀ c ∈ l, truB z c = true) (ha : Agr a z) : Agr b z ∧ r = false := h.least (fun c hc => tru_idle (hz c hc)) ha

theorem lv_pos {a : List Int} {j : Int} (h0 : 0 < j) (h1 : j < (a.length : Int)) : lv a j = sg (rd a j) := by unfold lv; rw [if_pos ⟨h0, h1⟩]
theorem ext_rd {x y : List Int} (hl : x.length = y.length) (h : ∀ j : Int, 0 ≤ j → j < (x.length : Int) → rd x j = rd y j) : x = y := by
  apply List.ext_getElem hl
  intro i h1 h2
  have := h i (by omega) (by omega)
  simpa [rd, List.getD_eq_getElem?_getD, List.getElem?_eq_getElem h1, List.getElem?_eq_getElem h2] using this
theorem sg_val {v w : Int} (hv : v = 1 ∨ v = -1 ∨ v = 0) (hw : w = 1 ∨ w = -1 ∨ w = 0) (h : sg v = sg w) : v = w := by
  rcases hv with rfl | rfl | rfl <;> rcases hw with rfl | rfl | rfl <;> first | rfl | (simp [sg] at h)
/-- Two runs from one assignment that say the same of each literal end in one assignment. -/
theorem Run.same {l l' : List (List Int)} {a b b' : List Int} {r r' : Bool} (h : Run l a b r) (h' : Run l' a b' r') (he : ∀ x, lv b x = lv b' x) : b = b' := by
  refine ext_rd (by rw [h.length, h'.length]) fun j h0 h1 => ?_
  rcases h.vals j h0 with e | ⟨e, hj, e2⟩
  · rcases h'.vals j h0 with f | ⟨f, hj, f2⟩
    · rw [e, f]
    · have := he j
      rw [lv_pos hj h1, lv_pos hj (by rw [h'.length, ← h.length]; exact h1)] at this
      exact sg_val (by omega) (by omega) this
  · have := he j
    rw [lv_pos hj h1, lv_pos hj (by rw [h'.length, ← h.length]; exact h1)] at this
    rcases h'.vals j h0 with f | ⟨f, _, f2⟩
    · exact sg_val (by omega) (by omega) this
    · exact sg_val (by omega) (by omega) this
theorem agr_eq {x y : List Int} (h : Agr x y) (k : Agr y x) (n : Int) : lv x n = lv y n := by
  by_cases e : lv x n = 0
  · by_cases f : lv y n = 0
    · rw [e, f]
    · exact k n f
  · exact (h n e).symm
/-- Two sets of clauses of which each is closed where the other one is: the same conflict, and without one the same end. -/
theorem Run.agree {l l' : List (List Int)} {a b b' : List Int} {r r' : Bool} (h : Run l a b r) (h' : Run l' a b' r') (hi : ∀ z, (∀ c ∈ l, idle z c) ↔ ∀ c ∈ l', idle z c) : r = r' ∧ (r = false → b = b') := by
  have key : r = false → r' = false := fun e => (h'.least ((hi b).1 (h.closed e)) h.agr).2
  have key' : r' = false → r = false := fun e => (h.least ((hi b').2 (h'.closed e)) h'.agr).2
  refine ⟨?_, fun e => ?_⟩
  · cases r <;> cases r' <;> first | rfl | (exact (key rfl).symm) | (exact key' rfl)
  · have e' := key e
    exact h.same h' (agr_eq (h.least ((hi b').2 (h'.closed e')) h'.agr).1 (h'.least ((hi b).1 (h.closed e)) h.agr).1)

/-! Clauses of the same literals. -/
theorem truB_congr {c d : List Int} (z : List Int) (h : ∀ x, x ∈ c ↔ x ∈ d) : truB z c = truB z d := by
  rw [Bool.eq_iff_iff, truB_iff, truB_iff]
  exact ⟨fun ⟨x, hx, h1⟩ => ⟨x, (h x).1 hx, h1⟩, fun ⟨x, hx, h1⟩ => ⟨x, (h x).2 hx, h1⟩⟩
theorem flsB_congr {c d : List Int} (z : List Int) (h : ∀ x, x ∈ c ↔ x ∈ d) : flsB z c = flsB z d := by
  rw [Bool.eq_iff_iff, flsB_iff, flsB_iff]
  exact ⟨fun k x hx => k x ((h x).2 hx), fun k x hx => k x ((h x).1 hx)⟩
theorem untB_congr {c d : List Int} (z : List Int) (h : ∀ x, x ∈ c ↔ x ∈ d) (n : Int) : untB z c n = untB z d n := by
  rw [Bool.eq_iff_iff, untB_iff, untB_iff]
  exact ⟨fun ⟨h1, h2, k⟩ => ⟨(h n).1 h1, h2, fun x hx => k x ((h x).2 hx)⟩, fun ⟨h1, h2, k⟩ => ⟨(h n).2 h1, h2, fun x hx => k x ((h x).1 hx)⟩⟩
theorem idle_congr {c d : List Int} (z : List Int) (h : ∀ x, x ∈ c ↔ x ∈ d) : idle z c ↔ idle z d := by
  unfold idle
  rw [flsB_congr z h]
  exact ⟨fun k => ⟨k.1, fun n => by rw [← untB_congr z h]; exact k.2 n⟩, fun k => ⟨k.1, fun n => by rw [untB_congr z h]; exact k.2 n⟩⟩
/-- Each clause of l has one of the same literals in m. -/
def Sub (l m : List (List Int)) : Prop := ∀ c ∈ l, ∃ d ∈ m, ∀ x, x ∈ c ↔ x ∈ d
theorem Sub.closed {l m : List (List Int)} (h : Sub l m) {z : List Int} (hm : ∀ c ∈ m, idle z c) : ∀ c ∈ l, idle z c := fun c hc => by
  obtain ⟨d, hd, hx⟩ := h c hc
  exact (idle_congr z hx).2 (hm d hd)
theorem Sub.any {l m : List (List Int)} (h : Sub l m) {z : List Int} (hl : l.any (flsB z) = true) : m.any (flsB z) = true := by
  obtain ⟨c, hc, hf⟩ := List.any_eq_true.1 hl
  obtain ⟨d, hd, hx⟩ := h c hc
  exact List.any_eq_true.2 ⟨d, hd, by rw [← flsB_congr z hx]; exact hf⟩
theorem Sub.all {l m : List (List Int)} (h : Sub l m) {z : List Int} (hm : m.all (truB z) = true) : l.all (truB z) = true := by
  rw [List.all_eq_true] at hm ⊢
  intro c hc
  obtain ⟨d, hd, hx⟩ := h c hc
  rw [truB_congr z hx]
  exact hm d hd
theorem any_not_all {l : List (List Int)} {z : List Int} (h : l.any (flsB z) = true) : l.all (truB z) = false := by
  obtain ⟨c, hc, hf⟩ := List.any_eq_true.1 h
  refine Bool.eq_false_iff.2 fun ha => ?_
  have := (tru_idle ((List.all_eq_true.1 ha) c hc)).1
  rw [hf] at this
  cases this
/-- Fewer clauses say no less. -/
theorem Sub.eval {l m : List (List Int)} (h : Sub l m) (z : List Int) : evalV m z ≤ evalV l z := by
  unfold evalV
  by_cases h1 : l.any (flsB z) = true
  · rw [if_pos h1, if_pos (h.any h1)]
    omega
  · rw [if_neg h1]
    by_cases h2 : m.any (flsB z) = true
    · rw [if_pos h2]
      split <;> omega
    · rw [if_neg h2]
      by_cases h3 : m.all (truB z) = true
      · rw [if_pos h3, if_pos (h.all h3)]
        omega
      · rw [if_neg h3]
        split <;> omega
theorem eval_same {l m : List (List Int)} (h : Sub l m) (k : Sub m l) (z : List Int) : evalV l z = evalV m z := by
  have := h.eval z
  have := k.eval z
  omega
theorem eval_neg {l : List (List Int)} {z : List Int} : evalV l z = -1 ↔ l.any (flsB z) = true := by
  unfold evalV
  by_cases h : l.any (flsB z) = true
  · rw [if_pos h]
    exact ⟨fun _ => h, fun _ => rfl⟩
  · rw [if_neg h]
    constructor
    · intro e
      split at e <;> omega
    · intro e
      exact absurd e h
theorem eval_one {l : List (List Int)} {z : List Int} : evalV l z = 1 ↔ ∀ c ∈ l, truB z c = true := by
  unfold evalV
  by_cases h : l.any (flsB z) = true
  · rw [if_pos h]
    have := any_not_all h
    constructor
    · intro e
      omega
    · intro e
      rw [List.all_eq_true.2 e] at this
      cases this
  · rw [if_neg h]
    constructor
    · intro e
      split at e
      · rename_i h2
        exact List.all_eq_true.1 h2
      · omega
    · intro e
      rw [if_pos (List.all_eq_true.2 e)]
theorem eval_cases (l : List (List Int)) (z : List Int) : evalV l z = -1 ∨ evalV l z = 0 ∨ evalV l z = 1 := by
  unfold evalV
  split
  · exact .inl rfl
  · split
    · exact .inr (.inr rfl)
    · exact .inr (.inl rfl)
/-- What one run tells, another one that says more tells, too: number by number. -/
theorem Run.vals_le {l l' : List (List Int)} {a b b' : List Int} {r r' : Bool} (h : Run l a b r) (h' : Run l' a b' r') (ha : Agr b b') {j : Int} (h0 : 0 ≤ j) (h1 : j < (a.length : Int)) (hj : rd b j ≠ 0) : rd b' j = rd b j := by
  rcases h.vals j h0 with e | ⟨e, hp, e2⟩
  · rcases h'.vals j h0 with f | ⟨f, _⟩
    · rw [f, e]
    · omega
  · have hb : lv b j = sg (rd b j) := lv_pos hp (by rw [h.length]; exact h1)
    have hb' : lv b' j = sg (rd b' j) := lv_pos hp (by rw [h'.length]; exact h1)
    have hne : lv b j ≠ 0 := by
      rw [hb]
      rcases sg_cases (rd b j) with q | q | q <;> omega
    have := ha j hne
    rw [hb, hb'] at this
    refine sg_val ?_ (by omega) this
    rcases h'.vals j h0 with f | ⟨f, _, f2⟩
    · rw [f, e]; exact .inr (.inr rfl)
    · omega
end Go.Proofs.Ytbgjmeiphmfniaa.PT
