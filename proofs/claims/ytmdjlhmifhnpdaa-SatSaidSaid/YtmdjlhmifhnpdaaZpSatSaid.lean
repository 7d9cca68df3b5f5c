/- The law SatSaid, in plain Lean: what is said alone is so. -/
import Derived.Test.YtmdjlhmifhnpdaaZd
import Derived.Test.YtmdjlhmifhnpdaaZh
import Derived.IntWalk
import Derived.Test.YtmdjlhmifhnpdaaZlSatSaid
namespace Go.Proofs.Ytmdjlhmifhnpdaa.SatW
set_option linter.unusedVariables false
set_option linter.unusedSimpArgs false
open Go.RowKit Go.Proofs.YtmdjlhmifhnpdaaW.PrintWords Go.Proofs.YtmdjlhmifhnpdaaW.PrintLast Go.Proofs.Ytmdjlhmifhnpdaa.B

theorem idle_one {F : Int → Int} {x : Int} (h : IdleF F [x]) : F x = 1 := by
  rcases h with ⟨y, hy, e⟩ | ⟨y, hy, z, hz, hn, _⟩
  · rwa [List.mem_singleton.1 hy] at e
  · exact absurd ((List.mem_singleton.1 hy).trans (List.mem_singleton.1 hz).symm) hn
/-- Clauses of one literal each that agree: the answer is Yes, whatever the fuel. -/
theorem solve_single {l0 : List (List Int)} {a1 : Int} (a2 : Int) (hr : rightF l0 a1 = true) (hl1 : ∀ c ∈ l0, c.length ≤ 1000000) (hl2 : l0.length ≤ 1000000) (h1 : ∀ c ∈ l0, ∃ x, c = [x]) {F : Int → Int} (hF : Val F) (hc : ∀ c ∈ l0, ∀ x ∈ c, F x = 1) :
    ∃ k, ∃ t val : List Int, solveF k l0 a1 a2 = some (1, val.map (fun x => decide (x > 0)), []) ∧ Tr a1.toNat t ∧ (∀ c ∈ l0, ∃ x ∈ c, x ∈ t) ∧ val.length = a1.toNat + 1 ∧ ∀ v : Nat, v ≤ a1.toNat → val[v]? = some (tv t v) := by
  obtain ⟨⟨b1, b2⟩, h3⟩ := rightF_iff.1 hr
  obtain ⟨I, H⟩ := inv_start (n := a1.toNat) (by omega) h3
  have e : (a1 + 1).toNat = a1.toNat + 1 := by omega
  obtain ⟨n, hn⟩ : ∃ n, a1.toNat = n := ⟨_, rfl⟩
  rw [hn] at I H e ⊢
  refine ⟨(2 * n + 4) + 1, ?_⟩
  unfold solveF
  rw [hr, if_neg (by simp), if_pos (by omega), e, solveLoop]
  obtain ⟨s2, r, sp1, I2, Sp⟩ := spread_inv ((2 * n + 4) + 1) _ I (by omega)
  have H2 : Lm n l0 s2 := ⟨by rw [Sp.cl, Sp.lm]; exact H.cl, by rw [Sp.lm]; exact H.ch, by rw [Sp.lm]; exact H.ap, by rw [Sp.lm]; exact H.nd⟩
  have hlm : s2.lemmas = [] := Sp.lm
  have hch : s2.chosen = [] := Sp.ch
  have hcl : s2.clauses = l0 := by rw [H2.cl, hlm, List.append_nil]
  unfold stepF
  rw [if_pos (lm_okb I H hl1 hl2 (by show 0 ≤ _; omega)), sp1, Option.bind_some]
  simp only
  rw [if_pos (lm_okb I2 H2 hl1 hl2 (by rw [hlm]; show 0 ≤ _; omega))]
  rcases Sp.ans with ⟨rfl, hid⟩ | ⟨q, c, rfl, hq, hf⟩
  · have ht2 : ∀ c ∈ l0, ∃ x ∈ c, x ∈ s2.trail := fun c hcc => by
      obtain ⟨x, rfl⟩ := h1 c hcc
      exact ⟨x, by simp, tv_one.1 (idle_one (hid _ (by rw [hcl]; exact hcc)))⟩
    rw [if_pos rfl]
    obtain ⟨s3, b, ch1, ch2⟩ := choose_spec I2 hid
    rw [ch1, Option.bind_some]
    rcases ch2 with ⟨rfl, rfl, hall⟩ | ⟨rfl, I3, x, hx, hx0, t1, t2, t3, t4⟩
    · rw [if_neg (by simp), Option.bind_some]
      exact ⟨s3.trail, s3.value, rfl, I2.tr, ht2, I2.vlen, I2.val⟩
    · rw [if_pos rfl, Option.bind_some]
      have H3 : Lm n l0 s3 := ⟨by rw [t3, t4]; exact H2.cl, by rw [t4]; exact H2.ch, by rw [t4]; exact H2.ap, by rw [t4]; exact H2.nd⟩
      exact loop_true a2 (by omega) hl1 hl2 (2 * n + 4) s3 I3 H3 (t4.trans hlm) (fun c hcc => by
        obtain ⟨y, hy, hyt⟩ := ht2 c hcc
        exact ⟨y, hy, by rw [t1]; simp [hyt]⟩) (by omega)
  · exfalso
    have hR := level0_rup I2 hch (List.mem_of_getElem? hq) hf
    rw [hcl] at hR
    refine hR ⟨F, hF, by simp, fun d hd => ?_⟩
    obtain ⟨x, rfl⟩ := h1 d hd
    exact .inl ⟨x, by simp, hc _ hd x (by simp)⟩
end Go.Proofs.Ytmdjlhmifhnpdaa.SatW
namespace Go.Proofs.Ytmdjlhmifhnpdaa.Pure
set_option linter.unusedVariables false
open Go.RowKit Go.Proofs.Ytmdjlhmifhnpdaa.Q Go.Proofs.Ytmdjlhmifhnpdaa.PT Go.Proofs.YtmdjlhmifhnpdaaW.PrintWords Go.Proofs.YtmdjlhmifhnpdaaW.PrintLast Go.Proofs.YtmdjlhmifhnpdaaW.PrintMore

theorem shown_ok : Ev (fun k => ashlarlaw09_shown.f k) true := Ev.of (fun k => ashlarlaw09_shown.mono k) (k := 40) (by decide +kernel)
theorem solve_ev {k : Nat} {l : List (List Int)} {a1 a2 : Int} {r : SatW.Ans} (h : SatW.solveF k l a1 a2 = some r) : Ev (fun k => sat_Solve.f k l a1 a2) r := Ev.of (fun k => sat_Solve.mono l a1 a2 k) (k := k) h
theorem mn_val (n : Nat) (m : Int) (hm : 0 ≤ m) : ((mn (n : Int) m) : Int).toNat = min n m.toNat ∧ 0 ≤ mn (n : Int) m ∧ mn (n : Int) m ≤ (n : Int) := by unfold mn; split <;> omega
/-- The clauses of what is said, from the variable i + 1 on. -/
def saidF : Nat → List Int → List (List Int)
  | _, [] => []
  | i, x :: xs => (if x > 0 then [[((i + 1 : Nat) : Int)]] else if x < 0 then [[-((i + 1 : Nat) : Int)]] else []) ++ saidF (i + 1) xs
theorem saidF_len : ∀ (xs : List Int) (i : Nat), (saidF i xs).length ≤ xs.length
  | [], i => Nat.le_refl _
  | x :: xs, i => by
    rw [saidF, List.length_append, List.length_cons]
    have := saidF_len xs (i + 1)
    split
    · rw [List.length_singleton]; omega
    · split
      · rw [List.length_singleton]; omega
      · rw [List.length_nil]; omega
theorem saidF_mem : ∀ (xs pre : List Int) (c : List Int), c ∈ saidF pre.length xs → ∃ j : Nat, pre.length ≤ j ∧ j < (pre ++ xs).length ∧ ((rd (pre ++ xs) (j : Int) > 0 ∧ c = [((j + 1 : Nat) : Int)]) ∨ (rd (pre ++ xs) (j : Int) < 0 ∧ c = [-((j + 1 : Nat) : Int)]))
  | [], pre, c, h => by simp [saidF] at h
  | x :: xs, pre, c, h => by
    rw [saidF] at h
    have hll : (pre ++ x :: xs).length = pre.length + xs.length + 1 := by simp; omega
    rcases List.mem_append.1 h with h | h
    · refine ⟨pre.length, Nat.le_refl _, by omega, ?_⟩
      rw [rd_mid]
      split at h
      · exact .inl ⟨by assumption, List.mem_singleton.1 h⟩
      · split at h
        · exact .inr ⟨by assumption, List.mem_singleton.1 h⟩
        · cases h
    · have e : pre.length + 1 = (pre ++ [x]).length := by simp
      rw [e] at h
      obtain ⟨j, h1, h2, h3⟩ := saidF_mem xs (pre ++ [x]) c h
      rw [List.append_assoc, List.singleton_append] at h2 h3
      exact ⟨j, by omega, h2, h3⟩
theorem saidF_has : ∀ (xs pre : List Int) (j : Nat), pre.length ≤ j → j < (pre ++ xs).length → (rd (pre ++ xs) (j : Int) > 0 → [((j + 1 : Nat) : Int)] ∈ saidF pre.length xs) ∧ (rd (pre ++ xs) (j : Int) < 0 → [-((j + 1 : Nat) : Int)] ∈ saidF pre.length xs)
  | [], pre, j, h1, h2 => by rw [List.append_nil] at h2; omega
  | x :: xs, pre, j, h1, h2 => by
    rw [saidF]
    by_cases e : j = pre.length
    · subst e
      rw [rd_mid]
      refine ⟨fun h => ?_, fun h => ?_⟩
      · rw [if_pos h]; simp
      · rw [if_neg (by omega), if_pos h]; simp
    · have e1 : pre.length + 1 = (pre ++ [x]).length := by simp
      have := saidF_has xs (pre ++ [x]) j (by rw [← e1]; omega) (by rw [List.append_assoc, List.singleton_append]; exact h2)
      rw [List.append_assoc, List.singleton_append, ← e1] at this
      exact ⟨fun h => List.mem_append.2 (.inr (this.1 h)), fun h => List.mem_append.2 (.inr (this.2 h))⟩
theorem said_build {S : List Int} (hS : S.length ≤ 50) {a1 a2 : Int} {b : Bool} {L : List (List Int)} (next : Ev (fun k => (sat_Solve.f k L (S.length : Int) a2).bind fun bt539 => (if bt539.1 = 1 then (ashlarlaw09_SatSaid.j1 k S a1 a2 true L bt539.2.1 ((bt539.2.1.length : Int) != (wrap64 ((S.length : Int) + 1)))) else (ashlarlaw09_SatSaid.j1 k S a1 a2 true L bt539.2.1 true))) b) (rest : List Int) : ∀ (pre : List Int) (acc : List (List Int)), pre ++ rest = S → acc.length ≤ pre.length → acc ++ saidF pre.length rest = L →
    Ev (fun k => ashlarlaw09_SatSaid.l0 k S a1 a2 true acc (pre.length : Int)) b := by
  induction rest with
  | nil =>
    intro pre acc hp ha hL
    rw [List.append_nil] at hp
    subst hp
    rw [saidF, List.append_nil] at hL
    subst hL
    refine Ev.succ ?_
    simp only [ashlarlaw09_SatSaid.l0]
    exact Ev.neg (by omega) next
  | cons x rest ih =>
    intro pre acc hp ha hL
    have hll : S.length = pre.length + rest.length + 1 := by rw [← hp]; simp; omega
    have hlt : (pre.length : Int) < (S.length : Int) := by omega
    have hnx : wrap64 ((pre.length : Int) + 1) = ((pre ++ [x]).length : Int) := by rw [w64 (by omega) (by omega)]; simp
    have e1 : (pre ++ [x]).length = pre.length + 1 := by simp
    have hng : wrap64 (-((pre ++ [x]).length : Int)) = -((pre ++ [x]).length : Int) := w64 (by omega) (by omega)
    have hx : rd S (pre.length : Int) = x := by rw [← hp]; exact rd_mid _ _ _
    rw [saidF] at hL
    refine Ev.succ ?_
    simp only [ashlarlaw09_SatSaid.l0, hx]
    rw [hnx, hng]
    refine Ev.pos hlt (Ev.pos (by omega) ?_)
    by_cases h1 : x > 0
    · rw [if_pos h1] at hL
      simp only [Option.bind_some]
      refine Ev.pos h1 (Ev.pos (by omega) (Ev.neg (by omega) ?_))
      refine ih (pre ++ [x]) _ (by rw [← hp]; simp) (by simp; omega) ?_
      rw [← hL, e1]; simp
    · rw [if_neg h1] at hL
      by_cases h2 : x < 0
      · rw [if_pos h2] at hL
        refine Ev.neg h1 (Ev.pos h2 (Ev.pos (by omega) ?_))
        refine ih (pre ++ [x]) _ (by rw [← hp]; simp) (by simp; omega) ?_
        rw [← hL, e1]; simp
      · rw [if_neg h2] at hL
        refine Ev.neg h1 (Ev.neg h2 ?_)
        refine ih (pre ++ [x]) _ (by rw [← hp]; simp) (by simp; omega) ?_
        rw [← hL, e1]; simp
theorem said_check {S : List Int} (hS : S.length ≤ 50) {a1 a2 : Int} {L : List (List Int)} {m : List Bool} (hm : m.length = S.length + 1) (h : ∀ j : Nat, j < S.length → rd S (j : Int) ≠ 0 → rdOf false m ((j + 1 : Nat) : Int) = decide (rd S (j : Int) > 0)) {b : Bool} (next : Ev (fun k => if (L.length : Int) = 0 then (some true) else (if 0 ≤ (Int.tmod (Go.bits .and .i64 a1 65535) (L.length : Int)) then (if (Int.tmod (Go.bits .and .i64 a1 65535) (L.length : Int)) < (L.length : Int) then (if 0 < ((rd_L2 L (Int.tmod (Go.bits .and .i64 a1 65535) (L.length : Int))).length : Int) then (if L.length < 5864062014805 then ((sat_Solve.f k (L ++ [(([wrap64 (-(rd (rd_L2 L (Int.tmod (Go.bits .and .i64 a1 65535) (L.length : Int))) 0))] : List Int))]) (S.length : Int) a2).bind fun bt557 => (if true = true then (if bt557.1 = 2 then (some (decide ((bt557.2.2.length : Int) > 0))) else (some false)) else (some false))) else (none)) else (none)) else (none)) else (none))) b) (d : Nat) : ∀ i : Nat, i + d = S.length →
    Ev (fun k => ashlarlaw09_SatSaid.l1 k S a1 a2 true L m (i : Int)) b := by
  induction d with
  | zero =>
    intro i hi
    refine Ev.succ ?_
    simp only [ashlarlaw09_SatSaid.l1]
    exact Ev.neg (by omega) (by simpa only using next)
  | succ d ih =>
    intro i hi
    have hnx : wrap64 ((i : Int) + 1) = ((i + 1 : Nat) : Int) := by rw [w64 (by omega) (by omega)]; omega
    have hE := ih (i + 1) (by omega)
    refine Ev.succ ?_
    simp only [ashlarlaw09_SatSaid.l1]
    rw [hnx]
    refine Ev.pos (by omega) (Ev.pos (by omega) ?_)
    by_cases h0 : rd S (i : Int) = 0
    · exact Ev.pos h0 hE
    · refine Ev.neg h0 (Ev.pos (by omega) (Ev.pos (by omega) (Ev.neg ?_ hE)))
      rw [h i (by omega) h0]
      simp
/-- What is said, as a valuation. -/
def saidV (S : List Int) (x : Int) : Int := if x > 0 then sg (rd S (x - 1)) else if x < 0 then - sg (rd S (-x - 1)) else 0
theorem said_val (S : List Int) : SatW.Val (saidV S) := by
  refine ⟨fun x => ?_, fun x => ?_⟩
  · show (if -x > 0 then sg (rd S (-x - 1)) else if -x < 0 then - sg (rd S (- -x - 1)) else 0) = - (if x > 0 then sg (rd S (x - 1)) else if x < 0 then - sg (rd S (-x - 1)) else 0)
    by_cases p : x > 0
    · rw [if_neg (by omega), if_pos (by omega), if_pos p, Int.neg_neg]
    · by_cases q : x < 0
      · rw [if_pos (by omega), if_neg p, if_pos q, Int.neg_neg]
      · rw [if_neg (by omega), if_neg (by omega), if_neg p, if_neg q]; rfl
  · show (if x > 0 then sg (rd S (x - 1)) else if x < 0 then - sg (rd S (-x - 1)) else 0) = 1 ∨ (if x > 0 then sg (rd S (x - 1)) else if x < 0 then - sg (rd S (-x - 1)) else 0) = -1 ∨ (if x > 0 then sg (rd S (x - 1)) else if x < 0 then - sg (rd S (-x - 1)) else 0) = 0
    split
    · rcases sg_cases (rd S (x - 1)) with e | e | e <;> omega
    · split
      · rcases sg_cases (rd S (-x - 1)) with e | e | e <;> omega
      · omega
theorem said_true (S : List Int) (c : List Int) (j : Nat) (h : (rd S (j : Int) > 0 ∧ c = [((j + 1 : Nat) : Int)]) ∨ (rd S (j : Int) < 0 ∧ c = [-((j + 1 : Nat) : Int)])) (x : Int) (hx : x ∈ c) : saidV S x = 1 := by
  rcases h with h | h
  · rw [h.2] at hx
    rw [List.mem_singleton.1 hx]
    show (if ((j + 1 : Nat) : Int) > 0 then sg (rd S (((j + 1 : Nat) : Int) - 1)) else _) = 1
    rw [if_pos (by omega), show ((j + 1 : Nat) : Int) - 1 = (j : Int) by omega]
    rcases sg_cases (rd S (j : Int)) with e | e | e <;> omega
  · rw [h.2] at hx
    rw [List.mem_singleton.1 hx]
    show (if -((j + 1 : Nat) : Int) > 0 then _ else if -((j + 1 : Nat) : Int) < 0 then - sg (rd S (- -((j + 1 : Nat) : Int) - 1)) else 0) = 1
    rw [if_neg (by omega), if_pos (by omega), show - -((j + 1 : Nat) : Int) - 1 = (j : Int) by omega]
    rcases sg_cases (rd S (j : Int)) with e | e | e <;> omega
theorem SatSaid : ∀ (l0 : List Int) (a1 : Int) (a2 : Int), l0.length ≤ maxLen → (∀ x ∈ l0, (Lit.int .i8 x).wf = true) → (Lit.int .i64 a1).wf = true → (Lit.int .i64 a2).wf = true → ∃ k, ashlarlaw09_SatSaid.f k l0 a1 a2 = some true := by
  intro l0 a1 a2 hl _ _ _
  have hmn := mn_val l0.length 50 (by decide)
  have e50 : ((50 : Int).toNat) = 50 := rfl
  obtain ⟨S, hSd⟩ : ∃ S, l0.take ((mn (l0.length : Int) 50) : Int).toNat = S := ⟨_, rfl⟩
  have hS : S.length ≤ 50 := by rw [← hSd, List.length_take, hmn.1]; omega
  have hbl := bits_low a1
  obtain ⟨L, hL⟩ : ∃ L, saidF 0 S = L := ⟨_, rfl⟩
  have hmem : ∀ c ∈ L, ∃ j : Nat, j < S.length ∧ ((rd S (j : Int) > 0 ∧ c = [((j + 1 : Nat) : Int)]) ∨ (rd S (j : Int) < 0 ∧ c = [-((j + 1 : Nat) : Int)])) := fun c hc => by
    rw [← hL] at hc
    obtain ⟨j, _, h2, h3⟩ := saidF_mem S [] c hc
    exact ⟨j, h2, h3⟩
  have hhas : ∀ j : Nat, j < S.length → (rd S (j : Int) > 0 → [((j + 1 : Nat) : Int)] ∈ L) ∧ (rd S (j : Int) < 0 → [-((j + 1 : Nat) : Int)] ∈ L) := fun j hj => by
    have := saidF_has S [] j (Nat.zero_le _) hj
    rw [← hL]
    exact this
  have hLl : L.length ≤ 50 := by rw [← hL]; have := saidF_len S 0; omega
  have hone : ∀ c ∈ L, ∃ x, c = [x] := fun c hc => by
    obtain ⟨j, _, h | h⟩ := hmem c hc
    · exact ⟨_, h.2⟩
    · exact ⟨_, h.2⟩
  have hlit : ∀ c ∈ L, ∀ x ∈ c, SatW.lit S.length x := fun c hc x hx => by
    obtain ⟨j, hj, h | h⟩ := hmem c hc
    · rw [h.2] at hx
      rw [List.mem_singleton.1 hx]
      exact ⟨by omega, by omega, by omega⟩
    · rw [h.2] at hx
      rw [List.mem_singleton.1 hx]
      exact ⟨by omega, by omega, by omega⟩
  have hright : SatW.rightF L (S.length : Int) = true := SatW.rightF_iff.2 ⟨⟨by omega, by omega⟩, fun c hc x hx => by rw [Int.toNat_natCast]; exact hlit c hc x hx⟩
  have hlen1 : ∀ c ∈ L, c.length ≤ 1000000 := fun c hc => by
    obtain ⟨x, rfl⟩ := hone c hc
    simp
  have hFc : ∀ c ∈ L, ∀ x ∈ c, saidV S x = 1 := fun c hc x hx => by
    obtain ⟨j, hj, h⟩ := hmem c hc
    exact said_true S c j h x hx
  obtain ⟨k, t, val, hs, ht, htr, hvl, hv⟩ := SatW.solve_single a2 hright hlen1 (by omega) hone (said_val S) hFc
  rw [Int.toNat_natCast] at ht hvl hv
  refine Ev.rounds ?_
  unfold ashlarlaw09_SatSaid.f
  rw [hSd]
  refine Ev.bind shown_ok (Ev.pos hmn.2.1 (Ev.pos hmn.2.2 ?_))
  refine said_build hS (L := L) ?_ S [] [] rfl (Nat.le_refl _) hL
  refine Ev.bind (solve_ev hs) (Ev.pos rfl ?_)
  have hml : (val.map fun x => decide (x > 0)).length = S.length + 1 := by rw [List.length_map]; exact hvl
  have hw1 : wrap64 ((S.length : Int) + 1) = ((S.length + 1 : Nat) : Int) := by rw [w64 (by omega) (by omega)]; omega
  show Ev (fun k => ashlarlaw09_SatSaid.j1 k S a1 a2 true L (val.map fun x => decide (x > 0)) (((val.map fun x => decide (x > 0)).length : Int) != wrap64 ((S.length : Int) + 1))) true
  rw [hw1, hml]
  clear hw1 hmn hSd hs
  refine Ev.succ ?_
  simp only [ashlarlaw09_SatSaid.j1]
  refine Ev.neg (by simp) ?_
  refine said_check hS hml (fun j hj h0 => ?_) ?_ S.length 0 (by omega)
  · have hvj := hv (j + 1) (Nat.succ_le_of_lt hj)
    have e : rdOf false (val.map fun x => decide (x > 0)) ((j + 1 : Nat) : Int) = decide (SatW.tv t ((j + 1 : Nat) : Int) > 0) := by
      unfold rdOf
      rw [List.getD_eq_getElem?_getD, List.getElem?_map, Int.toNat_natCast, hvj]
      rfl
    rw [e]
    by_cases hp : rd S (j : Int) > 0
    · obtain ⟨x, hx, hxt⟩ := htr _ ((hhas j hj).1 hp)
      rw [List.mem_singleton.1 hx] at hxt
      rw [SatW.tv_one.2 hxt, decide_eq_true hp]; rfl
    · obtain ⟨x, hx, hxt⟩ := htr _ ((hhas j hj).2 (by omega))
      rw [List.mem_singleton.1 hx] at hxt
      have h1 := SatW.tv_one.2 hxt
      rw [ht.val.1] at h1
      rw [decide_eq_false hp, decide_eq_false (by omega)]
  · by_cases hz : (L.length : Int) = 0
    · exact Ev.pos hz (Ev.some_ _)
    · have hlt := Int.tmod_lt_of_pos (Go.bits .and .i64 a1 65535) (b := (L.length : Int)) (by omega)
      have hge := Int.tmod_nonneg (L.length : Int) hbl.1
      obtain ⟨q, hq⟩ : ∃ q, Int.tmod (Go.bits .and .i64 a1 65535) (L.length : Int) = q := ⟨_, rfl⟩
      rw [hq] at hlt hge ⊢
      have hcm : rd_L2 L q ∈ L := by
        unfold rd_L2
        rw [List.getD_eq_getElem?_getD, List.getElem?_eq_getElem (show q.toNat < L.length by omega)]
        exact List.getElem_mem _
      obtain ⟨x, hx⟩ := hone _ hcm
      have hxl := hlit _ hcm x (by rw [hx]; simp)
      obtain ⟨x0, x1, x2⟩ := hxl
      have hrx : rd [x] 0 = x := rfl
      have hxm : [x] ∈ L := by rw [← hx]; exact hcm
      have hng : wrap64 (-x) = -x := w64 (by omega) (by omega)
      rw [hx, hrx, hng]
      have hright2 : SatW.rightF (L ++ [[-x]]) (S.length : Int) = true := SatW.rightF_iff.2 ⟨⟨by omega, by omega⟩, fun c hc y hy => by
        rw [Int.toNat_natCast]
        rcases List.mem_append.1 hc with h | h
        · exact hlit c h y hy
        · rw [List.mem_singleton.1 h] at hy
          rw [List.mem_singleton.1 hy]
          exact ⟨by omega, by omega, by omega⟩⟩
      have hR : SatW.Rup (L ++ [[-x]]) [] := by
        rintro ⟨G, hG, _, hid⟩
        have g1 := SatW.idle_one (hid [x] (by simp [hxm]))
        have g2 := SatW.idle_one (hid [-x] (by simp))
        rw [hG.1] at g2
        omega
      obtain ⟨k2, hk2⟩ := SatW.solve_conflict a2 hright2 (fun c hc => by
        rcases List.mem_append.1 hc with h | h
        · exact hlen1 c h
        · rw [List.mem_singleton.1 h]; simp) (by rw [List.length_append, List.length_singleton]; omega) hR
      exact Ev.neg hz (Ev.pos hge (Ev.pos hlt (Ev.pos (by simp) (Ev.pos (by omega) (Ev.bind (solve_ev hk2) (Ev.pos rfl (Ev.pos rfl (Ev.some_ _))))))))
end Go.Proofs.Ytmdjlhmifhnpdaa.Pure
