/- How arguments that are slices of integers, of bools, and of slices of integers are read: as lists. No program is named here. -/
import Derived.Test.YtbgjmeiphmfniaaWMore
import Derived.Deep.Matrix
import Derived.Deep.Grids
import Derived.ProofKit
import Derived.OpenShut
namespace Go.Proofs.Ytbgjmeiphmfniaa.Open
open Go.RowKit Go.ChangeShapes Go.WideShapes Go.Deep Go.Proofs.YtbgjmeiphmfniaaW.PrintWords

theorem scalarC {α : Type} {enc : α → Value} {h1 : ∀ x, (enc x).oneCell' = true} {w : World} {A : Option Addr} {xs : List α} {n : Nat} (hn : xs.length = n) (hm : n ≤ 9223372036854775807)
    (hc : 0 < n → ∃ ad, A = some ad ∧ ∀ j x, xs[j]? = some x → w.cell? (ad.add j) = some (enc x)) : (Kd.scalar enc h1).C w A n xs := by
  refine ⟨hn, hm, fun hp => ?_⟩
  obtain ⟨ad, hA, h⟩ := hc hp
  refine ⟨ad, hA, fun j p hj => ⟨[enc p], rfl, rfl, fun i u hi => ?_⟩⟩
  have hsz : (Kd.scalar enc h1).sz = 1 := rfl
  rw [hsz, Nat.mul_one]
  cases i with
  | zero =>
    have hu : enc p = u := by simpa using hi
    rw [← hu]
    exact h j p hj
  | succ i => simp at hi

section
variable {H : Type} {enc : TypeId × Value → H} {P : Program} {w : World} {base : Nat} {held : Bool}

theorem ints {t e : TypeId} {k : IntKind} {fuel : Nat} {cs : List Value} {x : DataW H × List MemPlace} (ht : P.underlying t = some (.slice e)) (he : P.underlying e = some (.int k)) (ce : P.cellsOf e = 1)
    (h : DataW.trod enc P w base (fun _ => true) held fuel t cs = some x) :
    ∃ (A : Option Addr) (cap : Nat) (l : List Int), cs = [.slice A l.length cap] ∧ l.length ≤ cap ∧ l.length ≤ maxLen ∧ (Kd.int k).C w A l.length l ∧ ∀ n ∈ l, (Lit.int k n).wf = true := by
  rcases open_ints ht he ce h with ⟨hcs, _⟩ | ⟨a, len, cap, zs, hcs, _, hl, hm, hz, _, hcell, hwz⟩
  · exact ⟨none, 0, [], hcs, Nat.le_refl _, Nat.zero_le _, scalarC rfl (by simp) (fun hp => absurd hp (by simp)), by simp⟩
  · simp only [if_true] at hz
    have hlen : (zs.take len).length = len := by rw [List.length_take]; omega
    refine ⟨some a, cap, zs.take len, by rw [hlen]; exact hcs, by omega, by omega, scalarC rfl (by rw [hlen]; simp only [maxLen] at hm; omega) (fun hp => ⟨a, rfl, fun j x hj => ?_⟩), fun n hn => hwz n (List.mem_of_mem_take hn)⟩
    have hj' : j < len := by
      have := (List.getElem?_eq_some_iff.1 hj).1
      omega
    have hjz : j < zs.length := by omega
    rw [hcell j hjz]
    rw [List.getElem?_take, if_pos hj'] at hj
    rw [List.getD_eq_getElem?_getD, hj]
    rfl

theorem boolsC {t e : TypeId} {fuel : Nat} {cs : List Value} {x : DataW H × List MemPlace} (ht : P.underlying t = some (.slice e)) (he : P.underlying e = some .bool) (ce : P.cellsOf e = 1)
    (h : DataW.trod enc P w base (fun _ => true) held fuel t cs = some x) :
    ∃ (A : Option Addr) (cap : Nat) (l : List Bool), cs = [.slice A l.length cap] ∧ l.length ≤ cap ∧ l.length ≤ maxLen ∧ Kd.bool.C w A l.length l := by
  rcases open_bools ht he ce h with ⟨hcs, _⟩ | ⟨a, len, cap, B, hcs, _, hl, hm, _, hcell⟩
  · exact ⟨none, 0, [], hcs, Nat.le_refl _, Nat.zero_le _, scalarC rfl (by simp) (fun hp => absurd hp (by simp))⟩
  · have hlen : ((List.range len).map B).length = len := by simp
    refine ⟨some a, cap, (List.range len).map B, by rw [hlen]; exact hcs, by omega, by omega, scalarC rfl (by rw [hlen]; simp only [maxLen] at hm; omega) (fun hp => ⟨a, rfl, fun j x hj => ?_⟩)⟩
    have hj' : j < len := by
      have := (List.getElem?_eq_some_iff.1 hj).1
      omega
    rw [hcell j (by omega)]
    rw [List.getElem?_map, List.getElem?_range hj'] at hj
    rw [← Option.some.inj hj]

theorem rows {t e q : TypeId} {k : IntKind} {fuel : Nat} {cs : List Value} {x : DataW H × List MemPlace} (ht : P.underlying t = some (.slice e)) (he : P.underlying e = some (.slice q)) (hq : P.underlying q = some (.int k))
    (ce : P.cellsOf e = 1) (cq : P.cellsOf q = 1) (h : DataW.trod enc P w base (fun _ => true) held fuel t cs = some x) :
    ∃ (A : Option Addr) (cap : Nat) (l : List (List Int)), cs = [.slice A l.length cap] ∧ l.length ≤ cap ∧ l.length ≤ maxLen ∧ (Kd.slice q (Kd.int k)).C w A l.length l ∧ ∀ c ∈ l, c.length ≤ maxLen ∧ ∀ n ∈ c, (Lit.int k n).wf = true := by
  rcases open_int_rows ht he hq ce cq h with ⟨hcs, _⟩ | ⟨a, len, cap, A, L, C, Z, hcs, _, hl, hm, _, hr⟩
  · exact ⟨none, 0, [], hcs, Nat.le_refl _, Nat.zero_le _, ⟨rfl, by simp, fun hp => absurd hp (by simp)⟩, by simp⟩
  · have hlen : ((List.range len).map fun r => (Z r).take (L r)).length = len := by simp
    have hrl : ∀ r, r < len → ((Z r).take (L r)).length = L r := fun r hrr => by
      obtain ⟨_, h1, _, h3, _⟩ := hr r (by omega)
      rw [List.length_take]
      omega
    refine ⟨some a, cap, (List.range len).map fun r => (Z r).take (L r), by rw [hlen]; exact hcs, by omega, by omega, ⟨rfl, by rw [hlen]; simp only [maxLen] at hm; omega, fun hp => ⟨a, rfl, fun j p hj => ?_⟩⟩, fun c hc => ?_⟩
    · have hj' : j < len := by
        have := (List.getElem?_eq_some_iff.1 hj).1
        omega
      have hp : p = (Z j).take (L j) := by
        rw [List.getElem?_map, List.getElem?_range hj'] at hj
        exact (Option.some.inj hj).symm
      obtain ⟨h0, h1, h2, h3, h4, h5, h6⟩ := hr j (by omega)
      have hpl : p.length = L j := by rw [hp]; exact hrl j hj'
      refine ⟨[.slice (A j) (L j) (C j)], rfl, ⟨A j, C j, by rw [hpl], by omega, ?_⟩, fun i u hi => ?_⟩
      · refine scalarC rfl (by rw [hpl]; simp only [maxLen] at h2; omega) (fun hpos => ?_)
        rw [hpl] at hpos
        cases hA : A j with
        | none =>
          have := h5 hA
          omega
        | some a' =>
          obtain ⟨_, hc⟩ := h6 a' hA
          refine ⟨a', rfl, fun i x hi => ?_⟩
          have hi' : i < L j := by
            have := (List.getElem?_eq_some_iff.1 hi).1
            omega
          rw [hc i (by omega)]
          rw [hp, List.getElem?_take, if_pos hi'] at hi
          rw [List.getD_eq_getElem?_getD, hi]
          rfl
      · have hsz : (Kd.slice q (Kd.int k)).sz = 1 := rfl
        rw [hsz, Nat.mul_one]
        cases i with
        | zero =>
          have hu : Value.slice (A j) (L j) (C j) = u := by simpa using hi
          rw [← hu]
          exact h0
        | succ i => simp at hi
    · obtain ⟨r, hrm, rfl⟩ := List.mem_map.1 hc
      have hrl' := List.mem_range.1 hrm
      obtain ⟨_, h1, h2, h3, h4, _⟩ := hr r (by omega)
      exact ⟨by rw [hrl r hrl']; omega, fun n hn => h4 n (List.mem_of_mem_take hn)⟩
end
end Go.Proofs.Ytbgjmeiphmfniaa.Open
