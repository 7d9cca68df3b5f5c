/- The plain law of WeighRowsTwo: what the printed functions compute answers true. -/
import Derived.Test.YtglpafflpcgnpaaWeigh2
import Derived.Test.YtglpafflpcgnpaaQx8
namespace Go.Proofs.Ytglpafflpcgnpaa.Pure
set_option linter.unusedVariables false
open Go.RowKit Go.Proofs.Ytglpafflpcgnpaa.Q Go.Proofs.YtglpafflpcgnpaaW.PrintWords Go.Proofs.YtglpafflpcgnpaaW.PrintLast Go.Proofs.Ytglpafflpcgnpaa.Fl

theorem getD_left (x y : List Nat) (i : Nat) (h : i < x.length) : (x ++ y).getD i 0 = x.getD i 0 := by
  rw [List.getD_eq_getElem?_getD, List.getD_eq_getElem?_getD, List.getElem?_append_left h]
theorem getD_right (x y : List Nat) (i : Nat) (h : x.length ≤ i) : (x ++ y).getD i 0 = y.getD (i - x.length) 0 := by
  rw [List.getD_eq_getElem?_getD, List.getD_eq_getElem?_getD, List.getElem?_append_right h]
theorem top_app_left {x y : List Nat} {a : Nat} (ha : Top x a) (hy : ∀ i, i < y.length → K (y.getD i 0) ≤ K (x.getD a 0)) : Top (x ++ y) a := by
  obtain ⟨h1, h2, h3⟩ := ha
  refine ⟨by rw [List.length_append]; omega, ?_, ?_⟩
  · intro i hi
    rw [getD_left x y a h1]
    by_cases g : i < x.length
    · rw [getD_left x y i g]; exact h2 i g
    · rw [getD_right x y i (by omega)]; exact hy _ (by rw [List.length_append] at hi; omega)
  · intro i hi
    rw [getD_left x y a h1, getD_left x y i (by omega)]; exact h3 i hi
theorem top_app_right {x y : List Nat} {b : Nat} (hb : Top y b) (hx : ∀ i, i < x.length → K (x.getD i 0) < K (y.getD b 0)) : Top (x ++ y) (x.length + b) := by
  obtain ⟨h1, h2, h3⟩ := hb
  have e : (x ++ y).getD (x.length + b) 0 = y.getD b 0 := by rw [getD_right x y _ (by omega), show x.length + b - x.length = b by omega]
  refine ⟨by rw [List.length_append]; omega, ?_, ?_⟩
  · intro i hi
    rw [e]
    by_cases g : i < x.length
    · rw [getD_left x y i g]; have := hx i g; omega
    · rw [getD_right x y i (by omega)]; exact h2 _ (by rw [List.length_append] at hi; omega)
  · intro i hi
    rw [e]
    by_cases g : i < x.length
    · rw [getD_left x y i g]; exact hx i g
    · rw [getD_right x y i (by omega)]; exact h3 _ (by omega)
theorem heavy_top (l : List Nat) (hw : Ws l) (hl : l.length ≤ 1000000) (h : Nat) (ht : Top l h) : weigh_Heavy.f l = some (h : Int) := by
  rcases heavy_f l hw hl with ⟨e, _⟩ | ⟨m, e, hm⟩
  · have := ht.1; rw [e] at this; simp at this
  · rw [e, ht.unique hm]
theorem WeighRowsTwo : ∀ (l0 : List Int) (l1 : List Int), l0.length ≤ maxLen → (∀ x ∈ l0, (Lit.int .u64 x).wf = true) → l1.length ≤ maxLen → (∀ x ∈ l1, (Lit.int .u64 x).wf = true) → ∃ k, ashlarlaw02_WeighRowsTwo.f k l0 l1 = some true := by
  intro l m hm1 hwf1 hm2 hwf2
  obtain ⟨n, hn⟩ : ∃ n, n = 1000 := ⟨1000, rfl⟩
  refine ⟨n + 1, ?_⟩
  unfold ashlarlaw02_WeighRowsTwo.f
  have hl1 := flo_len l
  have hw1 := flo_W l hwf1
  have hl2 := flo_len m
  have hw2 := flo_W m hwf2
  rw [shown_f (n + 1) (by omega), Option.bind_some, floats_f l (n + 1) (by omega), Option.bind_some, floats_f m (n + 1) (by omega), Option.bind_some]
  generalize flo l = x at *
  generalize flo m = y at *
  have hw : Ws (x ++ y) := by
    intro z hz
    rcases List.mem_append.1 hz with h | h
    · exact hw1 z h
    · exact hw2 z h
  have hlen : (x ++ y).length ≤ 1000000 := by rw [List.length_append]; omega
  have c1 : ([] : List Nat).length + x.length < 17592186044416 := by simp; omega
  have c2 : ([] ++ x : List Nat).length + y.length < 17592186044416 := by simp; omega
  have zero : ∀ z : List Nat, z = [] → weigh_Heavy.f z = some (-1) := by intro z hz; subst hz; rfl
  rcases heavy_f x hw1 (by omega) with ⟨e1, h1⟩ | ⟨a, h1, t1⟩ <;> rcases heavy_f y hw2 (by omega) with ⟨e2, h2⟩ | ⟨b, h2, t2⟩
  · have h3 : weigh_Heavy.f ([] ++ x ++ y) = some (-1) := zero _ (by rw [e1, e2]; rfl)
    simp only [h1, h2, Option.bind_some]
    rw [if_pos c1, if_pos c2, h3]
    simp only [Option.bind_some, ashlarlaw02_WeighRowsTwo.j0]
    rfl
  · have h3 : weigh_Heavy.f ([] ++ x ++ y) = some (b : Int) := by rw [e1]; exact h2
    simp only [h1, h2, Option.bind_some]
    rw [if_pos c1, if_pos c2, h3]
    simp only [Option.bind_some, ashlarlaw02_WeighRowsTwo.j0]
    rw [if_pos (by decide), decide_eq_false (by omega), if_neg (by decide), if_pos (by decide)]
    simp
  · have h3 : weigh_Heavy.f ([] ++ x ++ y) = some (a : Int) := by rw [e2, List.append_nil]; exact h1
    simp only [h1, h2, Option.bind_some]
    rw [if_pos c1, if_pos c2, h3]
    simp only [Option.bind_some, ashlarlaw02_WeighRowsTwo.j0]
    rw [if_neg (by omega), if_neg (by decide), if_neg (by omega), if_pos (by decide)]
    simp
  · have hA := t1.1
    have hB := t2.1
    have L := less_k n (by omega) (x.getD a 0) (y.getD b 0) (W_getD _ hw1 _) (W_getD _ hw2 _)
    simp only [h1, h2, Option.bind_some]
    rw [if_pos c1, if_pos c2]
    by_cases c : K (x.getD a 0) < K (y.getD b 0)
    · have h3 : weigh_Heavy.f ([] ++ x ++ y) = some ((x.length + b : Nat) : Int) := heavy_top _ hw hlen _ (top_app_right t2 (fun i hi => by have := t1.2.1 i hi; omega))
      rw [h3]
      simp only [Option.bind_some, ashlarlaw02_WeighRowsTwo.j0]
      rw [if_neg (by omega), if_neg (by decide), if_neg (by omega), if_neg (by omega), if_pos (by omega), if_pos (by omega), if_pos (by omega), if_pos (by omega), rd_nat, rd_nat, L]
      simp only [Option.bind_some]
      rw [if_pos (decide_eq_true c)]
      have hwrap : wrap64 ((x.length : Int) + (b : Int)) = ((x.length + b : Nat) : Int) := by unfold wrap64; omega
      rw [hwrap]
      simp
    · have h3 : weigh_Heavy.f ([] ++ x ++ y) = some (a : Int) := heavy_top _ hw hlen _ (top_app_left t1 (fun i hi => by have := t2.2.1 i hi; omega))
      rw [h3]
      simp only [Option.bind_some, ashlarlaw02_WeighRowsTwo.j0]
      rw [if_neg (by omega), if_neg (by decide), if_neg (by omega), if_neg (by omega), if_pos (by omega), if_pos (by omega), if_pos (by omega), if_pos (by omega), rd_nat, rd_nat, L]
      simp only [Option.bind_some]
      rw [if_neg (by simpa using c)]
      simp

end Go.Proofs.Ytglpafflpcgnpaa.Pure
