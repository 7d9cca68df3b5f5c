/- What the small functions of the Prop laws come to: few, same, shown. -/
import Derived.Test.YtbgjmeiphmfniaaPropEval
import Derived.Test.YtbgjmeiphmfniaaQx2
import Derived.Test.YtbgjmeiphmfniaaQx3
import Derived.Test.YtbgjmeiphmfniaaQx5
namespace Go.Proofs.Ytbgjmeiphmfniaa.PT
open Go.RowKit Go.Proofs.Ytbgjmeiphmfniaa.Q Go.Proofs.YtbgjmeiphmfniaaW.PrintWords Go.Proofs.YtbgjmeiphmfniaaW.PrintLast Go.Proofs.YtbgjmeiphmfniaaW.PrintMore

theorem mn_val (n : Nat) (m : Int) (hm : 0 ≤ m) : ((mn (n : Int) m) : Int).toNat = min n m.toNat ∧ 0 ≤ mn (n : Int) m ∧ mn (n : Int) m ≤ (n : Int) := by unfold mn; split <;> omega
theorem take_mn {α : Type} (l : List α) (m : Int) (hm : 0 ≤ m) : l.take ((mn (l.length : Int) m) : Int).toNat = l.take m.toNat := by
  rw [(mn_val l.length m hm).1]
  by_cases h : l.length ≤ m.toNat
  · rw [Nat.min_eq_left h, List.take_of_length_le (Nat.le_refl _), List.take_of_length_le h]
  · rw [Nat.min_eq_right (by omega)]

theorem few_loop (a : List Int) (rest : List (List Int)) : ∀ (pre : List (List Int)) (out : List (List Int)), (pre ++ rest).length ≤ 9223372036854775807 → out.length = pre.length → pre.length ≤ 50 →
    Ev (fun k => ashlarlaw08_few.l0 k (pre ++ rest) a out (pre.length : Int)) (out ++ (rest.take (50 - pre.length)).map (·.take 20), a.take 50) := by
  have fin : ∀ (out : List (List Int)), (if 0 ≤ (mn (a.length : Int) 50) then (if (mn (a.length : Int) 50) ≤ (a.length : Int) then (if ([] : List Int).length + (a.take ((mn (a.length : Int) 50) : Int).toNat).length < 140737488355328 then some (out, (([] : List Int) ++ (a.take ((mn (a.length : Int) 50) : Int).toNat))) else none) else none) else none) = some (out, a.take 50) := by
    intro out
    have h := mn_val a.length 50 (by decide)
    have hl : (a.take 50).length ≤ 50 := List.length_take_le _ _
    rw [take_mn a 50 (by decide), if_pos h.2.1, if_pos h.2.2]
    rw [if_pos (by simp only [List.length_nil]; have : ((50 : Int).toNat) = 50 := rfl; rw [this]; omega)]
    rfl
  induction rest with
  | nil =>
    intro pre out _ ho hp
    refine Ev.succ ?_
    simp only [ashlarlaw08_few.l0, Option.bind_some, fin]
    rw [List.append_nil]
    refine Ev.neg (by omega) ?_
    rw [List.take_nil, List.map_nil, List.append_nil]
    exact Ev.some_ _
  | cons c rest ih =>
    intro pre out hl ho hp
    have hll : (pre ++ c :: rest).length = pre.length + rest.length + 1 := by simp; omega
    refine Ev.succ ?_
    simp only [ashlarlaw08_few.l0, Option.bind_some, fin, rd_L2_mid]
    refine Ev.pos (by omega) ?_
    by_cases h50 : pre.length = 50
    · refine Ev.neg (by omega) ?_
      rw [h50, Nat.sub_self, List.take_zero, List.map_nil, List.append_nil]
      exact Ev.some_ _
    · have h := mn_val c.length 20 (by decide)
      have hc : (c.take 20).length ≤ 20 := List.length_take_le _ _
      have e20 : ((20 : Int).toNat) = 20 := rfl
      refine Ev.pos (by omega) (Ev.pos (by omega) (Ev.pos h.2.1 (Ev.pos h.2.2 ?_)))
      rw [take_mn c 20 (by decide), e20, List.nil_append]
      refine Ev.pos (by simp only [List.length_nil]; omega) (Ev.pos (by omega) ?_)
      have hnx : wrap64 ((pre.length : Int) + 1) = ((pre ++ [c]).length : Int) := by rw [w64 (by omega) (by omega)]; simp
      have happ : pre ++ c :: rest = (pre ++ [c]) ++ rest := by simp
      have := ih (pre ++ [c]) (out ++ [c.take 20]) (by rw [← happ]; exact hl) (by simp [ho]) (by simp; omega)
      rw [← happ] at this
      rw [hnx]
      have e : 50 - pre.length = (50 - (pre ++ [c]).length) + 1 := by simp; omega
      rw [e, List.take_succ_cons, List.map_cons]
      simp only [List.append_assoc, List.singleton_append] at this
      exact this
theorem few_ok (l : List (List Int)) (a : List Int) (hl : l.length ≤ maxLen) : Ev (fun k => ashlarlaw08_few.f k l a) ((l.take 50).map (·.take 20), a.take 50) := by
  have := few_loop a l [] [] hl rfl (by simp)
  exact this

theorem same_loop (rest : List Int) : ∀ (pre x : List Int), (pre ++ rest).length ≤ 9223372036854775806 → x.length = (pre ++ rest).length →
    Ev (fun k => ashlarlaw08_same.l0 k (pre ++ rest) x (pre.length : Int)) (decide (rest = x.drop pre.length)) := by
  induction rest with
  | nil =>
    intro pre x _ hx
    refine Ev.succ ?_
    simp only [ashlarlaw08_same.l0]
    rw [List.append_nil] at hx ⊢
    refine Ev.neg (by omega) ?_
    rw [List.drop_eq_nil_of_le (by omega), decide_eq_true rfl]
    exact Ev.some_ _
  | cons c rest ih =>
    intro pre x hl hx
    have hll : (pre ++ c :: rest).length = pre.length + rest.length + 1 := by simp; omega
    have hnx : wrap64 ((pre.length : Int) + 1) = ((pre ++ [c]).length : Int) := by rw [w64 (by omega) (by omega)]; simp
    have happ : pre ++ c :: rest = (pre ++ [c]) ++ rest := by simp
    refine Ev.succ ?_
    simp only [ashlarlaw08_same.l0, rd_mid]
    refine Ev.pos (by omega) (Ev.pos (by omega) (Ev.pos (by omega) ?_))
    have hd : x.drop pre.length = rd x (pre.length : Int) :: x.drop (pre ++ [c]).length := by
      have hlt : pre.length < x.length := by omega
      rw [List.drop_eq_getElem_cons hlt]
      congr 1
      · unfold rd
        rw [Int.toNat_natCast, List.getD_eq_getElem?_getD, List.getElem?_eq_getElem hlt]
        rfl
      · simp
    by_cases hc : c = rd x (pre.length : Int)
    · refine Ev.pos hc ?_
      have := ih (pre ++ [c]) x (by rw [← happ]; exact hl) (by rw [← happ]; exact hx)
      rw [← happ] at this
      rw [hnx]
      have e : decide (c :: rest = x.drop pre.length) = decide (rest = x.drop (pre ++ [c]).length) := by
        rw [hd, decide_eq_decide, ← hc]
        exact ⟨fun h => (List.cons.inj h).2, fun h => by rw [← h]⟩
      rw [e]
      exact this
    · refine Ev.neg hc ?_
      rw [decide_eq_false (by rw [hd]; exact fun h => hc (List.cons.inj h).1)]
      exact Ev.some_ _
theorem same_ok (x y : List Int) (hx : x.length ≤ 9223372036854775806) : Ev (fun k => ashlarlaw08_same.f k x y) (decide (x = y)) := by
  unfold ashlarlaw08_same.f
  by_cases h : (x.length : Int) = (y.length : Int)
  · refine Ev.pos h ?_
    exact same_loop x [] y hx (by simp; omega)
  · refine Ev.neg h ?_
    rw [decide_eq_false (fun e => h (by rw [e]))]
    exact Ev.some_ _
theorem shown_ok : Ev (fun k => ashlarlaw08_shown.f k) true := Ev.of (fun k => ashlarlaw08_shown.mono k) (k := 20) (by decide +kernel)

/-- An int and a mask. -/
theorem bits_mask (a : Int) (m : Nat) (hm : m < 9223372036854775808) : Go.bits .and .i64 a (m : Int) = (((BitVec.ofInt 64 a).toNat &&& m : Nat) : Int) := by
  have h2 : (BitVec.ofInt 64 (m : Int)).toNat = m := by
    rw [BitVec.ofInt_natCast, BitVec.toNat_ofNat]
    exact Nat.mod_eq_of_lt (by omega)
  show IntKind.i64.wrap ((BitVec.ofInt 64 a &&& BitVec.ofInt 64 (m : Int)).toNat : Int) = _
  rw [BitVec.toNat_and, h2, i64_w]
  have : (BitVec.ofInt 64 a).toNat &&& m ≤ m := Nat.and_le_right
  exact w64 (by omega) (by omega)
theorem bits_mask_range (a : Int) (m : Nat) (hm : m < 9223372036854775808) : 0 ≤ Go.bits .and .i64 a (m : Int) ∧ Go.bits .and .i64 a (m : Int) ≤ (m : Int) := by
  rw [bits_mask a m hm]
  have : (BitVec.ofInt 64 a).toNat &&& m ≤ m := Nat.and_le_right
  omega
/-- What few cuts is small. -/
def Small (l : List (List Int)) : Prop := l.length ≤ 200 ∧ ∀ c ∈ l, c.length ≤ 200
theorem Small.wf {l : List (List Int)} (h : Small l) : WfC l := ⟨by have := h.1; omega, fun c hc => by have := h.2 c hc; omega⟩
theorem few_small (l : List (List Int)) : ((l.take 50).map (·.take 20)).length ≤ 50 ∧ ∀ c ∈ (l.take 50).map (·.take 20), c.length ≤ 20 := by
  refine ⟨by rw [List.length_map]; exact List.length_take_le _ _, fun c hc => ?_⟩
  obtain ⟨d, _, rfl⟩ := List.mem_map.1 hc
  exact List.length_take_le _ _
theorem few_small' (l : List (List Int)) : Small ((l.take 50).map (·.take 20)) := ⟨by have := (few_small l).1; omega, fun c hc => by have := (few_small l).2 c hc; omega⟩
theorem few_wfA {a : List Int} (h : ∀ x ∈ a, (Lit.int .i8 x).wf = true) : WfA (a.take 50) ∧ (a.take 50).length ≤ 50 := by
  have hl : (a.take 50).length ≤ 50 := List.length_take_le _ _
  refine ⟨⟨fun x hx => ?_, by omega⟩, hl⟩
  have := h x (List.mem_of_mem_take hx)
  have h2 : (-128 : Int) ≤ x ∧ x ≤ 127 := by
    have h3 : (Lit.int .i8 x).wf = (decide (-128 ≤ x) && decide (x ≤ 127)) := rfl
    rw [h3] at this
    simpa using this
  exact h2
end Go.Proofs.Ytbgjmeiphmfniaa.PT
