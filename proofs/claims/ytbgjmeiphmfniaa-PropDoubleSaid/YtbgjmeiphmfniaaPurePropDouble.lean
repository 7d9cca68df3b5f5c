/- The law PropDouble, in plain Lean: what is said twice is said once. -/
import Derived.Test.YtbgjmeiphmfniaaPropFew
import Derived.Test.YtbgjmeiphmfniaaQx11
namespace Go.Proofs.Ytbgjmeiphmfniaa.Pure
open Go.RowKit Go.Proofs.Ytbgjmeiphmfniaa.Q Go.Proofs.Ytbgjmeiphmfniaa.PT Go.Proofs.YtbgjmeiphmfniaaW.PrintWords Go.Proofs.YtbgjmeiphmfniaaW.PrintLast Go.Proofs.YtbgjmeiphmfniaaW.PrintMore

def dup : List Int → List Int
  | [] => []
  | x :: c => x :: x :: dup c
theorem mem_dup {c : List Int} {x : Int} : x ∈ dup c ↔ x ∈ c := by
  induction c with
  | nil => simp [dup]
  | cons y c ih => simp [dup, ih]
theorem dup_append (c d : List Int) : dup (c ++ d) = dup c ++ dup d := by
  induction c with
  | nil => rfl
  | cons y c ih => simp [dup, ih]
theorem dup_length (c : List Int) : (dup c).length = 2 * c.length := by
  induction c with
  | nil => rfl
  | cons y c ih => simp [dup, ih]; omega
def twice (l : List (List Int)) : List (List Int) := l.map dup ++ l
theorem sub_twice (l : List (List Int)) : Sub l (twice l) := fun c hc => ⟨c, List.mem_append_right _ hc, fun _ => Iff.rfl⟩
theorem twice_sub (l : List (List Int)) : Sub (twice l) l := fun c hc => by
  rcases List.mem_append.1 hc with h | h
  · obtain ⟨d, hd, rfl⟩ := List.mem_map.1 h
    exact ⟨d, hd, fun _ => mem_dup⟩
  · exact ⟨c, h, fun _ => Iff.rfl⟩
theorem run_twice {l : List (List Int)} {a b : List Int} {r : Bool} (h : Run l a b r) : Run (twice l) a b r := by
  have hid : ∀ {z : List Int} {pre : List (List Int)}, (∀ d ∈ pre, idle z d) → ∀ d ∈ pre.map dup, idle z d := by
    intro z pre h d hd
    obtain ⟨e, he, rfl⟩ := List.mem_map.1 hd
    exact (idle_congr z fun _ => mem_dup).2 (h e he)
  induction h with
  | done h => exact .done ((twice_sub l).closed h)
  | @conf a c pre post hl hi hc =>
    refine .conf (pre := pre.map dup) (c := dup c) (post := post.map dup ++ l) ?_ (hid hi) (by rw [flsB_congr a fun _ => mem_dup]; exact hc)
    unfold twice
    rw [hl]
    simp
  | @step a c b n r pre post hl hi hc hr ih =>
    refine .step (pre := pre.map dup) (c := dup c) (post := post.map dup ++ l) ?_ (hid hi) (n := n) (by rw [untB_congr a fun _ => mem_dup]; exact hc) ih
    unfold twice
    rw [hl]
    simp

theorem double_end {l : List (List Int)} (h50 : l.length ≤ 50) (hl : ∀ c ∈ l, c.length ≤ 20) {a : List Int} (ha : WfA a) (hs : a.length ≤ 1000) (i : Int) (hi : ¬ i < (l.length : Int)) : Ev (fun k => ashlarlaw08_PropDouble.l0 k l a true (l.map dup) i) true := by
  have hsl : Small l := ⟨by omega, fun c hc => by have := hl c hc; omega⟩
  have hst : Small (twice l) := by
    refine ⟨by simp [twice]; omega, fun c hc => ?_⟩
    rcases List.mem_append.1 hc with h | h
    · obtain ⟨d, hd, rfl⟩ := List.mem_map.1 h
      have := hl d hd
      rw [dup_length]
      omega
    · have := hl c h
      omega
  obtain ⟨b, r, hE, hR⟩ := unit_ok hsl.wf ha
  obtain ⟨b', r', hE', hR'⟩ := unit_ok hst.wf ha
  obtain ⟨rfl, rfl⟩ := (run_twice hR).det hR'
  have hbl := hR.length
  have he := eval_same (sub_twice l) (twice_sub l) a
  refine Ev.succ ?_
  simp only [ashlarlaw08_PropDouble.l0, Option.bind_some]
  refine Ev.neg hi (Ev.pos (by simp; omega) (Ev.bind hE ?_))
  have e : l.map dup ++ l = twice l := rfl
  rw [e]
  refine Ev.bind hE' (Ev.pos trivial (Ev.bind (same_ok b b (by omega)) (Ev.pos (decide_eq_true rfl) ?_)))
  simp only
  refine Ev.pos (by simp) (Ev.bind (eval_ok ha hsl.wf) (Ev.bind (eval_ok ha hst.wf) ?_))
  rw [he]
  simp only [beq_self_eq_true]
  exact Ev.some_ _

theorem double_inner {l : List (List Int)} {a : List Int} {out : List (List Int)} {i : Int} {row : List Int} (hi : 0 ≤ i) (hil : i < (l.length : Int)) (hrow : rd_L2 l i = row) (hr : row.length ≤ 1000) (ho : out.length ≤ 1000)
    (H : Ev (fun k => ashlarlaw08_PropDouble.l0 k l a true (out ++ [dup row]) (wrap64 (i + 1))) true) (rest : List Int) : ∀ (pre : List Int), row = pre ++ rest → Ev (fun k => ashlarlaw08_PropDouble.l1 k l a true out i (dup pre) (pre.length : Int)) true := by
  induction rest with
  | nil =>
    intro pre hp
    rw [List.append_nil] at hp
    subst hp
    refine Ev.succ ?_
    simp only [ashlarlaw08_PropDouble.l1, hrow]
    exact Ev.pos hi (Ev.pos hil (Ev.neg (by omega) (Ev.pos (by omega) H)))
  | cons x rest ih =>
    intro pre hp
    have hcl : row.length = pre.length + rest.length + 1 := by rw [hp]; simp; omega
    have hnx : wrap64 ((pre.length : Int) + 1) = ((pre ++ [x]).length : Int) := by rw [w64 (by omega) (by omega)]; simp
    have hx : rd row (pre.length : Int) = x := by rw [hp]; exact rd_mid _ _ _
    have next := ih (pre ++ [x]) (by rw [hp]; simp)
    have e : dup (pre ++ [x]) = dup pre ++ [x, x] := by rw [dup_append]; rfl
    rw [e] at next
    refine Ev.succ ?_
    simp only [ashlarlaw08_PropDouble.l1, hrow, hx, hnx, Option.bind_some]
    exact Ev.pos hi (Ev.pos hil (Ev.pos (by omega) (Ev.pos (by omega) (Ev.pos (by rw [dup_length]; simp; omega) next))))
theorem double_loop {l : List (List Int)} (h50 : l.length ≤ 50) (hl : ∀ c ∈ l, c.length ≤ 20) {a : List Int} (ha : WfA a) (hs : a.length ≤ 1000) (rest : List (List Int)) : ∀ (pre : List (List Int)), l = pre ++ rest → Ev (fun k => ashlarlaw08_PropDouble.l0 k l a true (pre.map dup) (pre.length : Int)) true := by
  induction rest with
  | nil =>
    intro pre hp
    rw [List.append_nil] at hp
    subst hp
    exact double_end h50 hl ha hs _ (by omega)
  | cons c rest ih =>
    intro pre hp
    have hll : l.length = pre.length + rest.length + 1 := by rw [hp]; simp; omega
    have hnx : wrap64 ((pre.length : Int) + 1) = ((pre ++ [c]).length : Int) := by rw [w64 (by omega) (by omega)]; simp
    have hrow : rd_L2 l (pre.length : Int) = c := by rw [hp]; exact rd_L2_mid _ _ _
    have hc := hl c (by rw [hp]; simp)
    have next := ih (pre ++ [c]) (by rw [hp]; simp)
    rw [List.map_append, List.map_singleton] at next
    refine Ev.succ ?_
    simp only [ashlarlaw08_PropDouble.l0]
    refine Ev.pos (by omega) ?_
    exact double_inner (by omega) (by omega) hrow (by omega) (by simp; omega) (by rw [hnx]; exact next) c [] rfl

theorem PropDouble : ∀ (l0 : List (List Int)) (l1 : List Int), l0.length ≤ maxLen → (∀ c ∈ l0, c.length ≤ maxLen ∧ ∀ x ∈ c, (Lit.int .i64 x).wf = true) → l1.length ≤ maxLen → (∀ x ∈ l1, (Lit.int .i8 x).wf = true) → ∃ k, ashlarlaw08_PropDouble.f k l0 l1 = some true := by
  intro l0 l1 h0 h1 h2 h3
  refine Ev.rounds ?_
  obtain ⟨ha, hs⟩ := few_wfA h3
  have hf := few_small l0
  unfold ashlarlaw08_PropDouble.f
  refine Ev.bind shown_ok (Ev.bind (few_ok l0 l1 h0) ?_)
  exact double_loop hf.1 hf.2 ha (by omega) _ [] rfl
end Go.Proofs.Ytbgjmeiphmfniaa.Pure
