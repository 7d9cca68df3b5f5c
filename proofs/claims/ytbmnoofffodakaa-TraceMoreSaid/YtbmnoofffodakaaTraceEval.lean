/- What the functions of the chapter trace come to: Rup, Chain. -/
import Derived.Test.YtbmnoofffodakaaTraceRup
import Derived.Test.YtbmnoofffodakaaQx3
namespace Go.Proofs.Ytbmnoofffodakaa.PT
open Go.RowKit Go.Proofs.Ytbmnoofffodakaa.Q Go.Proofs.YtbmnoofffodakaaW.PrintWords Go.Proofs.YtbmnoofffodakaaW.PrintLast Go.Proofs.YtbmnoofffodakaaW.PrintMore

def mF (m : Int) (c : List Int) : Int := c.foldl (fun m x => mx (mx m x) (-x)) m
def vF (m : Int) (l : List (List Int)) : Int := l.foldl mF m
def Small (c : List Int) : Prop := ∀ x ∈ c, x ≠ 0 ∧ -10000 ≤ x ∧ x ≤ 10000
theorem le_mx (a b : Int) : a ≤ mx a b ∧ b ≤ mx a b ∧ (mx a b = a ∨ mx a b = b) := by
  unfold mx
  split <;> omega
theorem mF_spec (c : List Int) : ∀ m, Small c → 0 ≤ m → m ≤ 10000 → m ≤ mF m c ∧ mF m c ≤ 10000 ∧ ∀ x ∈ c, x ≤ mF m c ∧ -x ≤ mF m c := by
  induction c with
  | nil => intro m _ _ _; exact ⟨Int.le_refl _, by assumption, by simp⟩
  | cons x c ih =>
    intro m hs h0 h1
    have hx := hs x (by simp)
    have a := le_mx m x
    have b := le_mx (mx m x) (-x)
    have := ih (mx (mx m x) (-x)) (fun y hy => hs y (by simp [hy])) (by omega) (by omega)
    refine ⟨?_, this.2.1, ?_⟩
    · show m ≤ mF (mx (mx m x) (-x)) c
      omega
    · intro y hy
      show y ≤ mF (mx (mx m x) (-x)) c ∧ -y ≤ mF (mx (mx m x) (-x)) c
      rcases List.mem_cons.1 hy with e | e
      · subst e; omega
      · exact this.2.2 y e
theorem vF_spec (l : List (List Int)) : ∀ m, (∀ c ∈ l, Small c) → 0 ≤ m → m ≤ 10000 → m ≤ vF m l ∧ vF m l ≤ 10000 ∧ ∀ c ∈ l, ∀ x ∈ c, x ≤ vF m l ∧ -x ≤ vF m l := by
  induction l with
  | nil => intro m _ _ _; exact ⟨Int.le_refl _, by assumption, by simp⟩
  | cons c l ih =>
    intro m hs h0 h1
    have a := mF_spec c m (hs c (by simp)) h0 h1
    have := ih (mF m c) (fun y hy => hs y (by simp [hy])) (by omega) a.2.1
    refine ⟨?_, this.2.1, ?_⟩
    · show m ≤ vF (mF m c) l
      omega
    · intro d hd x hx
      show x ≤ vF (mF m c) l ∧ -x ≤ vF (mF m c) l
      rcases List.mem_cons.1 hd with e | e
      · subst e
        have := a.2.2 x hx
        omega
      · exact this.2.2 d e x hx
theorem vars_inner {L : List (List Int)} {len x9 n : Int} (rest : List Int) : ∀ (pre : List Int) (m : Int), (pre ++ rest).length ≤ 9223372036854775806 → Small rest →
    Ev (fun k => trace_vars.l0 k (mF m rest) L len (wrap64 (x9 + 1))) n → Ev (fun k => trace_vars.l1 k m L len x9 (pre ++ rest) ((pre ++ rest).length : Int) (pre.length : Int)) n := by
  induction rest with
  | nil =>
    intro pre m hl hs h
    refine Ev.succ ?_
    simp only [trace_vars.l1]
    rw [List.append_nil]
    exact Ev.neg (by omega) h
  | cons x rest ih =>
    intro pre m hl hs h
    have hll : (pre ++ x :: rest).length = pre.length + rest.length + 1 := by simp; omega
    have hlt : (pre.length : Int) < ((pre ++ x :: rest).length : Int) := by omega
    have hnx : wrap64 ((pre.length : Int) + 1) = ((pre ++ [x]).length : Int) := by rw [w64 (by omega) (by omega)]; simp
    have happ : pre ++ x :: rest = (pre ++ [x]) ++ rest := by simp
    have hx := hs x (by simp)
    refine Ev.succ ?_
    simp only [trace_vars.l1, rd_mid]
    refine Ev.pos hlt (Ev.pos (by omega) (Ev.pos hlt ?_))
    rw [hnx, w64 (n := -x) (by omega) (by omega)]
    have := ih (pre ++ [x]) (mx (mx m x) (-x)) (by rw [← happ]; exact hl) (fun y hy => hs y (by simp [hy])) h
    rw [← happ] at this
    exact this
theorem vars_loop (rest : List (List Int)) : ∀ (pre : List (List Int)) (m : Int), WfC (pre ++ rest) → (∀ c ∈ rest, Small c) →
    Ev (fun k => trace_vars.l0 k m (pre ++ rest) ((pre ++ rest).length : Int) (pre.length : Int)) (vF m rest) := by
  induction rest with
  | nil =>
    intro pre m hl hs
    refine Ev.succ ?_
    simp only [trace_vars.l0]
    rw [List.append_nil]
    exact Ev.neg (by omega) (Ev.some_ _)
  | cons c rest ih =>
    intro pre m hl hs
    have hl1 := hl.1
    have hll : (pre ++ c :: rest).length = pre.length + rest.length + 1 := by simp; omega
    have hlt : (pre.length : Int) < ((pre ++ c :: rest).length : Int) := by omega
    have hnx : wrap64 ((pre.length : Int) + 1) = ((pre ++ [c]).length : Int) := by rw [w64 (by omega) (by omega)]; simp
    have happ : pre ++ c :: rest = (pre ++ [c]) ++ rest := by simp
    refine Ev.succ ?_
    simp only [trace_vars.l0, rd_L1_mid]
    refine Ev.pos hlt (Ev.pos (by omega) (Ev.pos hlt ?_))
    refine vars_inner c [] m (hl.2 c (by simp)) (hs c (by simp)) ?_
    rw [hnx]
    have := ih (pre ++ [c]) (mF m c) (by rw [← happ]; exact hl) (fun y hy => hs y (by simp [hy]))
    rw [← happ] at this
    exact this
theorem vars_ok {l : List (List Int)} (hl : WfC l) (hs : ∀ c ∈ l, Small c) : Ev (fun k => trace_vars.f k l) (vF 0 l) := vars_loop l [] 0 hl hs

theorem index_loop {x : Int} (rest : List Int) : ∀ (pre : List Int), (pre ++ rest).length ≤ 9223372036854775806 →
    ∃ v, Ev (fun k => slices_Index_int_int.l0 k (pre ++ rest) x ((pre ++ rest).length : Int) (pre.length : Int)) v ∧ (v ≥ 0 ↔ x ∈ rest) := by
  induction rest with
  | nil =>
    intro pre hl
    refine ⟨-1, Ev.succ ?_, by simp⟩
    simp only [slices_Index_int_int.l0]
    rw [List.append_nil]
    exact Ev.neg (by omega) (Ev.some_ _)
  | cons y rest ih =>
    intro pre hl
    have hll : (pre ++ y :: rest).length = pre.length + rest.length + 1 := by simp; omega
    have hlt : (pre.length : Int) < ((pre ++ y :: rest).length : Int) := by omega
    have hnx : wrap64 ((pre.length : Int) + 1) = ((pre ++ [y]).length : Int) := by rw [w64 (by omega) (by omega)]; simp
    have happ : pre ++ y :: rest = (pre ++ [y]) ++ rest := by simp
    by_cases hxy : x = y
    · refine ⟨(pre.length : Int), Ev.succ ?_, by constructor <;> intro _ <;> first | (simp [hxy]; done) | omega⟩
      simp only [slices_Index_int_int.l0, rd_mid]
      exact Ev.pos hlt (Ev.pos (by omega) (Ev.pos hlt (Ev.pos hxy (Ev.some_ _))))
    · obtain ⟨v, hv, hi⟩ := ih (pre ++ [y]) (by rw [← happ]; exact hl)
      rw [← happ] at hv
      refine ⟨v, Ev.succ ?_, by simp [hi, hxy]⟩
      simp only [slices_Index_int_int.l0, rd_mid]
      refine Ev.pos hlt (Ev.pos (by omega) (Ev.pos hlt (Ev.neg hxy ?_)))
      rw [hnx]
      exact hv
theorem contains_ok {c : List Int} (hc : c.length ≤ 9223372036854775806) (x : Int) : Ev (fun k => slices_Contains_int_int.f k c x) (decide (x ∈ c)) := by
  obtain ⟨v, hv, hi⟩ := index_loop (x := x) c [] hc
  unfold slices_Contains_int_int.f
  refine Ev.bind hv ?_
  rw [show decide (x ∈ c) = decide (v ≥ 0) from by simp only [hi]]
  exact Ev.some_ _
theorem fol_loop {L : List (List Int)} {c : List Int} {n : Nat} (hW : WfC L) (hL : ∀ d ∈ L, InC n d) (hc : InC n c) (hs : Small c) (hcl : c.length ≤ 9223372036854775806) (rest : List Int) : ∀ (pre a : List Int), pre ++ rest = c → a.length = n → WfA a → (∀ x ∈ pre, -x ∉ c) → Asg a pre →
    ∃ r, Ev (fun k => trace_follows.l0 k L c a c (c.length : Int) (pre.length : Int)) r ∧ (r = true ↔ Rup L c) := by
  induction rest with
  | nil =>
    intro pre a hp ha hwa ht hA
    rw [List.append_nil] at hp
    subst hp
    obtain ⟨b, r, hE, hR⟩ := unit_ok hW hwa
    refine ⟨r, Ev.succ ?_, run_rup hR (by rw [ha]; exact hL) (by rw [ha]; exact hc) ht hA⟩
    simp only [trace_follows.l0]
    refine Ev.neg (by omega) (Ev.bind hE (Ev.some_ _))
  | cons x rest ih =>
    intro pre a hp ha hwa ht hA
    have hxc : x ∈ c := by rw [← hp]; simp
    have hx := hs x hxc
    have hxn := hc x hxc
    have hll : c.length = pre.length + rest.length + 1 := by rw [← hp]; simp; omega
    have hlt : (pre.length : Int) < (c.length : Int) := by omega
    have hnx : wrap64 ((pre.length : Int) + 1) = ((pre ++ [x]).length : Int) := by rw [w64 (by omega) (by omega)]; simp
    have happ : (pre ++ [x]) ++ rest = c := by rw [← hp]; simp
    have hrd : rd c (pre.length : Int) = x := by rw [← hp]; exact rd_mid _ _ _
    have hneg : wrap64 (-x) = -x := w64 (by omega) (by omega)
    by_cases hin : -x ∈ c
    · refine ⟨true, Ev.succ ?_, by simp [rup_taut hxc hin]⟩
      simp only [trace_follows.l0, hrd, hneg]
      refine Ev.pos hlt (Ev.pos (by omega) (Ev.pos hlt (Ev.bind (contains_ok hcl (-x)) (Ev.pos (by simpa using hin) (Ev.some_ _)))))
    · have ht' : ∀ y ∈ pre ++ [x], -y ∉ c := fun y hy => by
        rcases List.mem_append.1 hy with h | h
        · exact ht y h
        · rw [List.mem_singleton.1 h]; exact hin
      have hnp : -x ∉ pre := fun h => hin (by rw [← hp]; simp [h])
      by_cases hpos : x > 0
      · obtain ⟨r, hE, hr⟩ := ih (pre ++ [x]) (a.set x.toNat (-1)) happ (by simp [ha]) ⟨fun y hy => by
            rcases List.mem_or_eq_of_mem_set hy with h | h
            · exact hwa.1 y h
            · subst h; omega, by simp only [List.length_set]; exact hwa.2⟩ ht' (fun j h0 h1 => by
            rw [List.length_set] at h1
            rw [rd_set _ _ _ _ h0]
            by_cases hj : j = x
            · rw [if_pos ⟨by omega, by omega⟩, if_pos (by simp [hj])]
            · rw [if_neg (by omega), hA j h0 h1]
              have e1 : (j ∈ pre ++ [x]) ↔ j ∈ pre := by simp [hj]
              have e2 : (-j ∈ pre ++ [x]) ↔ -j ∈ pre := by
                have : -j ≠ x := by omega
                simp [this]
              simp only [e1, e2])
        refine ⟨r, Ev.succ ?_, hr⟩
        simp only [trace_follows.l0, hrd, hneg]
        refine Ev.pos hlt (Ev.pos (by omega) (Ev.pos hlt (Ev.bind (contains_ok hcl (-x)) (Ev.neg (by simpa using hin) (Ev.pos hpos (Ev.pos (by omega) (Ev.pos (by rw [ha]; omega) ?_)))))))
        rw [hnx]
        exact hE
      · obtain ⟨r, hE, hr⟩ := ih (pre ++ [x]) (a.set (-x).toNat 1) happ (by simp [ha]) ⟨fun y hy => by
            rcases List.mem_or_eq_of_mem_set hy with h | h
            · exact hwa.1 y h
            · subst h; omega, by simp only [List.length_set]; exact hwa.2⟩ ht' (fun j h0 h1 => by
            rw [List.length_set] at h1
            rw [rd_set _ _ _ _ h0]
            by_cases hj : j = -x
            · rw [if_pos ⟨by omega, by omega⟩, if_neg (by subst hj; simp [hnp]; omega), if_pos (by simp [hj])]
            · rw [if_neg (by omega), hA j h0 h1]
              have e1 : (j ∈ pre ++ [x]) ↔ j ∈ pre := by
                have : j ≠ x := by omega
                simp [this]
              have e2 : (-j ∈ pre ++ [x]) ↔ -j ∈ pre := by
                have : -j ≠ x := by omega
                simp [this]
              simp only [e1, e2])
        refine ⟨r, Ev.succ ?_, hr⟩
        simp only [trace_follows.l0, hrd, hneg]
        refine Ev.pos hlt (Ev.pos (by omega) (Ev.pos hlt (Ev.bind (contains_ok hcl (-x)) (Ev.neg (by simpa using hin) (Ev.neg hpos (Ev.pos (by omega) (Ev.pos (by rw [ha]; omega) ?_)))))))
        rw [hnx]
        exact hE
theorem rd_repl (n : Nat) (j : Int) : rd (List.replicate n 0) j = 0 := by
  simp [rd, List.getD_eq_getElem?_getD, List.getElem?_replicate]
  split <;> rfl
theorem wfa_repl {n : Nat} (h : n < 140737488355328) : WfA (List.replicate n 0) := ⟨fun x hx => by rw [List.eq_of_mem_replicate hx]; omega, by simpa using h⟩
theorem follows_ok {L : List (List Int)} {c : List Int} {n : Int} (h0 : 0 ≤ n) (h1 : n ≤ 10000) (hW : WfC L) (hcl : c.length ≤ 9223372036854775806) (hL : ∀ d ∈ L, Small d ∧ ∀ x ∈ d, x ≤ n ∧ -x ≤ n) (hs : Small c) (hc : ∀ x ∈ c, x ≤ n ∧ -x ≤ n) :
    ∃ r, Ev (fun k => trace_follows.f k L c n) r ∧ (r = true ↔ Rup L c) := by
  have hw : wrap64 (n + 1) = n + 1 := w64 (by omega) (by omega)
  obtain ⟨r, hE, hr⟩ := fol_loop (n := (n + 1).toNat) hW (fun d hd x hx => ⟨((hL d hd).1 x hx).1, by have := (hL d hd).2 x hx; omega, by have := (hL d hd).2 x hx; omega⟩) (fun x hx => ⟨(hs x hx).1, by have := hc x hx; omega, by have := hc x hx; omega⟩) hs hcl c [] (List.replicate (n + 1).toNat 0) rfl (by simp) (wfa_repl (by omega)) (by simp) (fun j _ _ => by rw [rd_repl]; simp)
  refine ⟨r, ?_, hr⟩
  unfold trace_follows.f
  rw [hw]
  exact Ev.pos (by omega) (Ev.pos (by omega) hE)
end Go.Proofs.Ytbmnoofffodakaa.PT
