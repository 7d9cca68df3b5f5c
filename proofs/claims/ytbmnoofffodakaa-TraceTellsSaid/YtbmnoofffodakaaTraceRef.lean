/- What the reference of the chapter trace comes to: the same. -/
import Derived.Test.YtbmnoofffodakaaTraceEval
import Derived.Test.YtbmnoofffodakaaPropRef
import Derived.Test.YtbmnoofffodakaaQx7
namespace Go.Proofs.Ytbmnoofffodakaa.PT
open Go.RowKit Go.Proofs.Ytbmnoofffodakaa.Q Go.Proofs.YtbmnoofffodakaaW.PrintWords Go.Proofs.YtbmnoofffodakaaW.PrintLast Go.Proofs.YtbmnoofffodakaaW.PrintMore

theorem rf_inner {L : List (List Int)} {c d : List Int} {i : Int} (hrd : rd_L1 L i = d) (h0 : 0 ≤ i) (h1 : i < (L.length : Int)) (hd : d.length ≤ 1000000) {res : Bool} (rest : List Int) : ∀ (pre : List Int) (m : Int), pre ++ rest = d → Small rest →
    Ev (fun k => ashlarref09_Follows.l0 k L c (mF m rest) (wrap64 (i + 1))) res → Ev (fun k => ashlarref09_Follows.l1 k L c m i (pre.length : Int)) res := by
  induction rest with
  | nil =>
    intro pre m hp hs h
    rw [List.append_nil] at hp
    subst hp
    refine Ev.succ ?_
    simp only [ashlarref09_Follows.l1, hrd]
    exact Ev.pos h0 (Ev.pos h1 (Ev.neg (by omega) h))
  | cons x rest ih =>
    intro pre m hp hs h
    have hll : d.length = pre.length + rest.length + 1 := by rw [← hp]; simp; omega
    have hlt : (pre.length : Int) < (d.length : Int) := by omega
    have hnx : wrap64 ((pre.length : Int) + 1) = ((pre ++ [x]).length : Int) := by rw [w64 (by omega) (by omega)]; simp
    have hx : rd d (pre.length : Int) = x := by rw [← hp]; exact rd_mid _ _ _
    have hs1 := hs x (by simp)
    refine Ev.succ ?_
    simp only [ashlarref09_Follows.l1, hrd, hx]
    refine Ev.pos h0 (Ev.pos h1 (Ev.pos hlt (Ev.pos (by omega) ?_)))
    rw [hnx, w64 (n := -x) (by omega) (by omega)]
    exact ih (pre ++ [x]) (mx (mx m x) (-x)) (by rw [← hp]; simp) (fun y hy => hs y (by simp [hy])) h
theorem rf_rows {L : List (List Int)} {c : List Int} {res : Bool} (hL : WfR L) (rest : List (List Int)) : ∀ (pre : List (List Int)) (m : Int), pre ++ rest = L → (∀ d ∈ rest, Small d) →
    Ev (fun k => ashlarref09_Follows.l2 k L c (vF m rest) 0) res → Ev (fun k => ashlarref09_Follows.l0 k L c m (pre.length : Int)) res := by
  induction rest with
  | nil =>
    intro pre m hp hs h
    rw [List.append_nil] at hp
    subst hp
    refine Ev.succ ?_
    simp only [ashlarref09_Follows.l0]
    exact Ev.neg (by omega) h
  | cons d rest ih =>
    intro pre m hp hs h
    have hl1 := hL.1
    have hll : L.length = pre.length + rest.length + 1 := by rw [← hp]; simp; omega
    have hlt : (pre.length : Int) < (L.length : Int) := by omega
    have hnx : wrap64 ((pre.length : Int) + 1) = ((pre ++ [d]).length : Int) := by rw [w64 (by omega) (by omega)]; simp
    have hrd : rd_L1 L (pre.length : Int) = d := by rw [← hp]; exact rd_L1_mid _ _ _
    refine Ev.succ ?_
    simp only [ashlarref09_Follows.l0]
    refine Ev.pos hlt ?_
    refine rf_inner hrd (by omega) hlt (hL.2 d (by rw [← hp]; simp)) d [] m rfl (hs d (by simp)) ?_
    rw [hnx]
    exact ih (pre ++ [d]) (mF m d) (by rw [← hp]; simp) (fun y hy => hs y (by simp [hy])) h
theorem rf_line {L : List (List Int)} {c : List Int} {res : Bool} (hc : c.length ≤ 1000000) (rest : List Int) : ∀ (pre : List Int) (m : Int), pre ++ rest = c → Small rest → 0 ≤ m → m ≤ 10000 →
    Ev (fun k => ashlarref09_Follows.l3 k L c (List.replicate (mF m rest + 1).toNat 0) 0) res → Ev (fun k => ashlarref09_Follows.l2 k L c m (pre.length : Int)) res := by
  induction rest with
  | nil =>
    intro pre m hp hs h0 h1 h
    rw [List.append_nil] at hp
    subst hp
    refine Ev.succ ?_
    simp only [ashlarref09_Follows.l2]
    rw [w64 (n := m + 1) (by omega) (by omega)]
    exact Ev.neg (by omega) (Ev.pos (by omega) (Ev.pos (by omega) h))
  | cons x rest ih =>
    intro pre m hp hs h0 h1 h
    have hll : c.length = pre.length + rest.length + 1 := by rw [← hp]; simp; omega
    have hlt : (pre.length : Int) < (c.length : Int) := by omega
    have hnx : wrap64 ((pre.length : Int) + 1) = ((pre ++ [x]).length : Int) := by rw [w64 (by omega) (by omega)]; simp
    have hx : rd c (pre.length : Int) = x := by rw [← hp]; exact rd_mid _ _ _
    have hs1 := hs x (by simp)
    have a := le_mx m x
    have b := le_mx (mx m x) (-x)
    refine Ev.succ ?_
    simp only [ashlarref09_Follows.l2, hx]
    refine Ev.pos hlt (Ev.pos (by omega) ?_)
    rw [hnx, w64 (n := -x) (by omega) (by omega)]
    exact ih (pre ++ [x]) (mx (mx m x) (-x)) (by rw [← hp]; simp) (fun y hy => hs y (by simp [hy])) (by omega) (by omega) h
theorem rf_asg {L : List (List Int)} {c : List Int} {n : Nat} (hW : WfR L) (hn : n ≤ 1000000) (hL : ∀ d ∈ L, InC n d) (hc : InC n c) (hs : Small c) (hcl : c.length ≤ 1000000) (rest : List Int) : ∀ (pre a : List Int), pre ++ rest = c → a.length = n → (∀ x ∈ pre, -x ∉ pre) → Asg a pre →
    ∃ r, Ev (fun k => ashlarref09_Follows.l3 k L c a (pre.length : Int)) r ∧ (r = true ↔ Rup L c) := by
  induction rest with
  | nil =>
    intro pre a hp ha ht hA
    rw [List.append_nil] at hp
    subst hp
    obtain ⟨b, r, hE, hR⟩ := refUnit_ok hW (a := a) (by omega)
    refine ⟨r, Ev.succ ?_, run_rup hR (by rw [ha]; exact hL) (by rw [ha]; exact hc) ht hA⟩
    simp only [ashlarref09_Follows.l3]
    refine Ev.neg (by omega) (Ev.bind hE (Ev.some_ _))
  | cons x rest ih =>
    intro pre a hp ha ht hA
    have hxc : x ∈ c := by rw [← hp]; simp
    have hx := hs x hxc
    have hxn := hc x hxc
    have hll : c.length = pre.length + rest.length + 1 := by rw [← hp]; simp; omega
    have hlt : (pre.length : Int) < (c.length : Int) := by omega
    have hnx : wrap64 ((pre.length : Int) + 1) = ((pre ++ [x]).length : Int) := by rw [w64 (by omega) (by omega)]; simp
    have happ : (pre ++ [x]) ++ rest = c := by rw [← hp]; simp
    have hrd : rd c (pre.length : Int) = x := by rw [← hp]; exact rd_mid _ _ _
    have hneg : wrap64 (-x) = -x := w64 (by omega) (by omega)
    have hnn : -x ≠ x := by omega
    by_cases hin : -x ∈ pre
    · refine ⟨true, Ev.succ ?_, by simp [rup_taut hxc (show -x ∈ c by rw [← hp]; simp [hin])]⟩
      simp only [ashlarref09_Follows.l3, hrd, hneg]
      refine Ev.pos hlt (Ev.pos (by omega) ?_)
      by_cases hpos : x < 0
      · refine Ev.pos hpos (Ev.pos (by omega) (Ev.pos (by rw [ha]; omega) (Ev.pos ?_ (Ev.some_ _))))
        rw [hA (-x) (by omega) (by rw [ha]; omega), if_pos hin]
      · refine Ev.neg hpos (Ev.pos (by omega) (Ev.pos (by rw [ha]; omega) (Ev.pos ?_ (Ev.some_ _))))
        have hxp : x ∉ pre := by
          have := ht _ hin
          rwa [Int.neg_neg] at this
        rw [hA x (by omega) (by rw [ha]; omega), if_neg hxp, if_pos hin]
        rfl
    · have ht' : ∀ y ∈ pre ++ [x], -y ∉ pre ++ [x] := fun y hy h => by
        rcases List.mem_append.1 hy with k | k
        · rcases List.mem_append.1 h with k' | k'
          · exact ht y k k'
          · have e := List.mem_singleton.1 k'
            exact hin (by rw [← e, Int.neg_neg]; exact k)
        · have e := List.mem_singleton.1 k
          subst e
          rcases List.mem_append.1 h with k' | k'
          · exact hin k'
          · exact hnn (List.mem_singleton.1 k')
      by_cases hpos : x < 0
      · obtain ⟨r, hE, hr⟩ := ih (pre ++ [x]) (a.set (-x).toNat 1) happ (by simp [ha]) ht' (fun j h0 h1 => by
            rw [List.length_set] at h1
            rw [rd_set _ _ _ _ h0]
            by_cases hj : j = -x
            · rw [if_pos ⟨by omega, by omega⟩, if_neg (by subst hj; simp [hin, hnn]), if_pos (by simp [hj])]
            · rw [if_neg (by omega), hA j h0 h1]
              have e1 : (j ∈ pre ++ [x]) ↔ j ∈ pre := by
                have : j ≠ x := by omega
                simp [this]
              have e2 : (-j ∈ pre ++ [x]) ↔ -j ∈ pre := by
                have : -j ≠ x := by omega
                simp [this]
              simp only [e1, e2])
        refine ⟨r, Ev.succ ?_, hr⟩
        simp only [ashlarref09_Follows.l3, hrd, hneg]
        refine Ev.pos hlt (Ev.pos (by omega) (Ev.pos hpos (Ev.pos (by omega) (Ev.pos (by rw [ha]; omega) (Ev.neg ?_ ?_)))))
        · rw [hA (-x) (by omega) (by rw [ha]; omega), if_neg hin]
          split <;> omega
        · rw [hnx]
          exact hE
      · obtain ⟨r, hE, hr⟩ := ih (pre ++ [x]) (a.set x.toNat (-1)) happ (by simp [ha]) ht' (fun j h0 h1 => by
            rw [List.length_set] at h1
            rw [rd_set _ _ _ _ h0]
            by_cases hj : j = x
            · rw [if_pos ⟨by omega, by omega⟩, if_pos (by simp [hj])]
            · rw [if_neg (by omega), hA j h0 h1]
              have e1 : (j ∈ pre ++ [x]) ↔ j ∈ pre := by simp [hj]
              have e2 : (-j ∈ pre ++ [x]) ↔ -j ∈ pre := by
                have : -j ≠ x := by omega
                simp [this]
              simp only [e1, e2])
        refine ⟨r, Ev.succ ?_, hr⟩
        simp only [ashlarref09_Follows.l3, hrd, hneg]
        refine Ev.pos hlt (Ev.pos (by omega) (Ev.neg hpos (Ev.pos (by omega) (Ev.pos (by rw [ha]; omega) (Ev.neg ?_ ?_)))))
        · rw [hA x (by omega) (by rw [ha]; omega), if_neg hin]
          split <;> omega
        · rw [hnx]
          exact hE
theorem refFollows_ok {L : List (List Int)} {c : List Int} (hW : WfR L) (hcl : c.length ≤ 1000000) (hL : ∀ d ∈ L, Small d) (hs : Small c) :
    ∃ r, Ev (fun k => ashlarref09_Follows.f k L c) r ∧ (r = true ↔ Rup L c) := by
  have h1 := vF_spec L 0 hL (by omega) (by omega)
  have h2 := mF_spec c (vF 0 L) hs h1.1 h1.2.1
  obtain ⟨n, hn⟩ : ∃ n : Int, mF (vF 0 L) c = n := ⟨_, rfl⟩
  rw [hn] at h2
  obtain ⟨r, hE, hr⟩ := rf_asg (n := (n + 1).toNat) hW (by omega) (fun d hd x hx => ⟨(hL d hd x hx).1, by have := h1.2.2 d hd x hx; omega, by have := h1.2.2 d hd x hx; omega⟩) (fun x hx => ⟨(hs x hx).1, by have := h2.2.2 x hx; omega, by have := h2.2.2 x hx; omega⟩) hs hcl c [] (List.replicate (n + 1).toNat 0) rfl (by simp) (by simp) (fun j _ _ => by rw [rd_repl]; simp)
  refine ⟨r, ?_, hr⟩
  unfold ashlarref09_Follows.f
  refine rf_rows hW L [] 0 rfl hL ?_
  refine rf_line hcl c [] (vF 0 L) rfl hs h1.1 h1.2.1 ?_
  rw [hn]
  exact hE
theorem may_inner {l : List (List Int)} {c : List Int} {i : Int} (hrd : rd_L1 l i = c) (h0 : 0 ≤ i) (h1 : i < (l.length : Int)) (hc : c.length ≤ 1000000) {b : Bool} (next : Ev (fun k => ashlarref09_may.l0 k l (wrap64 (i + 1))) b) (rest : List Int) : ∀ (pre : List Int), pre ++ rest = c →
    ∃ b', Ev (fun k => ashlarref09_may.l1 k l i (pre.length : Int)) b' ∧ (b' = true ↔ Small rest ∧ b = true) := by
  induction rest with
  | nil =>
    intro pre hp
    rw [List.append_nil] at hp
    subst hp
    refine ⟨b, Ev.succ ?_, by simp [Small]⟩
    simp only [ashlarref09_may.l1, hrd]
    exact Ev.pos h0 (Ev.pos h1 (Ev.neg (by omega) next))
  | cons x rest ih =>
    intro pre hp
    have hll : c.length = pre.length + rest.length + 1 := by rw [← hp]; simp; omega
    have hlt : (pre.length : Int) < (c.length : Int) := by omega
    have hnx : wrap64 ((pre.length : Int) + 1) = ((pre ++ [x]).length : Int) := by rw [w64 (by omega) (by omega)]; simp
    have hx : rd c (pre.length : Int) = x := by rw [← hp]; exact rd_mid _ _ _
    have step : ∀ v, Ev (fun k => if x = 0 then (some false) else (if x < (-10000) then (some false) else (if x > 10000 then (some false) else (ashlarref09_may.l1 k l i ((pre ++ [x]).length : Int))))) v → Ev (fun k => ashlarref09_may.l1 k l i (pre.length : Int)) v := by
      intro v hv
      refine Ev.succ ?_
      simp only [ashlarref09_may.l1, hrd, hx]
      rw [hnx]
      exact Ev.pos h0 (Ev.pos h1 (Ev.pos hlt (Ev.pos (by omega) hv)))
    have bad : ¬ (x ≠ 0 ∧ -10000 ≤ x ∧ x ≤ 10000) → (false = true ↔ Small (x :: rest) ∧ b = true) := fun h => ⟨fun e => (by cases e), fun e => (h (e.1 x (by simp))).elim⟩
    by_cases k1 : x = 0
    · exact ⟨false, step _ (Ev.pos k1 (Ev.some_ _)), bad (by omega)⟩
    · by_cases k2 : x < -10000
      · exact ⟨false, step _ (Ev.neg k1 (Ev.pos k2 (Ev.some_ _))), bad (by omega)⟩
      · by_cases k3 : x > 10000
        · exact ⟨false, step _ (Ev.neg k1 (Ev.neg k2 (Ev.pos k3 (Ev.some_ _)))), bad (by omega)⟩
        · obtain ⟨b', hE, hb⟩ := ih (pre ++ [x]) (by rw [← hp]; simp)
          refine ⟨b', step _ (Ev.neg k1 (Ev.neg k2 (Ev.neg k3 hE))), ?_⟩
          rw [hb]
          refine ⟨fun h => ⟨fun y hy => ?_, h.2⟩, fun h => ⟨fun y hy => h.1 y (by simp [hy]), h.2⟩⟩
          rcases List.mem_cons.1 hy with e | e
          · subst e; omega
          · exact h.1 y e
theorem may_loop {l : List (List Int)} (hl : WfR l) (rest : List (List Int)) : ∀ (pre : List (List Int)), pre ++ rest = l →
    ∃ b, Ev (fun k => ashlarref09_may.l0 k l (pre.length : Int)) b ∧ (b = true ↔ ∀ c ∈ rest, Small c) := by
  induction rest with
  | nil =>
    intro pre hp
    rw [List.append_nil] at hp
    subst hp
    refine ⟨true, Ev.succ ?_, by simp⟩
    simp only [ashlarref09_may.l0]
    exact Ev.neg (by omega) (Ev.some_ _)
  | cons c rest ih =>
    intro pre hp
    have hl1 := hl.1
    have hll : l.length = pre.length + rest.length + 1 := by rw [← hp]; simp; omega
    have hlt : (pre.length : Int) < (l.length : Int) := by omega
    have hnx : wrap64 ((pre.length : Int) + 1) = ((pre ++ [c]).length : Int) := by rw [w64 (by omega) (by omega)]; simp
    have hrd : rd_L1 l (pre.length : Int) = c := by rw [← hp]; exact rd_L1_mid _ _ _
    obtain ⟨b, hE, hb⟩ := ih (pre ++ [c]) (by rw [← hp]; simp)
    rw [← hnx] at hE
    obtain ⟨b', hE', hb'⟩ := may_inner hrd (by omega) hlt (hl.2 c (by rw [← hp]; simp)) hE c [] rfl
    refine ⟨b', Ev.succ ?_, by rw [hb', hb]; simp⟩
    simp only [ashlarref09_may.l0]
    exact Ev.pos hlt hE'
theorem may_ok {l : List (List Int)} (hl : WfR l) : ∃ b, Ev (fun k => ashlarref09_may.f k l) b ∧ (b = true ↔ ∀ c ∈ l, Small c) := may_loop hl l [] rfl
end Go.Proofs.Ytbmnoofffodakaa.PT
