/- The law TraceSound, in plain Lean: what is shown to have no model has none. -/
import Derived.Test.YtbmnoofffodakaaTraceFew
import Derived.Test.YtbmnoofffodakaaTraceBits
import Derived.Test.YtbmnoofffodakaaPropRef
import Derived.Test.YtbmnoofffodakaaQx9
import Derived.IntWalk
namespace Go.Proofs.Ytbmnoofffodakaa.Pure
open Go.RowKit Go.Proofs.Ytbmnoofffodakaa.Q Go.Proofs.Ytbmnoofffodakaa.PT Go.Proofs.YtbmnoofffodakaaW.PrintWords Go.Proofs.YtbmnoofffodakaaW.PrintLast Go.Proofs.YtbmnoofffodakaaW.PrintMore

theorem chain_sound {F : Int → Int} (hv : Val F) (ht : ∀ x, x ≠ 0 → F x ≠ 0) (m : List (List Int)) : ∀ (L : List (List Int)), (∀ c ∈ L, ∃ x ∈ c, F x = 1) → (∀ c ∈ m, Small c) → Chain L m → ∀ c ∈ m, ∃ x ∈ c, F x = 1 := by
  induction m with
  | nil => intro L _ _ _ c hc; simp at hc
  | cons c m ih =>
    intro L hL hs h
    have hc : ∃ x ∈ c, F x = 1 := Classical.byContradiction fun hn => h.1 ⟨F, hv, fun x hx => by
      rcases hv.2 x with e | e | e
      · exact (hn ⟨x, hx, e⟩).elim
      · exact e
      · exact (ht x (hs c (by simp) x hx).1 e).elim, fun d hd => .inl (hL d hd)⟩
    intro d hd
    rcases List.mem_cons.1 hd with e | e
    · subst e; exact hc
    · refine ih (L ++ [c]) (fun d' hd' => ?_) (fun d' hd' => hs d' (by simp [hd'])) h.2 d e
      rcases List.mem_append.1 hd' with k | k
      · exact hL d' k
      · rw [List.mem_singleton.1 k]; exact hc
/-- The valuation of an array, and beyond it: what is above is true. -/
def overF (a : List Int) (x : Int) : Int := if x ≠ 0 ∧ x < (a.length : Int) ∧ -x < (a.length : Int) then lv a x else if 0 < x then 1 else if x < 0 then -1 else 0
theorem overF_val {a : List Int} (ha : a.length = 9) (hg : ∀ j : Int, 1 ≤ j → j ≤ 8 → rd a j = 1 ∨ rd a j = -1) : Val (overF a) ∧ ∀ x, x ≠ 0 → overF a x ≠ 0 := by
  have key : ∀ x : Int, x ≠ 0 → x < (a.length : Int) → -x < (a.length : Int) → (lv a x = 1 ∧ lv a (-x) = -1) ∨ (lv a x = -1 ∧ lv a (-x) = 1) := by
    intro x h0 h1 h2
    rw [lv_in h0 h1 h2, lv_in (x := -x) (by omega) (by omega) (by omega), Int.neg_neg]
    by_cases hp : 0 < x
    · rw [if_pos hp, if_neg (by omega)]
      rcases hg x (by omega) (by omega) with e | e <;> rw [e]
      · exact .inl ⟨rfl, rfl⟩
      · exact .inr ⟨rfl, rfl⟩
    · rw [if_neg hp, if_pos (by omega)]
      rcases hg (-x) (by omega) (by omega) with e | e <;> rw [e]
      · exact .inr ⟨rfl, rfl⟩
      · exact .inl ⟨rfl, rfl⟩
  refine ⟨⟨fun x => ?_, fun x => ?_⟩, fun x h0 => ?_⟩
  · unfold overF
    by_cases hin : x ≠ 0 ∧ x < (a.length : Int) ∧ -x < (a.length : Int)
    · rw [if_pos hin, if_pos (by omega)]
      rcases key x hin.1 hin.2.1 hin.2.2 with ⟨e1, e2⟩ | ⟨e1, e2⟩ <;> rw [e1, e2] <;> rfl
    · rw [if_neg hin, if_neg (by omega)]
      repeat' split
      all_goals omega
  · unfold overF
    by_cases hin : x ≠ 0 ∧ x < (a.length : Int) ∧ -x < (a.length : Int)
    · rw [if_pos hin]
      exact lv_cases a x
    · rw [if_neg hin]
      repeat' split
      all_goals omega
  · unfold overF
    by_cases hin : x ≠ 0 ∧ x < (a.length : Int) ∧ -x < (a.length : Int)
    · rw [if_pos hin]
      rcases key x hin.1 hin.2.1 hin.2.2 with ⟨e1, _⟩ | ⟨e1, _⟩ <;> rw [e1] <;> decide
    · rw [if_neg hin]
      repeat' split
      all_goals omega
theorem no_model {l m : List (List Int)} (ho : Okay l m) (h8 : ∀ c ∈ l, ∀ x ∈ c, -8 ≤ x ∧ x ≤ 8) {a : List Int} (ha : a.length = 9) (hg : ∀ j : Int, 1 ≤ j → j ≤ 8 → rd a j = 1 ∨ rd a j = -1) : ¬ evalV l a = 1 := by
  intro he
  have hm := eval_one.1 he
  have hF := overF_val ha hg
  obtain ⟨i, e⟩ := ho.2.1
  have := chain_sound hF.1 hF.2 m l (fun c hc => by
    obtain ⟨x, hx, k⟩ := truB_iff.1 (hm c hc)
    refine ⟨x, hx, ?_⟩
    have h0 := (ho.1 c (List.mem_append_left _ hc) x hx).1
    have h1 := h8 c hc x hx
    unfold overF
    rw [if_pos ⟨h0, by omega, by omega⟩]
    exact k) (fun c hc => ho.1 c (List.mem_append_right _ hc)) ho.2.2 [] (by rw [e]; simp)
  obtain ⟨x, hx, _⟩ := this
  simp at hx
theorem bit_val (y : Int) : IntKind.i8.wrap ((IntKind.i8.wrap ((IntKind.i8.wrap (Go.bits .and .i64 y 1)) * 2)) - 1) = 1 ∨ IntKind.i8.wrap ((IntKind.i8.wrap ((IntKind.i8.wrap (Go.bits .and .i64 y 1)) * 2)) - 1) = -1 := by
  have hb := bits_mask_range y 1 (by decide)
  obtain ⟨v, hv⟩ : ∃ v, Go.bits .and .i64 y 1 = v := ⟨_, rfl⟩
  have hb2 : 0 ≤ v ∧ v ≤ 1 := by rw [← hv]; exact hb
  rw [hv]
  have : v = 0 ∨ v = 1 := by omega
  rcases this with e | e <;> subst e
  · exact .inr (by decide)
  · exact .inl (by decide)
theorem sound_mask {l : List (List Int)} {x8 : Int} {res : Bool} (n : Nat) : ∀ (a : List Int) (j : Int), 1 ≤ j → j + n = 9 → a.length = 9 → (∀ i : Int, 1 ≤ i → i < j → rd a i = 1 ∨ rd a i = -1) →
    (∀ a : List Int, a.length = 9 → (∀ i : Int, 1 ≤ i → i ≤ 8 → rd a i = 1 ∨ rd a i = -1) → Ev (fun k => (ashlarref08_Eval.f k l a).bind fun t324 => (if t324 = 1 then (some false) else (ashlarlaw10_TraceSound.l2 k l true (wrap64 (x8 + 1))))) res) →
    Ev (fun k => ashlarlaw10_TraceSound.l3 k l true x8 a j) res := by
  induction n with
  | zero =>
    intro a j h1 hj ha hg fin
    refine Ev.succ ?_
    simp only [ashlarlaw10_TraceSound.l3]
    exact Ev.neg (by omega) (fin a ha fun i h0 h1 => hg i h0 (by omega))
  | succ n ih =>
    intro a j h1 hj ha hg fin
    have hw : wrap64 (j - 1) = j - 1 := w64 (by omega) (by omega)
    have hu : IntKind.u64.wrap (j - 1) = j - 1 := IntWalk.u64_in _ ⟨by omega, by omega⟩
    have hnx : wrap64 (j + 1) = j + 1 := w64 (by omega) (by omega)
    refine Ev.succ ?_
    simp only [ashlarlaw10_TraceSound.l3, hw, hu, hnx]
    refine Ev.pos (by omega) (Ev.pos (by omega) (Ev.pos (by omega) (Ev.pos (by omega) ?_)))
    refine ih _ (j + 1) (by omega) (by omega) (by simp [ha]) (fun i h0 h2 => ?_) fin
    rw [rd_set _ _ _ _ (by omega)]
    by_cases hij : i = j
    · rw [if_pos ⟨by omega, by omega⟩]
      exact bit_val _
    · rw [if_neg (by omega)]
      exact hg i h0 (by omega)
theorem sound_masks {l m : List (List Int)} (hl : l.length ≤ 40 ∧ ∀ c ∈ l, c.length ≤ 10) (ho : Okay l m) (h8 : ∀ c ∈ l, ∀ x ∈ c, -8 ≤ x ∧ x ≤ 8) (n : Nat) : ∀ x8 : Int, 0 ≤ x8 → x8 + n = 256 → Ev (fun k => ashlarlaw10_TraceSound.l2 k l true x8) true := by
  induction n with
  | zero =>
    intro x8 _ hx
    refine Ev.succ ?_
    simp only [ashlarlaw10_TraceSound.l2]
    exact Ev.neg (by omega) (Ev.some_ _)
  | succ n ih =>
    intro x8 h0 hx
    have hnx : wrap64 (x8 + 1) = x8 + 1 := w64 (by omega) (by omega)
    refine Ev.succ ?_
    simp only [ashlarlaw10_TraceSound.l2]
    refine Ev.pos (by omega) ?_
    refine sound_mask 8 _ 1 (by omega) (by omega) rfl (fun i h0 h1 => by omega) (fun a ha hg => ?_)
    refine Ev.bind (refEval_ok (a := a) (by omega) ⟨by have := hl.1; omega, fun c hc => by have := hl.2 c hc; omega⟩) (Ev.neg (no_model ho h8 ha hg) ?_)
    rw [hnx]
    exact ih (x8 + 1) (by omega) (by omega)
theorem sound_inner {l l1 : List (List Int)} {c : List Int} {i : Int} (hrd : rd_L1 l i = c) (h0 : 0 ≤ i) (h1 : i < (l.length : Int)) (hc : c.length ≤ 10) (rest : List Int) : ∀ (pre : List Int), pre ++ rest = c → (∀ x ∈ pre, -8 ≤ x ∧ x ≤ 8) →
    ((∀ x ∈ c, -8 ≤ x ∧ x ≤ 8) → Ev (fun k => ashlarlaw10_TraceSound.l0 k l l1 true (wrap64 (i + 1))) true) → Ev (fun k => ashlarlaw10_TraceSound.l1 k l l1 true i (pre.length : Int)) true := by
  induction rest with
  | nil =>
    intro pre hp hs next
    rw [List.append_nil] at hp
    subst hp
    refine Ev.succ ?_
    simp only [ashlarlaw10_TraceSound.l1, hrd]
    exact Ev.pos h0 (Ev.pos h1 (Ev.neg (by omega) (next hs)))
  | cons x rest ih =>
    intro pre hp hs next
    have hll : c.length = pre.length + rest.length + 1 := by rw [← hp]; simp; omega
    have hlt : (pre.length : Int) < (c.length : Int) := by omega
    have hnx : wrap64 ((pre.length : Int) + 1) = ((pre ++ [x]).length : Int) := by rw [w64 (by omega) (by omega)]; simp
    have hx : rd c (pre.length : Int) = x := by rw [← hp]; exact rd_mid _ _ _
    refine Ev.succ ?_
    simp only [ashlarlaw10_TraceSound.l1, hrd, hx, hnx]
    refine Ev.pos h0 (Ev.pos h1 (Ev.pos hlt (Ev.pos (by omega) ?_)))
    by_cases k1 : x < -8
    · exact Ev.pos k1 (Ev.some_ _)
    · by_cases k2 : x > 8
      · exact Ev.neg k1 (Ev.pos k2 (Ev.some_ _))
      · refine Ev.neg k1 (Ev.neg k2 (ih (pre ++ [x]) (by rw [← hp]; simp) (fun y hy => ?_) next))
        rcases List.mem_append.1 hy with h | h
        · exact hs y h
        · rw [List.mem_singleton.1 h]; omega
theorem sound_rows {l l1 : List (List Int)} (hl : l.length ≤ 40 ∧ ∀ c ∈ l, c.length ≤ 10) (fin : (∀ c ∈ l, ∀ x ∈ c, -8 ≤ x ∧ x ≤ 8) → Ev (fun k => (ashlarlaw10_few.f k l1).bind fun t316 => ((trace_Check.f k l t316).bind fun t319 => (if t319 = true then (ashlarlaw10_TraceSound.l2 k l true 0) else (some true)))) true) (rest : List (List Int)) : ∀ (pre : List (List Int)), pre ++ rest = l → (∀ c ∈ pre, ∀ x ∈ c, -8 ≤ x ∧ x ≤ 8) →
    Ev (fun k => ashlarlaw10_TraceSound.l0 k l l1 true (pre.length : Int)) true := by
  induction rest with
  | nil =>
    intro pre hp hs
    rw [List.append_nil] at hp
    subst hp
    refine Ev.succ ?_
    simp only [ashlarlaw10_TraceSound.l0]
    exact Ev.neg (by omega) (fin hs)
  | cons c rest ih =>
    intro pre hp hs
    have hl1 := hl.1
    have hll : l.length = pre.length + rest.length + 1 := by rw [← hp]; simp; omega
    have hlt : (pre.length : Int) < (l.length : Int) := by omega
    have hnx : wrap64 ((pre.length : Int) + 1) = ((pre ++ [c]).length : Int) := by rw [w64 (by omega) (by omega)]; simp
    have hrd : rd_L1 l (pre.length : Int) = c := by rw [← hp]; exact rd_L1_mid _ _ _
    refine Ev.succ ?_
    simp only [ashlarlaw10_TraceSound.l0]
    refine Ev.pos hlt (sound_inner hrd (by omega) hlt (hl.2 c (by rw [← hp]; simp)) c [] rfl (by simp) (fun h => ?_))
    rw [hnx]
    refine ih (pre ++ [c]) (by rw [← hp]; simp) (fun d hd => ?_)
    rcases List.mem_append.1 hd with k | k
    · exact hs d k
    · rw [List.mem_singleton.1 k]; exact h
theorem TraceSound : ∀ (l0 : List (List Int)) (l1 : List (List Int)), l0.length ≤ maxLen → (∀ c ∈ l0, c.length ≤ maxLen ∧ ∀ x ∈ c, (Lit.int .i64 x).wf = true) → l1.length ≤ maxLen → (∀ c ∈ l1, c.length ≤ maxLen ∧ ∀ x ∈ c, (Lit.int .i64 x).wf = true) → ∃ k, ashlarlaw10_TraceSound.f k l0 l1 = some true := by
  intro l0 l1 h0 _ h1 _
  obtain ⟨r, hE, hr⟩ := check_ok (few_wf l0) (few_wf l1) ⟨by have := (few_small l0).1; omega, by have := (few_small l1).1; omega⟩
  refine Ev.rounds (g := fun k => ashlarlaw10_TraceSound.f k l0 l1) ?_
  unfold ashlarlaw10_TraceSound.f
  refine Ev.bind shown_ok (Ev.bind (few_ok l0 h0) (sound_rows (few_small l0) (fun h8 => ?_) (fewF l0) [] rfl (by simp)))
  refine Ev.bind (few_ok l1 h1) (Ev.bind hE ?_)
  cases r with
  | false => exact Ev.neg (by decide) (Ev.some_ _)
  | true => exact Ev.pos rfl (sound_masks (few_small l0) (hr.1 rfl) h8 256 0 (by omega) (by omega))
end Go.Proofs.Ytbmnoofffodakaa.Pure
