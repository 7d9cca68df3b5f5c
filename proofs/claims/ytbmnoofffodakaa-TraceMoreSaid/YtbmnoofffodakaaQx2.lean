/- written by a program of this session (wip/tools/printx.py, over the kit's printing program) out of the translation -/
import Derived.Test.YtbmnoofffodakaaQx0
import Derived.Test.YtbmnoofffodakaaQx1
namespace Go.Proofs.Ytbmnoofffodakaa.Q
open Go.RowKit Go.Proofs.YtbmnoofffodakaaW.PrintWords Go.Proofs.YtbmnoofffodakaaW.PrintLast Go.Proofs.YtbmnoofffodakaaW.PrintMore
attribute [local go_sem] max2_int min2_int max_two min_two max_three min_three max_four min_four   -- for this text's walks alone
set_option linter.unusedVariables false
set_option linter.unusedSimpArgs false

/-! ### prop_Unit: function 30 -/
mutual
def prop_Unit.l0 : Nat → List (List Int) → List Int → Option (List Int × Bool)
  | 0, _, _ => none
  | k + 1, x0, x6 => prop_Unit.l1 k x0 x6 x0 (x0.length : Int) 0
def prop_Unit.l1 : Nat → List (List Int) → List Int → List (List Int) → Int → Int → Option (List Int × Bool)
  | 0, _, _, _, _, _ => none
  | k + 1, x0, x6, x17, x18, x19 => if x19 < x18 then (if 0 ≤ x19 then (if x19 < (x17.length : Int) then ((prop_look.f k (rd_L1 x17 x19) x6).bind fun bt117 => (if bt117.1 = 1 then (some (x6, true)) else (if bt117.1 = 3 then (prop_Unit.j2 k x0 x6 bt117.1 bt117.2 x17 x18 x19 (decide (bt117.2 > 0))) else (prop_Unit.j2 k x0 x6 bt117.1 bt117.2 x17 x18 x19 false)))) else (none)) else (none)) else (some (x6, false))
def prop_Unit.j2 : Nat → List (List Int) → List Int → Int → Int → List (List Int) → Int → Int → Bool → Option (List Int × Bool)
  | 0, _, _, _, _, _, _, _, _ => none
  | k + 1, x0, x6, x9, x10, x17, x18, x19, x33 => if x33 = true then (if 0 ≤ x10 then (if x10 < (x6.length : Int) then (prop_Unit.l0 k x0 (x6.set (x10 : Int).toNat 1)) else (none)) else (none)) else (if x9 = 3 then (if 0 ≤ (wrap64 (-x10)) then (if (wrap64 (-x10)) < (x6.length : Int) then (prop_Unit.l0 k x0 (x6.set ((wrap64 (-x10)) : Int).toNat (-1))) else (none)) else (none)) else (prop_Unit.l1 k x0 x6 x17 x18 (wrap64 (x19 + 1))))
end
def prop_Unit.f (k : Nat) (l0 : List (List Int)) (l1 : List Int) : Option (List Int × Bool) := if l1.length < 140737488355328 then (prop_Unit.l0 k l0 l1) else (none)
theorem prop_Unit.mono_l : ∀ k, (∀ y0 y1, LeO (prop_Unit.l0 k y0 y1) (prop_Unit.l0 (k + 1) y0 y1)) ∧ (∀ y0 y1 y2 y3 y4, LeO (prop_Unit.l1 k y0 y1 y2 y3 y4) (prop_Unit.l1 (k + 1) y0 y1 y2 y3 y4)) ∧ (∀ y0 y1 y2 y3 y4 y5 y6 y7, LeO (prop_Unit.j2 k y0 y1 y2 y3 y4 y5 y6 y7) (prop_Unit.j2 (k + 1) y0 y1 y2 y3 y4 y5 y6 y7))
  | 0 => ⟨fun _ _ r h => by simp [prop_Unit.l0] at h, fun _ _ _ _ _ r h => by simp [prop_Unit.l1] at h, fun _ _ _ _ _ _ _ _ r h => by simp [prop_Unit.j2] at h⟩
  | k + 1 => by
    obtain ⟨ih0, ih1, ih2⟩ := prop_Unit.mono_l k
    refine ⟨?_, ?_, ?_⟩
    · intro y0 y1
      unfold prop_Unit.l0
      repeat' first
      | (with_reducible exact ih0 _ _)
      | (with_reducible exact ih1 _ _ _ _ _)
      | (with_reducible exact ih2 _ _ _ _ _ _ _ _)
      | (with_reducible exact prop_look.mono _ _ _)
      | (with_reducible exact LeO.refl _)
      | (with_reducible exact LeO.none _)
      | (with_reducible refine LeO.ite ?_ ?_)
      | (with_reducible refine LeO.bind ?_ (fun _ => ?_))
      | exact ih0 _ _
      | exact ih1 _ _ _ _ _
      | exact ih2 _ _ _ _ _ _ _ _
      | exact prop_look.mono _ _ _
      | exact LeO.none _
      | refine LeO.ite ?_ ?_
      | refine LeO.bind ?_ (fun _ => ?_)
    · intro y0 y1 y2 y3 y4
      unfold prop_Unit.l1
      repeat' first
      | (with_reducible exact ih0 _ _)
      | (with_reducible exact ih1 _ _ _ _ _)
      | (with_reducible exact ih2 _ _ _ _ _ _ _ _)
      | (with_reducible exact prop_look.mono _ _ _)
      | (with_reducible exact LeO.refl _)
      | (with_reducible exact LeO.none _)
      | (with_reducible refine LeO.ite ?_ ?_)
      | (with_reducible refine LeO.bind ?_ (fun _ => ?_))
      | exact ih0 _ _
      | exact ih1 _ _ _ _ _
      | exact ih2 _ _ _ _ _ _ _ _
      | exact prop_look.mono _ _ _
      | exact LeO.none _
      | refine LeO.ite ?_ ?_
      | refine LeO.bind ?_ (fun _ => ?_)
    · intro y0 y1 y2 y3 y4 y5 y6 y7
      unfold prop_Unit.j2
      repeat' first
      | (with_reducible exact ih0 _ _)
      | (with_reducible exact ih1 _ _ _ _ _)
      | (with_reducible exact ih2 _ _ _ _ _ _ _ _)
      | (with_reducible exact prop_look.mono _ _ _)
      | (with_reducible exact LeO.refl _)
      | (with_reducible exact LeO.none _)
      | (with_reducible refine LeO.ite ?_ ?_)
      | (with_reducible refine LeO.bind ?_ (fun _ => ?_))
      | exact ih0 _ _
      | exact ih1 _ _ _ _ _
      | exact ih2 _ _ _ _ _ _ _ _
      | exact prop_look.mono _ _ _
      | exact LeO.none _
      | refine LeO.ite ?_ ?_
      | refine LeO.bind ?_ (fun _ => ?_)
theorem prop_Unit.mono : ∀ a0 a1 k, LeO (prop_Unit.f k a0 a1) (prop_Unit.f (k + 1) a0 a1) := by
  intro a0 a1 k
  obtain ⟨ih0, ih1, ih2⟩ := prop_Unit.mono_l k
  unfold prop_Unit.f
  repeat' first
      | (with_reducible exact ih0 _ _)
      | (with_reducible exact ih1 _ _ _ _ _)
      | (with_reducible exact ih2 _ _ _ _ _ _ _ _)
      | (with_reducible exact prop_look.mono _ _ _)
      | (with_reducible exact LeO.refl _)
      | (with_reducible exact LeO.none _)
      | (with_reducible refine LeO.ite ?_ ?_)
      | (with_reducible refine LeO.bind ?_ (fun _ => ?_))
      | exact ih0 _ _
      | exact ih1 _ _ _ _ _
      | exact ih2 _ _ _ _ _ _ _ _
      | exact prop_look.mono _ _ _
      | exact LeO.none _
      | refine LeO.ite ?_ ?_
      | refine LeO.bind ?_ (fun _ => ?_)
/-- A scope whose passes begin at one label: what holds at each jump, counted down. -/
theorem UnitScope.jumps {P : Program} {a : Act} {w : World} {Q : Exit → Act → World → Prop} {c rest : Code} (l : Nat) (J : Nat → Act → World → Prop) (hf : findLabel c l = some (Code.skip.seq rest))
    (first : (∀ n a w, J n a w → rest.wp P (Exit.jump l (fun a' w' => ∃ m, J m a' w') Q) a w) → c.wp P (Exit.jump l (fun a' w' => ∃ m, J m a' w') Q) a w)
    (pass : ∀ n a w, J n a w → rest.wp P (Exit.jump l (fun a' w' => ∃ m, m < n ∧ J m a' w') Q) a w) : (Code.scope c).wp P Q a w := by
  have first' := first (fun n a w h => Code.wp_mono (fun e a w hq => by
    cases e <;> first | exact hq | exact ⟨hq.1, hq.2.imp fun _ h => h.2⟩) (pass n a w h))
  intro b k cs
  have hg : gotoIn l (.inScope c :: k) = some (.code (Code.skip.seq rest) :: .inScope c :: k) := by simp [gotoIn, hf]
  have key : ∀ n a w, J n a w → ∃ e a' w', Q e a' w' ∧ Arrives P (lone (b.at a (.code (Code.skip.seq rest) :: .inScope c :: k)) cs w) b k cs e a' w' := by
    intro n
    induction n using Nat.strongRecOn with
    | _ n ih =>
      intro a w hJ
      obtain ⟨e, a₁, w₁, hq, harr⟩ := (wp_seq (wp_skip (pass n a w hJ)) : (Code.skip.seq rest).wp P _ a w) b (.inScope c :: k) cs
      cases e with
      | normal => exact ⟨.normal, a₁, w₁, hq, Steps.trans harr (.one step_inScope)⟩
      | exit id => exact ⟨.exit id, a₁, w₁, hq, fun k' hk => harr k' (by simp [exitTo, hk])⟩
      | goto l' =>
        obtain ⟨rfl, m, hlt, hJ'⟩ := hq
        obtain ⟨e₂, a₂, w₂, hq₂, harr₂⟩ := ih m hlt a₁ w₁ hJ'
        exact ⟨e₂, a₂, w₂, hq₂, .of_steps (harr _ hg) harr₂⟩
      | ret => exact ⟨_, a₁, w₁, hq, harr⟩
      | panic ch => exact ⟨_, a₁, w₁, hq, harr⟩
      | outgrown => exact ⟨_, a₁, w₁, hq, harr⟩
  obtain ⟨e, a₁, w₁, hq, harr⟩ := first' b (.inScope c :: k) cs
  cases e with
  | normal => exact ⟨.normal, a₁, w₁, hq, .head step_scope (Steps.trans harr (.one step_inScope))⟩
  | exit id => exact ⟨.exit id, a₁, w₁, hq, fun k' hk => .head step_scope (harr k' (by simp [exitTo, hk]))⟩
  | goto l' =>
    obtain ⟨rfl, m, hJ'⟩ := hq
    obtain ⟨e₂, a₂, w₂, hq₂, harr₂⟩ := key m a₁ w₁ hJ'
    exact ⟨e₂, a₂, w₂, hq₂, .of_steps (.head step_scope (harr _ hg)) harr₂⟩
  | ret => exact ⟨_, a₁, w₁, hq, .of_steps (.one step_scope) harr⟩
  | panic ch => exact ⟨_, a₁, w₁, hq, .of_steps (.one step_scope) harr⟩
  | outgrown => exact ⟨_, a₁, w₁, hq, .of_steps (.one step_scope) harr⟩

/-- 'copy(own, a)' onto a row of the call's own that is as long as a. -/
theorem UnitScope.copy {α : Type} {enc : α → Value} {h1 : ∀ x, (enc x).oneCell' = true} {P : Program} {ops : Array Oper} {rest : List Oper} {o : Oper} {a : Act} {Q : Exit → Act → World → Prop} {w0 W : World} (base : Nat) (hgd : o.guard = none) (s x : Operand) (t e : TypeId)
    (ho : o.op = .call { callee := .builtin .copy, args := #[s, x], argTypes := #[t, t] }) (ht : P.underlying t = some (.slice e)) (hsz : (P.info? e).map (·.size) = some 1)
    (v : Value) (zs ys : List α) (A : Option Addr) (c : Nat) (hs : a.eval s = v) (hx : a.eval x = .slice A ys.length c) (hl : zs.length = ys.length)
    (HO : (Kd.scalar enc h1).R e W base (fun _ => True) v zs) (HR : (Kd.scalar enc h1).C W A ys.length ys) (HB : Below base w0 W)
    (h : ∀ w1, (Kd.scalar enc h1).R e w1 base (fun _ => True) v ys → Below base w0 w1 → wpList P ops Q rest (a.put o.dst (goInt ys.length)) w1) :
    wpList P ops Q (o :: rest) a W := by
  have HOW := Kd.own_of_R HO
  have hel : (encs enc ys).length = ys.length := encs_length _
  rcases HOW.2 with ⟨rfl, h0⟩ | ⟨g, cap, cur, rfl, hb, hh, hnc, hcm, hcs, htk⟩
  · have hy : ys = [] := List.eq_nil_of_length_eq_zero (by omega)
    subst hy
    have hz : zs = [] := List.eq_nil_of_length_eq_zero h0
    subst hz
    refine wpList_copy_nothing hgd s x t t ho e ht hsz none A 0 0 0 c hs hx (by simp) ?_
    exact h W HO HB
  · have hcur : cur.toList.length = cap := (Array.length_toList (xs := cur)).trans (by omega)
    have hcl : ∀ j u, (encs enc ys)[j]? = some u → ∃ ad, A = some ad ∧ W.cell? (ad.add j) = some u := by
      intro j u hu
      have hj : j < ys.length := by
        have := (List.getElem?_eq_some_iff.1 hu).1
        omega
      obtain ⟨ad, hA, hc⟩ := HR.2.2 (by omega)
      obtain ⟨c', hc1, hc2, hc3⟩ := hc j _ (List.getElem?_eq_getElem hj)
      have hc2' : c' = [enc ys[j]] := hc2
      subst hc2'
      have hq := hc3 0 (enc ys[j]) rfl
      have hsz1 : (Kd.scalar enc h1).sz = 1 := rfl
      rw [hsz1, Nat.mul_one, Nat.add_zero] at hq
      refine ⟨ad, hA, ?_⟩
      rw [hq]
      simp [encs, List.getElem?_eq_getElem hj] at hu
      rw [← hu]
    refine wpList_copy_splice hgd s x t t ho e ht hsz (some ⟨g, 0, none⟩) A zs.length cap ys.length c hs hx g 0 cur.toList e (by simpa using hh) (encs enc ys) (by rw [hel, hl]; simp)
      (fun hp => ⟨rfl, ?_⟩) (by rw [hel, hcur]; omega) (fun u hu => ?_) base w0 HB hb ?_
    · obtain ⟨ad, hA, _⟩ := HR.2.2 (by omega)
      refine ⟨ad, hA, fun j u hu => ?_⟩
      obtain ⟨ad', hA', hc⟩ := hcl j u hu
      rw [hA] at hA'
      cases hA'
      exact hc
    · simp only [encs, List.mem_map] at hu
      obtain ⟨y, _, rfl⟩ := hu
      exact h1 y
    · intro w1 hg1 hb1
      rw [hel]
      refine h w1 (Kd.R_of_own (h1 := h1) ?_ (fun _ _ => trivial)) hb1
      refine ⟨by rw [hel]; omega, .inr ⟨g, cap, _, by rw [hl], hb, hg1.out, by omega, hcm, ?_, ?_⟩⟩
      · simp only [List.size_toArray]
        rw [length_splice _ _ _ (by rw [hel, hcur]; omega), hcur, Nat.mul_one]
      · simp only [splice, List.take_zero, List.nil_append, Nat.mul_one, Nat.zero_add]
        rw [List.take_append_of_le_length (by omega), List.take_of_length_le (by omega)]
set_option maxHeartbeats 8000000 in
set_option maxRecDepth 100000 in
theorem prop_Unit.calls (k : Nat) (A0 : Option Addr) (c0 : Nat) (l0 : List (List Int)) (A1 : Option Addr) (c1 : Nat) (l1 : List Int) (r1 : List Int) (r2 : Bool) (w : World) (hr0 : Kd.C (Kd.slice 3 (Kd.int .i64)) w A0 l0.length l0) (hc0 : l0.length ≤ c0) (hr1 : Kd.C (Kd.int .i8) w A1 l1.length l1) (hc1 : l1.length ≤ c1) (h : prop_Unit.f k l0 l1 = some (r1, r2)) :
    Calls Try.prog 30 #[.slice A0 l0.length c0, .slice A1 l1.length c1] w fun e w' => ∃ v0_ : Value, e = .returned (.tuple #[v0_, .bool r2]) ∧ Kd.R (Kd.int .i8) 27 w' w.heap.size (fun _ => True) v0_ r1 ∧ Below w.heap.size w w' := by
  have HR0 := Aside0.mk hr0
  have HC0 := Aside0.mk hc0
  clear hr0 hc0
  have HR1 := Aside0.mk hr1
  have HC1 := Aside0.mk hc1
  clear hr1 hc1
  have HB := Aside0.mk (Below.refl w.heap.size w)
  have H : (if l1.length < 140737488355328 then (prop_Unit.l0 k l0 l1) else (none)) = some (r1, r2) := h
  clear h
  by_cases c3 : l1.length < 140737488355328
  · rw [if_pos c3] at H
    have LMc3 := Aside0.mk c3
    clear c3
    have H' := Aside0.mk H
    clear H
    go_enter Try.func30, Try.ntmps30
    go_wp2
    refine UnitScope.jumps 0 (fun n a' w' => ∃ (x6_1 : List Int) (v114 u1 u2 u3 u4 u5 u7 u8 u9 u10 u11 u12 u13 u14 u15 u16 u17 u18 u19 u20 u21 u22 u23 u24 u25 u26 u27 u28 u29 u30 u31 u32 u33 u34 u35 u36 u37 u38 u39 u40 u41 u42 u43 u44 u45 u46 u47 u48 u49 u50 u51 : Value), a' = { tmps := #[.slice A0 l0.length c0, u1, u2, u3, u4, u5, v114, u7, u8, u9, u10, u11, u12, u13, u14, u15, u16, u17, u18, u19, u20, u21, u22, u23, u24, u25, u26, u27, u28, u29, u30, u31, u32, u33, u34, u35, u36, u37, u38, u39, u40, u41, u42, u43, u44, u45, u46, u47, u48, u49, u50, u51], defers := [] } ∧ Aside0 (prop_Unit.l0 n l0 x6_1 = some (r1, r2)) ∧ Aside0 (Kd.R (Kd.int .i8) 27 w' w.heap.size (fun _ => True) v114 x6_1) ∧ Aside0 (Below w.heap.size w w')) rfl ?_ ?_
    · intro again
      have AG := Aside0.mk again
      clear again
      go_wp2_with (first | ((with_reducible refine gate_dst (N := 13) rfl ?_); refine Kd.R_make (Kd.int .i8) (w0 := w) w.heap.size 27 ?hg (N := 13) ?hd 28 (.tmp 12) (.tmp 12) ?ho (l1.length : Int) ?hx ?hy Try.underlying28 (.int .i8 0) 1 info27 rfl (by decide) (by decide) (0 : Int) (ok := fun _ => True) (okp := fun _ => True) (by rfl) (fun _ hk => hk) trivial (Int.natCast_nonneg _) ?hl HB.out (Nat.le_refl _) ?_; (case hg => rfl); (case hd => rfl); (case ho => rfl); (case hx => rfl); (case hy => rfl); (case hl => have := LMc3.out; rw [Int.toNat_natCast]; omega); intro v114 w4 ho5 hb hg_ hnew_; clear hg_ hnew_; rw [Int.toNat_natCast] at ho5; have HO5 := Aside0.mk ho5; have HB4 := Aside0.mk hb; clear ho5 hb HB) | ((with_reducible refine gate_builtin (b := .copy) (xs := #[.tmp 14, .tmp 15]) rfl ?_); refine UnitScope.copy (enc := Value.int .i8) (h1 := fun _ => rfl) (w0 := w) w.heap.size ?hg (.tmp 14) (.tmp 15) 28 27 ?ho Try.underlying28 ?hs v114 (List.replicate l1.length (0 : Int)) l1 A1 c1 ?hv ?hx ?hl HO5.out ?hr HB4.out ?_; (case hg => rfl); (case ho => rfl); (case hs => have := info_parts info27; obtain ⟨i, hi, _, h2, _⟩ := this; rw [hi]; exact congrArg some h2); (case hv => rfl); (case hx => rfl); (case hl => exact List.length_replicate); (case hr => exact Kd.C_below HR1.out HB4.out); intro w5 ho5 hb; have HO6 := Aside0.mk ho5; have HB6 := Aside0.mk hb; clear ho5 hb HO5 HB4))
      go_step3
      rename_i hK_
      exact hK_ _ _ (AG.out k _ _ ⟨l1, v114, _, _, _, _, _, _, _, _, _, _, _, _, _, _, _, _, _, _, _, _, _, _, _, _, _, _, _, _, _, _, _, _, _, _, _, _, _, _, _, _, _, _, _, _, _, _, _, _, _, _, rfl, H', HO6, HB6⟩)
    · rintro n a' w' ⟨x6_1, v114, u1, u2, u3, u4, u5, u7, u8, u9, u10, u11, u12, u13, u14, u15, u16, u17, u18, u19, u20, u21, u22, u23, u24, u25, u26, u27, u28, u29, u30, u31, u32, u33, u34, u35, u36, u37, u38, u39, u40, u41, u42, u43, u44, u45, u46, u47, u48, u49, u50, u51, rfl, HA, HO_6, HB⟩
      have HK1 := Aside0.mk (Nat.le_refl n)
      cases n with
      | zero => exact absurd HA.out (by simp [prop_Unit.l0])
      | succ k1 =>
        have H := HA.out
        clear HA
        simp only [prop_Unit.l0] at H
        have H' := Aside0.mk H
        clear H
        go_wp2
        go_loopg [19] k1 (fun kq v19 w' => ∃ (x6_2 : List Int) (x19_2 : Int), v19 = .int .i64 x19_2 ∧ Aside0 (prop_Unit.l1 kq l0 x6_2 l0 (l0.length : Int) x19_2 = some (r1, r2)) ∧ Aside0 (kq ≤ k1) ∧ Aside0 (Kd.R (Kd.int .i8) 27 w' w.heap.size (fun _ => True) v114 x6_2) ∧ Aside0 (Below w.heap.size w w'))
        case atStart => exact ⟨(x6_1), (0), (by first | rfl | (simp; done) | (simp [*]; done)), H', ⟨Nat.le_refl _⟩, ⟨by (with_reducible repeat (first | apply Kd.R_alloc | apply Kd.R_drewN | apply Kd.R_drew)); exact HO_6.out⟩, ⟨by repeat (first | (with_reducible first | exact HB.out | apply below_alloc | apply pw_below_drewN | apply below_drew1) | exact HB.out)⟩⟩
        case round =>
          clear H'
          try clear c1
          try clear p2
          try clear c3
          try clear p2
          obtain ⟨x6_2, x19_2, rfl, HA, HK2, HO_6, HB⟩ := hrel
          cases gk with
          | zero => exact absurd HA.out (by simp [prop_Unit.l1])
          | succ k2 =>
            have H := HA.out
            clear HA
            simp only [prop_Unit.l1] at H
            by_cases c7 : x19_2 < (l0.length : Int)
            · rw [if_pos c7] at H
              have c7b0 : decide (x19_2 < (l0.length : Int)) = true := decide_eq_true c7
              clear c7
              by_cases c8 : 0 ≤ x19_2
              · rw [if_pos c8] at H
                have c8b0 : decide (0 ≤ x19_2) = true := decide_eq_true c8
                clear c8
                by_cases c9 : x19_2 < (l0.length : Int)
                · rw [if_pos c9] at H
                  have c9b0 : decide (x19_2 < (l0.length : Int)) = true := decide_eq_true c9
                  clear c9
                  replace H := Option.bind_eq_some_iff.mp H
                  obtain ⟨⟨t117, t118⟩, A100, H⟩ := H
                  replace H : (if t117 = 1 then (some (x6_2, true)) else (if t117 = 3 then (prop_Unit.j2 k2 l0 x6_2 t117 t118 l0 (l0.length : Int) x19_2 (decide (t118 > 0))) else (prop_Unit.j2 k2 l0 x6_2 t117 t118 l0 (l0.length : Int) x19_2 false))) = some (r1, r2) := H
                  have A10 := Aside0.mk A100
                  clear A100
                  by_cases c11 : t117 = 1
                  · rw [if_pos c11] at H
                    have c11b0 : (t117 == 1) = true := beq_iff_eq.mpr c11
                    have c11b1 : (t117 != 1) = false := bne_eq_false_iff_eq.mpr c11
                    clear c11
                    simp only [Option.some.injEq, Prod.mk.injEq] at H
                    obtain ⟨rfl, rfl⟩ := H
                    have p116 : 0 ≤ (x19_2 : Int) := of_decide_eq_true (by first | (with_reducible assumption) | assumption)
                    have q116 : x19_2 < (l0.length : Int) := of_decide_eq_true (by first | (with_reducible assumption) | assumption)
                    obtain ⟨ad116, A116_0, c116_0, e116, hx116_0, hl116_0, hi116_0⟩ := at_L1 HR0.out x19_2 p116 q116
                    cases e116
                    replace hx116_0 := (HB.out.cell (World.block_lt_of_cell? w _ hx116_0)).trans hx116_0
                    have HR116_0 := Aside0.mk hi116_0
                    have HC116_0 := Aside0.mk hl116_0
                    clear hi116_0 hl116_0
                    replace p116 := eq_true p116
                    replace q116 := eq_true q116
                    obtain ⟨Ao12, co12, eo12⟩ := Kd.R_slice HO_6.out
                    subst eo12
                    go_wp2_with (first | ((with_reducible refine gate_callee (f := 36) rfl ?_); refine goesL_ (some 26) rfl rfl Try.func36 (by kernel_rfl) rfl #[.slice A116_0 (rd_L1 l0 x19_2).length c116_0, .slice Ao12 x6_2.length co12] rfl (by (try simp only [List.map_toArray, List.map_cons, List.map_nil]); first | done | rfl | (simp only [List.length_drop, List.length_take]; rfl)) ?_; (with_reducible refine (prop_look.calls k2 _ _ (rd_L1 l0 x19_2) _ _ x6_2 t117 t118 _ ?side1 ?side2 ?side3 ?side4 A10.out).mono ?_); (case side1 => repeat (first | exact (Kd.C_below HR116_0.out HB.out) | (with_reducible refine Kd.C_alloc ?_ _) | (with_reducible refine Kd.C_drewN ?_ _) | (with_reducible refine Kd.C_drew ?_))); (case side2 => exact HC116_0.out); (case side3 => repeat (first | exact (Kd.R_reads' HO_6.out).2.2 | (with_reducible refine Kd.C_alloc ?_ _) | (with_reducible refine Kd.C_drewN ?_ _) | (with_reducible refine Kd.C_drew ?_))); (case side4 => exact (Kd.R_reads' HO_6.out).2.1); rintro e w13 ⟨rfl, hb⟩; refine ⟨_, rfl, ?_⟩; have n0_ := Aside0.mk (Kd.R_below (by (with_reducible repeat (first | apply Kd.R_alloc | apply Kd.R_drewN | apply Kd.R_drew)); exact HO_6.out) hb); have n1_ := Aside0.mk (below_step (by repeat (first | (with_reducible first | exact HB.out | apply below_alloc | apply pw_below_drewN | apply below_drew1) | exact HB.out)) hb); clear HO_6; clear HB; have HO_6 := n0_; have HB := n1_; clear n0_ n1_; (try clear hb); (try clear hb2); (try clear hk); (try clear hi)))
                    simp only [Exit.jump]
                    go_ret2
                    exact ⟨_, by first | rfl | (simp [errW_none, errW_some] <;> rfl) | (simp [*, errW_none, errW_some] <;> rfl), by (with_reducible repeat (first | apply Kd.R_alloc | apply Kd.R_drewN | apply Kd.R_drew)); exact HO_6.out, by repeat (first | (with_reducible first | exact HB.out | apply below_alloc | apply pw_below_drewN | apply below_drew1) | exact HB.out)⟩
                  · rw [if_neg c11] at H
                    have c11b0 : (t117 == 1) = false := beq_eq_false_iff_ne.mpr c11
                    have c11b1 : (t117 != 1) = true := bne_iff_ne.mpr c11
                    have HC14 := Aside0.mk H
                    clear H
                    have p116 : 0 ≤ (x19_2 : Int) := of_decide_eq_true (by first | (with_reducible assumption) | assumption)
                    have q116 : x19_2 < (l0.length : Int) := of_decide_eq_true (by first | (with_reducible assumption) | assumption)
                    obtain ⟨ad116, A116_0, c116_0, e116, hx116_0, hl116_0, hi116_0⟩ := at_L1 HR0.out x19_2 p116 q116
                    cases e116
                    replace hx116_0 := (HB.out.cell (World.block_lt_of_cell? w _ hx116_0)).trans hx116_0
                    have HR116_0 := Aside0.mk hi116_0
                    have HC116_0 := Aside0.mk hl116_0
                    clear hi116_0 hl116_0
                    replace p116 := eq_true p116
                    replace q116 := eq_true q116
                    obtain ⟨Ao15, co15, eo15⟩ := Kd.R_slice HO_6.out
                    subst eo15
                    go_upto_region 9 with (first | ((with_reducible refine gate_callee (f := 36) rfl ?_); refine goesL_ (some 26) rfl rfl Try.func36 (by kernel_rfl) rfl #[.slice A116_0 (rd_L1 l0 x19_2).length c116_0, .slice Ao15 x6_2.length co15] rfl (by (try simp only [List.map_toArray, List.map_cons, List.map_nil]); first | done | rfl | (simp only [List.length_drop, List.length_take]; rfl)) ?_; (with_reducible refine (prop_look.calls k2 _ _ (rd_L1 l0 x19_2) _ _ x6_2 t117 t118 _ ?side1 ?side2 ?side3 ?side4 A10.out).mono ?_); (case side1 => repeat (first | exact (Kd.C_below HR116_0.out HB.out) | (with_reducible refine Kd.C_alloc ?_ _) | (with_reducible refine Kd.C_drewN ?_ _) | (with_reducible refine Kd.C_drew ?_))); (case side2 => exact HC116_0.out); (case side3 => repeat (first | exact (Kd.R_reads' HO_6.out).2.2 | (with_reducible refine Kd.C_alloc ?_ _) | (with_reducible refine Kd.C_drewN ?_ _) | (with_reducible refine Kd.C_drew ?_))); (case side4 => exact (Kd.R_reads' HO_6.out).2.1); rintro e w16 ⟨rfl, hb⟩; refine ⟨_, rfl, ?_⟩; have n0_ := Aside0.mk (Kd.R_below (by (with_reducible repeat (first | apply Kd.R_alloc | apply Kd.R_drewN | apply Kd.R_drew)); exact HO_6.out) hb); have n1_ := Aside0.mk (below_step (by repeat (first | (with_reducible first | exact HB.out | apply below_alloc | apply pw_below_drewN | apply below_drew1) | exact HB.out)) hb); clear HO_6; clear HB; have HO_6 := n0_; have HB := n1_; clear n0_ n1_; (try clear hb); (try clear hb2); (try clear hk); (try clear hi)))
                    (try simp only [Act.put, List.setIfInBounds_toArray, List.set_cons_zero, List.set_cons_succ])
                    go_cut [33] (fun v33 wc => ∃ (kq : Nat) (x33_13 : Bool), v33 = .bool x33_13 ∧ Aside0 (prop_Unit.j2 kq l0 x6_2 t117 t118 l0 (l0.length : Int) x19_2 x33_13 = some (r1, r2)) ∧ Aside0 (kq ≤ k2) ∧ Aside0 (Kd.R (Kd.int .i8) 27 wc w.heap.size (fun _ => True) (.slice Ao15 x6_2.length co15) x6_2) ∧ Aside0 (Below w.heap.size w wc))
                    case first =>
                      have H := HC14.out
                      clear HC14
                      by_cases c17 : t117 = 3
                      · rw [if_pos c17] at H
                        have c17b0 : (t117 == 3) = true := beq_iff_eq.mpr c17
                        have c17b1 : (t117 != 3) = false := bne_eq_false_iff_eq.mpr c17
                        clear c17
                        (first | rw [c17b0] | (simp only [i64_w, i32_w]; rw [c17b0]) | skip)
                        have H' := Aside0.mk H
                        clear H
                        go_wp2
                        go_meet
                        case rel => exact ⟨_, (decide (t118 > 0)), (by first | rfl | (simp; done) | (simp [*]; done)), H', ⟨by have := HK1.out; have := HK2.out; first | omega | exact Nat.le_refl _⟩, ⟨by (with_reducible repeat (first | apply Kd.R_alloc | apply Kd.R_drewN | apply Kd.R_drew)); exact HO_6.out⟩, ⟨by repeat (first | (with_reducible first | exact HB.out | apply below_alloc | apply pw_below_drewN | apply below_drew1) | exact HB.out)⟩⟩
                      · rw [if_neg c17] at H
                        have c17b0 : (t117 == 3) = false := beq_eq_false_iff_ne.mpr c17
                        have c17b1 : (t117 != 3) = true := bne_iff_ne.mpr c17
                        (first | rw [c17b0] | (simp only [i64_w, i32_w]; rw [c17b0]) | skip)
                        have H' := Aside0.mk H
                        clear H
                        go_wp2
                        go_meet
                        case rel => exact ⟨_, (false), (by first | rfl | (simp; done) | (simp [*]; done)), H', ⟨by have := HK1.out; have := HK2.out; first | omega | exact Nat.le_refl _⟩, ⟨by (with_reducible repeat (first | apply Kd.R_alloc | apply Kd.R_drewN | apply Kd.R_drew)); exact HO_6.out⟩, ⟨by repeat (first | (with_reducible first | exact HB.out | apply below_alloc | apply pw_below_drewN | apply below_drew1) | exact HB.out)⟩⟩
                    case rest =>
                      clear HC14
                      try clear c1
                      try clear p1
                      try clear q1
                      try clear hx1
                      try clear p2
                      try clear c3
                      try clear c7
                      try clear c7b0
                      try clear c8
                      try clear c8b0
                      try clear c9
                      try clear c9b0
                      try clear c11
                      try clear c11b0
                      try clear c11b1
                      try clear p11
                      try clear q11
                      try clear hx11
                      try clear c17
                      try clear c17b0
                      try clear c17b1
                      try clear hx116_0
                      try clear p116
                      try clear p2
                      try clear q116
                      obtain ⟨kq, x33_13, rfl, HA, HJ13, HO_6, HB⟩ := hcut
                      cases kq with
                      | zero => exact absurd HA.out (by simp [prop_Unit.j2])
                      | succ kj13 =>
                        have H := HA.out
                        clear HA
                        simp only [prop_Unit.j2] at H
                        by_cases c18 : x33_13 = true
                        · subst c18
                          have H1 : (if 0 ≤ t118 then (if t118 < (x6_2.length : Int) then (prop_Unit.l0 kj13 l0 (x6_2.set (t118 : Int).toNat 1)) else (none)) else (none)) = some (r1, r2) := by rw [if_pos rfl] at H; exact H
                          clear H
                          have H := H1
                          clear H1
                          by_cases c19 : 0 ≤ t118
                          · rw [if_pos c19] at H
                            have c19b0 : decide (0 ≤ t118) = true := decide_eq_true c19
                            clear c19
                            by_cases c20 : t118 < (x6_2.length : Int)
                            · rw [if_pos c20] at H
                              have c20b0 : decide (t118 < (x6_2.length : Int)) = true := decide_eq_true c20
                              clear c20
                              obtain ⟨y119, hy119⟩ : ∃ y_ : List Int, y_ = (x6_2.set (t118 : Int).toNat 1) := ⟨_, rfl⟩
                              replace H : (prop_Unit.l0 kj13 l0 y119) = some (r1, r2) := by first | (rw [hy119]; with_reducible exact H) | (have H2_ := (Option.bind_some _ _).symm.trans H; rw [hy119]; with_reducible exact H2_) | (have H2_ := (Option.bind_some _ _).symm.trans H; with_reducible exact H2_) | with_reducible exact H | (rw [hy119]; exact H) | exact H
                              have Ny119 := Aside0.mk hy119
                              clear hy119
                              have H' := Aside0.mk H
                              clear H
                              have p21 : 0 ≤ (t118 : Int) := of_decide_eq_true (by first | (with_reducible assumption) | assumption)
                              have q21 : (t118 : Int) < ((x6_2.length : Int) : Int) := of_decide_eq_true (by first | (with_reducible assumption) | assumption)
                              obtain ⟨go21, co21, eo21, gb21, gl21, cl21, HG21⟩ := Kd.R_form HO_6.out (by omega)
                              (first | cases eo21 | (injection eo21 with ea_ en_ ec_; (first | subst ea_ | (injection ea_ with ea_; subst ea_)); subst ec_; clear en_))
                              have GB21 := Aside0.mk gb21
                              have GG21 := Aside0.mk HG21
                              clear gb21 gl21 HG21
                              obtain ⟨hx21_0, hf21_0⟩ := Kd.R_celln 0 HO_6.out (t118 : Int) p21 q21
                              replace p21 := eq_true p21
                              replace q21 := eq_true q21
                              have HP22 := Kd.R_putg HO_6.out (t118 : Int) 1
                              go_wp2_with (first | ((with_reducible refine gate_store (t := 27) (p := 42) rfl ?_); refine store_event (t := 27) (p := 42) (v := ?vo_w23) (w1 := (wc.setCell ⟨go21, (t118 : Int).toNat, none⟩ (.int .i8 1))) ?hg ?ho ?hn ?hr ?_; (case ho => rfl); (case hg => rfl); (case hn => rfl); (case hr => first | (go_simp; done) | (go_simp; rfl)); intro w23 hw; have hg : wc.grownBy w23 (some go21) := (by rw [hw]; exact HP22.2); have hp_ : Kd.R (Kd.int .i8) 27 w23 w.heap.size (fun _ => True) (.slice (some ⟨go21, 0, none⟩) x6_2.length co15) y119 := (by rw [hw, Ny119.out]; exact HP22.1); clear HP22; have n0_ := Aside0.mk (hp_); have n1_ := Aside0.mk ((by rw [hw]; exact below_set (HB.out) GB21.out : Below w.heap.size w w23)); clear HO_6; clear HB; have HO_6 := n0_; have HB := n1_; clear n0_ n1_; clear hg hw hp_))
                              go_step3
                              exact ⟨rfl, kj13, (by have := HK1.out; have := HK2.out; have := HJ13.out; omega), y119, _, _, _, _, _, _, _, _, _, _, _, _, _, _, _, _, _, _, _, _, _, _, _, _, _, _, _, _, _, _, _, _, _, _, _, _, _, _, _, _, _, _, _, _, _, _, _, _, _, _, _, rfl, H', ⟨by (with_reducible repeat (first | apply Kd.R_alloc | apply Kd.R_drewN | apply Kd.R_drew)); exact HO_6.out⟩, ⟨by repeat (first | (with_reducible first | exact HB.out | apply below_alloc | apply pw_below_drewN | apply below_drew1) | exact HB.out)⟩⟩
                            · rw [if_neg c20] at H
                              exact absurd H (by simp)
                          · rw [if_neg c19] at H
                            exact absurd H (by simp)
                        · replace c18 := Bool.eq_false_iff.mpr c18
                          subst c18
                          have H1 : (if t117 = 3 then (if 0 ≤ (wrap64 (-t118)) then (if (wrap64 (-t118)) < (x6_2.length : Int) then (prop_Unit.l0 kj13 l0 (x6_2.set ((wrap64 (-t118)) : Int).toNat (-1))) else (none)) else (none)) else (prop_Unit.l1 kj13 l0 x6_2 l0 (l0.length : Int) (wrap64 (x19_2 + 1)))) = some (r1, r2) := by rw [if_neg (show ¬ (false = true) by decide)] at H; exact H
                          clear H
                          have H := H1
                          clear H1
                          by_cases c24 : t117 = 3
                          · rw [if_pos c24] at H
                            have c24b0 : (t117 == 3) = true := beq_iff_eq.mpr c24
                            have c24b1 : (t117 != 3) = false := bne_eq_false_iff_eq.mpr c24
                            clear c24
                            obtain ⟨ji25, hji25⟩ : ∃ j_ : Int, (wrap64 (-t118)) = j_ := ⟨_, rfl⟩
                            replace H : (if 0 ≤ (ji25) then (if (ji25) < (x6_2.length : Int) then (prop_Unit.l0 kj13 l0 (x6_2.set ((ji25) : Int).toNat (-1))) else (none)) else (none)) = some (r1, r2) := by first | (rw [hji25] at H; exact H) | (simp only [hji25] at H ⊢; exact H)
                            have hji25w : (IntKind.i64.wrap (-t118)) = ji25 := (i64_w _).trans hji25
                            by_cases c26 : 0 ≤ (ji25)
                            · rw [if_pos c26] at H
                              have c26b0 : decide (0 ≤ (ji25)) = true := decide_eq_true c26
                              clear c26
                              by_cases c27 : (ji25) < (x6_2.length : Int)
                              · rw [if_pos c27] at H
                                have c27b0 : decide ((ji25) < (x6_2.length : Int)) = true := decide_eq_true c27
                                clear c27
                                obtain ⟨y120, hy120⟩ : ∃ y_ : List Int, y_ = (x6_2.set ((ji25) : Int).toNat (-1)) := ⟨_, rfl⟩
                                replace H : (prop_Unit.l0 kj13 l0 y120) = some (r1, r2) := by first | (rw [hy120]; with_reducible exact H) | (have H2_ := (Option.bind_some _ _).symm.trans H; rw [hy120]; with_reducible exact H2_) | (have H2_ := (Option.bind_some _ _).symm.trans H; with_reducible exact H2_) | with_reducible exact H | (rw [hy120]; exact H) | exact H
                                have Ny120 := Aside0.mk hy120
                                clear hy120
                                have H' := Aside0.mk H
                                clear H
                                have p28 : 0 ≤ ((ji25) : Int) := of_decide_eq_true (by first | (with_reducible assumption) | assumption)
                                have q28 : ((ji25) : Int) < ((x6_2.length : Int) : Int) := of_decide_eq_true (by first | (with_reducible assumption) | assumption)
                                obtain ⟨go28, co28, eo28, gb28, gl28, cl28, HG28⟩ := Kd.R_form HO_6.out (by omega)
                                (first | cases eo28 | (injection eo28 with ea_ en_ ec_; (first | subst ea_ | (injection ea_ with ea_; subst ea_)); subst ec_; clear en_))
                                have GB28 := Aside0.mk gb28
                                have GG28 := Aside0.mk HG28
                                clear gb28 gl28 HG28
                                obtain ⟨hx28_0, hf28_0⟩ := Kd.R_celln 0 HO_6.out ((ji25) : Int) p28 q28
                                replace p28 := eq_true p28
                                replace q28 := eq_true q28
                                have HP29 := Kd.R_putg HO_6.out ((ji25) : Int) (-1)
                                go_wp2_with (first | ((with_reducible refine gate_store (t := 27) (p := 49) rfl ?_); refine store_event (t := 27) (p := 49) (v := ?vo_w30) (w1 := (wc.setCell ⟨go28, ((ji25) : Int).toNat, none⟩ (.int .i8 (-1)))) ?hg ?ho ?hn ?hr ?_; (case ho => rfl); (case hg => rfl); (case hn => rfl); (case hr => first | (go_simp; done) | (go_simp; rfl)); intro w30 hw; have hg : wc.grownBy w30 (some go28) := (by rw [hw]; exact HP29.2); have hp_ : Kd.R (Kd.int .i8) 27 w30 w.heap.size (fun _ => True) (.slice (some ⟨go28, 0, none⟩) x6_2.length co15) y120 := (by rw [hw, Ny120.out]; exact HP29.1); clear HP29; have n0_ := Aside0.mk (hp_); have n1_ := Aside0.mk ((by rw [hw]; exact below_set (HB.out) GB28.out : Below w.heap.size w w30)); clear HO_6; clear HB; have HO_6 := n0_; have HB := n1_; clear n0_ n1_; clear hg hw hp_))
                                go_step3
                                exact ⟨rfl, kj13, (by have := HK1.out; have := HK2.out; have := HJ13.out; omega), y120, _, _, _, _, _, _, _, _, _, _, _, _, _, _, _, _, _, _, _, _, _, _, _, _, _, _, _, _, _, _, _, _, _, _, _, _, _, _, _, _, _, _, _, _, _, _, _, _, _, _, _, rfl, H', ⟨by (with_reducible repeat (first | apply Kd.R_alloc | apply Kd.R_drewN | apply Kd.R_drew)); exact HO_6.out⟩, ⟨by repeat (first | (with_reducible first | exact HB.out | apply below_alloc | apply pw_below_drewN | apply below_drew1) | exact HB.out)⟩⟩
                              · rw [if_neg c27] at H
                                exact absurd H (by simp)
                            · rw [if_neg c26] at H
                              exact absurd H (by simp)
                          · rw [if_neg c24] at H
                            have c24b0 : (t117 == 3) = false := beq_eq_false_iff_ne.mpr c24
                            have c24b1 : (t117 != 3) = true := bne_iff_ne.mpr c24
                            have H' := Aside0.mk H
                            clear H
                            go_wp2
                            go_roundg kj13
                            case measure => have := HK1.out; have := HK2.out; have := HJ13.out; omega
                            case rel => exact ⟨(x6_2), (wrap64 (x19_2 + 1)), (by first | rfl | (simp; done) | (simp [*]; done)), H', ⟨by have := HK1.out; have := HK2.out; have := HJ13.out; omega⟩, ⟨by (with_reducible repeat (first | apply Kd.R_alloc | apply Kd.R_drewN | apply Kd.R_drew)); exact HO_6.out⟩, ⟨by repeat (first | (with_reducible first | exact HB.out | apply below_alloc | apply pw_below_drewN | apply below_drew1) | exact HB.out)⟩⟩
                · rw [if_neg c9] at H
                  exact absurd H (by simp)
              · rw [if_neg c8] at H
                exact absurd H (by simp)
            · rw [if_neg c7] at H
              have c7b0 : decide (x19_2 < (l0.length : Int)) = false := decide_eq_false c7
              clear c7
              simp only [Option.some.injEq, Prod.mk.injEq] at H
              obtain ⟨rfl, rfl⟩ := H
              go_wp2
              simp only [Exit.jump]
              go_ret2
              exact ⟨_, by first | rfl | (simp [errW_none, errW_some] <;> rfl) | (simp [*, errW_none, errW_some] <;> rfl), by (with_reducible repeat (first | apply Kd.R_alloc | apply Kd.R_drewN | apply Kd.R_drew)); exact HO_6.out, by repeat (first | (with_reducible first | exact HB.out | apply below_alloc | apply pw_below_drewN | apply below_drew1) | exact HB.out)⟩
  · rw [if_neg c3] at H
    exact absurd H (by simp)

/-! ### trace_follows: function 23 -/
def trace_follows.l0 : Nat → List (List Int) → List Int → List Int → List Int → Int → Int → Option (Bool)
  | 0, _, _, _, _, _, _ => none
  | k + 1, x0, x1, x7, x15, x16, x17 => if x17 < x16 then (if 0 ≤ x17 then (if x17 < (x15.length : Int) then ((slices_Contains_int_int.f k x1 (wrap64 (-(rd x15 x17)))).bind fun t129 => (if t129 = true then (some true) else (if (rd x15 x17) > 0 then (if 0 ≤ (rd x15 x17) then (if (rd x15 x17) < (x7.length : Int) then (trace_follows.l0 k x0 x1 (x7.set ((rd x15 x17) : Int).toNat (-1)) x15 x16 (wrap64 (x17 + 1))) else (none)) else (none)) else (if 0 ≤ (wrap64 (-(rd x15 x17))) then (if (wrap64 (-(rd x15 x17))) < (x7.length : Int) then (trace_follows.l0 k x0 x1 (x7.set ((wrap64 (-(rd x15 x17))) : Int).toNat 1) x15 x16 (wrap64 (x17 + 1))) else (none)) else (none))))) else (none)) else (none)) else ((prop_Unit.f k x0 x7).bind fun bt124 => (some bt124.2))
def trace_follows.f (k : Nat) (l0 : List (List Int)) (l1 : List Int) (a2 : Int) : Option (Bool) := if 0 ≤ (wrap64 (a2 + 1)) then (if (wrap64 (a2 + 1) : Int).toNat ≤ 281474976710656 then (trace_follows.l0 k l0 l1 (List.replicate (wrap64 (a2 + 1) : Int).toNat 0) l1 (l1.length : Int) 0) else (none)) else (none)
theorem trace_follows.mono_l : ∀ k, (∀ y0 y1 y2 y3 y4 y5, LeO (trace_follows.l0 k y0 y1 y2 y3 y4 y5) (trace_follows.l0 (k + 1) y0 y1 y2 y3 y4 y5))
  | 0 => fun _ _ _ _ _ _ r h => by simp [trace_follows.l0] at h
  | k + 1 => by
    have ih0 := trace_follows.mono_l k
    · intro y0 y1 y2 y3 y4 y5
      unfold trace_follows.l0
      repeat' first
      | (with_reducible exact ih0 _ _ _ _ _ _)
      | (with_reducible exact prop_Unit.mono _ _ _)
      | (with_reducible exact slices_Contains_int_int.mono _ _ _)
      | (with_reducible exact LeO.refl _)
      | (with_reducible exact LeO.none _)
      | (with_reducible refine LeO.ite ?_ ?_)
      | (with_reducible refine LeO.bind ?_ (fun _ => ?_))
      | exact ih0 _ _ _ _ _ _
      | exact prop_Unit.mono _ _ _
      | exact slices_Contains_int_int.mono _ _ _
      | exact LeO.none _
      | refine LeO.ite ?_ ?_
      | refine LeO.bind ?_ (fun _ => ?_)
theorem trace_follows.mono : ∀ a0 a1 a2 k, LeO (trace_follows.f k a0 a1 a2) (trace_follows.f (k + 1) a0 a1 a2) := by
  intro a0 a1 a2 k
  have ih0 := trace_follows.mono_l k
  unfold trace_follows.f
  repeat' first
      | (with_reducible exact ih0 _ _ _ _ _ _)
      | (with_reducible exact prop_Unit.mono _ _ _)
      | (with_reducible exact slices_Contains_int_int.mono _ _ _)
      | (with_reducible exact LeO.refl _)
      | (with_reducible exact LeO.none _)
      | (with_reducible refine LeO.ite ?_ ?_)
      | (with_reducible refine LeO.bind ?_ (fun _ => ?_))
      | exact ih0 _ _ _ _ _ _
      | exact prop_Unit.mono _ _ _
      | exact slices_Contains_int_int.mono _ _ _
      | exact LeO.none _
      | refine LeO.ite ?_ ?_
      | refine LeO.bind ?_ (fun _ => ?_)
set_option maxHeartbeats 8000000 in
set_option maxRecDepth 100000 in
theorem trace_follows.calls (k : Nat) (A0 : Option Addr) (c0 : Nat) (l0 : List (List Int)) (A1 : Option Addr) (c1 : Nat) (l1 : List Int) (a2 : Int) (r : Bool) (w : World) (hr0 : Kd.C (Kd.slice 3 (Kd.int .i64)) w A0 l0.length l0) (hc0 : l0.length ≤ c0) (hr1 : Kd.C (Kd.int .i64) w A1 l1.length l1) (hc1 : l1.length ≤ c1) (h : trace_follows.f k l0 l1 a2 = some r) :
    Calls Try.prog 23 #[.slice A0 l0.length c0, .slice A1 l1.length c1, .int .i64 a2] w fun e w' => e = .returned (.bool r) ∧ Below w.heap.size w w' := by
  have HR0 := Aside0.mk hr0
  have HC0 := Aside0.mk hc0
  clear hr0 hc0
  have HR1 := Aside0.mk hr1
  have HC1 := Aside0.mk hc1
  clear hr1 hc1
  have HB := Aside0.mk (Below.refl w.heap.size w)
  have H : (if 0 ≤ (wrap64 (a2 + 1)) then (if (wrap64 (a2 + 1) : Int).toNat ≤ 281474976710656 then (trace_follows.l0 k l0 l1 (List.replicate (wrap64 (a2 + 1) : Int).toNat 0) l1 (l1.length : Int) 0) else (none)) else (none)) = some r := h
  clear h
  obtain ⟨ji4, hji4⟩ : ∃ j_ : Int, (wrap64 (a2 + 1)) = j_ := ⟨_, rfl⟩
  replace H : (if 0 ≤ (ji4) then (if (ji4 : Int).toNat ≤ 281474976710656 then (trace_follows.l0 k l0 l1 (List.replicate (ji4 : Int).toNat 0) l1 (l1.length : Int) 0) else (none)) else (none)) = some r := by first | (rw [hji4] at H; exact H) | (simp only [hji4] at H ⊢; exact H)
  have hji4w : (IntKind.i64.wrap (a2 + 1)) = ji4 := (i64_w _).trans hji4
  by_cases c5 : 0 ≤ (ji4)
  · rw [if_pos c5] at H
    have c5b0 := eq_true c5
    have c5b1 : decide (0 ≤ (ji4)) = true := decide_eq_true c5
    clear c5
    by_cases c6 : (ji4 : Int).toNat ≤ 281474976710656
    · rw [if_pos c6] at H
      have c6b0 := eq_true c6
      have c6b1 : decide ((ji4 : Int).toNat ≤ 281474976710656) = true := decide_eq_true c6
      clear c6
      obtain ⟨y121, hy121⟩ : ∃ y_ : List Int, y_ = (List.replicate (ji4 : Int).toNat 0) := ⟨_, rfl⟩
      replace H : (trace_follows.l0 k l0 l1 y121 l1 (l1.length : Int) 0) = some r := by first | (rw [hy121]; with_reducible exact H) | (have H2_ := (Option.bind_some _ _).symm.trans H; rw [hy121]; with_reducible exact H2_) | (have H2_ := (Option.bind_some _ _).symm.trans H; with_reducible exact H2_) | with_reducible exact H | (rw [hy121]; exact H) | exact H
      have Ny121 := Aside0.mk hy121
      clear hy121
      have H' := Aside0.mk H
      clear H
      go_enter Try.func23, Try.ntmps23
      go_wp2_with (first | ((with_reducible refine gate_dst (N := 14) rfl ?_); refine Kd.R_make (Kd.int .i8) _ 27 rfl (N := 14) rfl 28 _ _ rfl ji4 rfl rfl Try.underlying28 (.int .i8 0) 1 info27 rfl (by decide) (by omega) 0 (ok := fun _ => True) (okp := fun _ => True) rfl (fun _ hk => hk) trivial (of_decide_eq_true (by first | (with_reducible assumption) | assumption)) (Nat.le_trans (Nat.mul_le_mul_right _ (of_decide_eq_true (by first | (with_reducible assumption) | assumption) : ji4.toNat ≤ 281474976710656)) (by omega)) (Below.refl _ _) (Nat.le_refl _) ?_; intro v122 w7 ho8 hb hg_ hnew_; clear hg_ hnew_; (first | rw [← Ny121.out] at ho8 | (simp only [Int.reduceToNat] at ho8; rw [← Ny121.out] at ho8)); have n0_ := Aside0.mk (Kd.R_lower ho8 (below_size (by repeat (first | (with_reducible first | exact HB.out | apply below_alloc | apply pw_below_drewN | apply below_drew1) | exact HB.out)))); have n1_ := Aside0.mk (below_step (by repeat (first | (with_reducible first | exact HB.out | apply below_alloc | apply pw_below_drewN | apply below_drew1) | exact HB.out)) hb); clear HB; have HO123 := n0_; have HB := n1_; clear n0_ n1_; clear hb ho8))
      go_loopg [17] k (fun kq v17 w' => ∃ (x7_1 : List Int) (x17_1 : Int), v17 = .int .i64 x17_1 ∧ Aside0 (trace_follows.l0 kq l0 l1 x7_1 l1 (l1.length : Int) x17_1 = some r) ∧ Aside0 (kq ≤ k) ∧ Aside0 (Kd.R (Kd.int .i8) 27 w' w.heap.size (fun _ => True) v122 x7_1) ∧ Aside0 (Below w.heap.size w w'))
      case atStart => exact ⟨(y121), (0), (by first | rfl | (simp; done) | (simp [*]; done)), H', ⟨Nat.le_refl _⟩, ⟨by (with_reducible repeat (first | apply Kd.R_alloc | apply Kd.R_drewN | apply Kd.R_drew)); exact HO123.out⟩, ⟨by repeat (first | (with_reducible first | exact HB.out | apply below_alloc | apply pw_below_drewN | apply below_drew1) | exact HB.out)⟩⟩
      case round =>
        clear H'
        try clear c1
        try clear c2
        try clear p2
        try clear c5
        try clear c5b0
        try clear c5b1
        try clear c6
        try clear c6b0
        try clear c6b1
        try clear p6
        obtain ⟨x7_1, x17_1, rfl, HA, HK1, HO_7, HB⟩ := hrel
        cases gk with
        | zero => exact absurd HA.out (by simp [trace_follows.l0])
        | succ k1 =>
          have H := HA.out
          clear HA
          simp only [trace_follows.l0] at H
          by_cases c9 : x17_1 < (l1.length : Int)
          · rw [if_pos c9] at H
            have c9b0 : decide (x17_1 < (l1.length : Int)) = true := decide_eq_true c9
            clear c9
            by_cases c10 : 0 ≤ x17_1
            · rw [if_pos c10] at H
              have c10b0 : decide (0 ≤ x17_1) = true := decide_eq_true c10
              clear c10
              by_cases c11 : x17_1 < (l1.length : Int)
              · rw [if_pos c11] at H
                have c11b0 : decide (x17_1 < (l1.length : Int)) = true := decide_eq_true c11
                clear c11
                replace H := Option.bind_eq_some_iff.mp H
                obtain ⟨t129, A120, H⟩ := H
                replace H : (if t129 = true then (some true) else (if (rd l1 x17_1) > 0 then (if 0 ≤ (rd l1 x17_1) then (if (rd l1 x17_1) < (x7_1.length : Int) then (trace_follows.l0 k1 l0 l1 (x7_1.set ((rd l1 x17_1) : Int).toNat (-1)) l1 (l1.length : Int) (wrap64 (x17_1 + 1))) else (none)) else (none)) else (if 0 ≤ (wrap64 (-(rd l1 x17_1))) then (if (wrap64 (-(rd l1 x17_1))) < (x7_1.length : Int) then (trace_follows.l0 k1 l0 l1 (x7_1.set ((wrap64 (-(rd l1 x17_1))) : Int).toNat 1) l1 (l1.length : Int) (wrap64 (x17_1 + 1))) else (none)) else (none)))) = some r := H
                have A12 := Aside0.mk A120
                clear A120
                by_cases c13 : t129 = true
                · subst c13
                  have H1 : (some true) = some r := by rw [if_pos rfl] at H; exact H
                  clear H
                  have H := H1
                  clear H1
                  obtain rfl := Option.some.inj H
                  have p128 : 0 ≤ (x17_1 : Int) := of_decide_eq_true (by first | (with_reducible assumption) | assumption)
                  have q128 : x17_1 < (l1.length : Int) := of_decide_eq_true (by first | (with_reducible assumption) | assumption)
                  obtain ⟨ad128, e128, hx128_0⟩ := Kd.at_int HR1.out x17_1 p128 q128
                  cases e128
                  replace hx128_0 := (HB.out.cell (World.block_lt_of_cell? w _ hx128_0)).trans hx128_0
                  replace p128 := eq_true p128
                  replace q128 := eq_true q128
                  go_wp2_with (first | ((with_reducible refine gate_callee (f := 29) rfl ?_); refine goesL_ (some 29) rfl rfl Try.func29 (by kernel_rfl) rfl #[.slice (some ad128) l1.length c1, .int .i64 (wrap64 (-(rd l1 x17_1)))] rfl (by (try simp only [List.map_toArray, List.map_cons, List.map_nil]); first | done | rfl | (simp only [List.length_drop, List.length_take]; rfl)) ?_; (with_reducible refine (slices_Contains_int_int.calls k1 _ _ l1 (wrap64 (-(rd l1 x17_1))) true _ ?side1 ?side2 A12.out).mono ?_); (case side1 => repeat (first | exact (Kd.C_below HR1.out HB.out) | (with_reducible refine Kd.C_alloc ?_ _) | (with_reducible refine Kd.C_drewN ?_ _) | (with_reducible refine Kd.C_drew ?_))); (case side2 => exact HC1.out); rintro e w' ⟨rfl, ⟨nd, rfl⟩⟩; refine ⟨_, rfl, ?_⟩))
                  go_ret
                  exact ⟨by first | rfl | (simp [errW_none, errW_some] <;> rfl) | (simp only [← hji4]; first | rfl | (simp [errW_none, errW_some] <;> rfl)) | (simp [*, errW_none, errW_some] <;> rfl), by repeat (first | (with_reducible first | exact HB.out | apply below_alloc | apply pw_below_drewN | apply below_drew1) | exact HB.out)⟩
                · replace c13 := Bool.eq_false_iff.mpr c13
                  subst c13
                  have H1 : (if (rd l1 x17_1) > 0 then (if 0 ≤ (rd l1 x17_1) then (if (rd l1 x17_1) < (x7_1.length : Int) then (trace_follows.l0 k1 l0 l1 (x7_1.set ((rd l1 x17_1) : Int).toNat (-1)) l1 (l1.length : Int) (wrap64 (x17_1 + 1))) else (none)) else (none)) else (if 0 ≤ (wrap64 (-(rd l1 x17_1))) then (if (wrap64 (-(rd l1 x17_1))) < (x7_1.length : Int) then (trace_follows.l0 k1 l0 l1 (x7_1.set ((wrap64 (-(rd l1 x17_1))) : Int).toNat 1) l1 (l1.length : Int) (wrap64 (x17_1 + 1))) else (none)) else (none))) = some r := by rw [if_neg (show ¬ (false = true) by decide)] at H; exact H
                  clear H
                  have H := H1
                  clear H1
                  by_cases c14 : (rd l1 x17_1) > 0
                  · rw [if_pos c14] at H
                    have c14b0 : decide (0 < (rd l1 x17_1)) = true := decide_eq_true c14
                    clear c14
                    by_cases c15 : 0 ≤ (rd l1 x17_1)
                    · rw [if_pos c15] at H
                      have c15b0 : decide (0 ≤ (rd l1 x17_1)) = true := decide_eq_true c15
                      clear c15
                      by_cases c16 : (rd l1 x17_1) < (x7_1.length : Int)
                      · rw [if_pos c16] at H
                        have c16b0 : decide ((rd l1 x17_1) < (x7_1.length : Int)) = true := decide_eq_true c16
                        clear c16
                        obtain ⟨y130, hy130⟩ : ∃ y_ : List Int, y_ = (x7_1.set ((rd l1 x17_1) : Int).toNat (-1)) := ⟨_, rfl⟩
                        replace H : (trace_follows.l0 k1 l0 l1 y130 l1 (l1.length : Int) (wrap64 (x17_1 + 1))) = some r := by first | (rw [hy130]; with_reducible exact H) | (have H2_ := (Option.bind_some _ _).symm.trans H; rw [hy130]; with_reducible exact H2_) | (have H2_ := (Option.bind_some _ _).symm.trans H; with_reducible exact H2_) | with_reducible exact H | (rw [hy130]; exact H) | exact H
                        have Ny130 := Aside0.mk hy130
                        clear hy130
                        have H' := Aside0.mk H
                        clear H
                        have p128 : 0 ≤ (x17_1 : Int) := of_decide_eq_true (by first | (with_reducible assumption) | assumption)
                        have q128 : x17_1 < (l1.length : Int) := of_decide_eq_true (by first | (with_reducible assumption) | assumption)
                        obtain ⟨ad128, e128, hx128_0⟩ := Kd.at_int HR1.out x17_1 p128 q128
                        cases e128
                        replace hx128_0 := (HB.out.cell (World.block_lt_of_cell? w _ hx128_0)).trans hx128_0
                        replace p128 := eq_true p128
                        replace q128 := eq_true q128
                        go_wp2_with (first | ((with_reducible refine gate_callee (f := 29) rfl ?_); refine goesL_ (some 29) rfl rfl Try.func29 (by kernel_rfl) rfl #[.slice (some ad128) l1.length c1, .int .i64 (wrap64 (-(rd l1 x17_1)))] rfl (by (try simp only [List.map_toArray, List.map_cons, List.map_nil]); first | done | rfl | (simp only [List.length_drop, List.length_take]; rfl)) ?_; (with_reducible refine (slices_Contains_int_int.calls k1 _ _ l1 (wrap64 (-(rd l1 x17_1))) false _ ?side1 ?side2 A12.out).mono ?_); (case side1 => repeat (first | exact (Kd.C_below HR1.out HB.out) | (with_reducible refine Kd.C_alloc ?_ _) | (with_reducible refine Kd.C_drewN ?_ _) | (with_reducible refine Kd.C_drew ?_))); (case side2 => exact HC1.out); rintro e w' ⟨rfl, ⟨nd, rfl⟩⟩; refine ⟨_, rfl, ?_⟩; (try (rw [drewN_self wr]; generalize hq_ : World.drewN wr _ = wr; have n0_ : Aside0 (Kd.R (Kd.int .i8) 27 wr w.heap.size (fun _ => True) v122 x7_1) := ⟨by rw [← hq_]; exact (by (with_reducible repeat (first | apply Kd.R_alloc | apply Kd.R_drewN | apply Kd.R_drew)); exact HO_7.out)⟩; have n1_ : Aside0 (Below w.heap.size w wr) := ⟨by rw [← hq_]; exact (by repeat (first | (with_reducible first | exact HB.out | apply below_alloc | apply pw_below_drewN | apply below_drew1) | exact HB.out))⟩; clear HO_7 HB hq_; have HO_7 := n0_; have HB := n1_; clear n0_ n1_)); have p17 : 0 ≤ ((rd l1 x17_1) : Int) := of_decide_eq_true (by first | (with_reducible assumption) | assumption); have q17 : ((rd l1 x17_1) : Int) < ((x7_1.length : Int) : Int) := of_decide_eq_true (by first | (with_reducible assumption) | assumption); obtain ⟨go17, co17, eo17, gb17, gl17, cl17, HG17⟩ := Kd.R_form HO_7.out (by omega); (first | cases eo17 | (injection eo17 with ea_ en_ ec_; (first | subst ea_ | (injection ea_ with ea_; subst ea_)); subst ec_; clear en_)); have GB17 := Aside0.mk gb17; have GG17 := Aside0.mk HG17; clear gb17 gl17 HG17; obtain ⟨hx17_0, hf17_0⟩ := Kd.R_celln 0 HO_7.out ((rd l1 x17_1) : Int) p17 q17; replace p17 := eq_true p17; replace q17 := eq_true q17; obtain ⟨hy18_, hz18_⟩ := Kd.R_celln 0 HO_7.out ((rd l1 x17_1) : Int) (of_decide_eq_true (by first | (with_reducible assumption) | assumption)) (of_decide_eq_true (by first | (with_reducible assumption) | assumption)); have HP18 := Kd.R_putg HO_7.out ((rd l1 x17_1) : Int) (-1)) | ((with_reducible refine gate_store (t := 27) (p := 35) rfl ?_); refine store_event (t := 27) (p := 35) (v := ?vo_w19) (w1 := (wr.setCell ⟨go17, ((rd l1 x17_1) : Int).toNat, none⟩ (.int .i8 (-1)))) ?hg ?ho ?hn ?hr ?_; (case ho => rfl); (case hg => rfl); (case hn => rfl); (case hr => first | (go_simp; done) | (go_simp; rfl)); intro w19 hw; have hg : wr.grownBy w19 (some go17) := (by rw [hw]; exact HP18.2); have hp_ : Kd.R (Kd.int .i8) 27 w19 w.heap.size (fun _ => True) (.slice (some ⟨go17, 0, none⟩) x7_1.length co17) y130 := (by rw [hw, Ny130.out]; exact HP18.1); clear HP18; have n0_ := Aside0.mk (hp_); have n1_ := Aside0.mk ((by rw [hw]; exact below_set (HB.out) GB17.out : Below w.heap.size w w19)); clear HO_7; clear HB; have HO_7 := n0_; have HB := n1_; clear n0_ n1_; clear hg hw hp_))
                        go_roundg k1
                        case measure => have := HK1.out; omega
                        case rel => exact ⟨(y130), (wrap64 (x17_1 + 1)), (by first | rfl | (simp; done) | (simp [*]; done)), H', ⟨by have := HK1.out; omega⟩, ⟨by (with_reducible repeat (first | apply Kd.R_alloc | apply Kd.R_drewN | apply Kd.R_drew)); exact HO_7.out⟩, ⟨by repeat (first | (with_reducible first | exact HB.out | apply below_alloc | apply pw_below_drewN | apply below_drew1) | exact HB.out)⟩⟩
                      · rw [if_neg c16] at H
                        exact absurd H (by simp)
                    · rw [if_neg c15] at H
                      exact absurd H (by simp)
                  · rw [if_neg c14] at H
                    have c14b0 : decide (0 < (rd l1 x17_1)) = false := decide_eq_false c14
                    clear c14
                    obtain ⟨ji20, hji20⟩ : ∃ j_ : Int, (wrap64 (-(rd l1 x17_1))) = j_ := ⟨_, rfl⟩
                    replace H : (if 0 ≤ (ji20) then (if (ji20) < (x7_1.length : Int) then (trace_follows.l0 k1 l0 l1 (x7_1.set ((ji20) : Int).toNat 1) l1 (l1.length : Int) (wrap64 (x17_1 + 1))) else (none)) else (none)) = some r := by first | (rw [hji20] at H; exact H) | (simp only [hji20] at H ⊢; exact H)
                    (try rw [hji20] at A12)
                    have hji20w : (IntKind.i64.wrap (-(rd l1 x17_1))) = ji20 := (i64_w _).trans hji20
                    by_cases c21 : 0 ≤ (ji20)
                    · rw [if_pos c21] at H
                      have c21b0 : decide (0 ≤ (ji20)) = true := decide_eq_true c21
                      clear c21
                      by_cases c22 : (ji20) < (x7_1.length : Int)
                      · rw [if_pos c22] at H
                        have c22b0 : decide ((ji20) < (x7_1.length : Int)) = true := decide_eq_true c22
                        clear c22
                        obtain ⟨y131, hy131⟩ : ∃ y_ : List Int, y_ = (x7_1.set ((ji20) : Int).toNat 1) := ⟨_, rfl⟩
                        replace H : (trace_follows.l0 k1 l0 l1 y131 l1 (l1.length : Int) (wrap64 (x17_1 + 1))) = some r := by first | (rw [hy131]; with_reducible exact H) | (have H2_ := (Option.bind_some _ _).symm.trans H; rw [hy131]; with_reducible exact H2_) | (have H2_ := (Option.bind_some _ _).symm.trans H; with_reducible exact H2_) | with_reducible exact H | (rw [hy131]; exact H) | exact H
                        have Ny131 := Aside0.mk hy131
                        clear hy131
                        have H' := Aside0.mk H
                        clear H
                        have p128 : 0 ≤ (x17_1 : Int) := of_decide_eq_true (by first | (with_reducible assumption) | assumption)
                        have q128 : x17_1 < (l1.length : Int) := of_decide_eq_true (by first | (with_reducible assumption) | assumption)
                        obtain ⟨ad128, e128, hx128_0⟩ := Kd.at_int HR1.out x17_1 p128 q128
                        cases e128
                        replace hx128_0 := (HB.out.cell (World.block_lt_of_cell? w _ hx128_0)).trans hx128_0
                        replace p128 := eq_true p128
                        replace q128 := eq_true q128
                        go_wp2_with (first | ((with_reducible refine gate_callee (f := 29) rfl ?_); refine goesL_ (some 29) rfl rfl Try.func29 (by kernel_rfl) rfl #[.slice (some ad128) l1.length c1, .int .i64 ji20] rfl (by (try simp only [List.map_toArray, List.map_cons, List.map_nil]); first | done | (simp only [hji20]; rfl) | rfl | (simp only [List.length_drop, List.length_take]; rfl)) ?_; (with_reducible refine (slices_Contains_int_int.calls k1 _ _ l1 ji20 false _ ?side1 ?side2 A12.out).mono ?_); (case side1 => repeat (first | exact (Kd.C_below HR1.out HB.out) | (with_reducible refine Kd.C_alloc ?_ _) | (with_reducible refine Kd.C_drewN ?_ _) | (with_reducible refine Kd.C_drew ?_))); (case side2 => exact HC1.out); rintro e w' ⟨rfl, ⟨nd, rfl⟩⟩; refine ⟨_, rfl, ?_⟩; (try (rw [drewN_self wr]; generalize hq_ : World.drewN wr _ = wr; have n0_ : Aside0 (Kd.R (Kd.int .i8) 27 wr w.heap.size (fun _ => True) v122 x7_1) := ⟨by rw [← hq_]; exact (by (with_reducible repeat (first | apply Kd.R_alloc | apply Kd.R_drewN | apply Kd.R_drew)); exact HO_7.out)⟩; have n1_ : Aside0 (Below w.heap.size w wr) := ⟨by rw [← hq_]; exact (by repeat (first | (with_reducible first | exact HB.out | apply below_alloc | apply pw_below_drewN | apply below_drew1) | exact HB.out))⟩; clear HO_7 HB hq_; have HO_7 := n0_; have HB := n1_; clear n0_ n1_)); have p23 : 0 ≤ ((ji20) : Int) := of_decide_eq_true (by first | (with_reducible assumption) | assumption); have q23 : ((ji20) : Int) < ((x7_1.length : Int) : Int) := of_decide_eq_true (by first | (with_reducible assumption) | assumption); obtain ⟨go23, co23, eo23, gb23, gl23, cl23, HG23⟩ := Kd.R_form HO_7.out (by omega); (first | cases eo23 | (injection eo23 with ea_ en_ ec_; (first | subst ea_ | (injection ea_ with ea_; subst ea_)); subst ec_; clear en_)); have GB23 := Aside0.mk gb23; have GG23 := Aside0.mk HG23; clear gb23 gl23 HG23; obtain ⟨hx23_0, hf23_0⟩ := Kd.R_celln 0 HO_7.out ((ji20) : Int) p23 q23; replace p23 := eq_true p23; replace q23 := eq_true q23; obtain ⟨hy24_, hz24_⟩ := Kd.R_celln 0 HO_7.out ((ji20) : Int) (of_decide_eq_true (by first | (with_reducible assumption) | assumption)) (of_decide_eq_true (by first | (with_reducible assumption) | assumption)); have HP24 := Kd.R_putg HO_7.out ((ji20) : Int) 1) | ((with_reducible refine gate_store (t := 27) (p := 24) rfl ?_); refine store_event (t := 27) (p := 24) (v := ?vo_w25) (w1 := (wr.setCell ⟨go23, ((ji20) : Int).toNat, none⟩ (.int .i8 1))) ?hg ?ho ?hn ?hr ?_; (case ho => rfl); (case hg => rfl); (case hn => rfl); (case hr => first | (go_simp; done) | (go_simp; rfl)); intro w25 hw; have hg : wr.grownBy w25 (some go23) := (by rw [hw]; exact HP24.2); have hp_ : Kd.R (Kd.int .i8) 27 w25 w.heap.size (fun _ => True) (.slice (some ⟨go23, 0, none⟩) x7_1.length co23) y131 := (by rw [hw, Ny131.out]; exact HP24.1); clear HP24; have n0_ := Aside0.mk (hp_); have n1_ := Aside0.mk ((by rw [hw]; exact below_set (HB.out) GB23.out : Below w.heap.size w w25)); clear HO_7; clear HB; have HO_7 := n0_; have HB := n1_; clear n0_ n1_; clear hg hw hp_))
                        go_roundg k1
                        case measure => have := HK1.out; omega
                        case rel => exact ⟨(y131), (wrap64 (x17_1 + 1)), (by first | rfl | (simp; done) | (simp [*]; done)), H', ⟨by have := HK1.out; omega⟩, ⟨by (with_reducible repeat (first | apply Kd.R_alloc | apply Kd.R_drewN | apply Kd.R_drew)); exact HO_7.out⟩, ⟨by repeat (first | (with_reducible first | exact HB.out | apply below_alloc | apply pw_below_drewN | apply below_drew1) | exact HB.out)⟩⟩
                      · rw [if_neg c22] at H
                        exact absurd H (by simp)
                    · rw [if_neg c21] at H
                      exact absurd H (by simp)
              · rw [if_neg c11] at H
                exact absurd H (by simp)
            · rw [if_neg c10] at H
              exact absurd H (by simp)
          · rw [if_neg c9] at H
            have c9b0 : decide (x17_1 < (l1.length : Int)) = false := decide_eq_false c9
            clear c9
            replace H := Option.bind_eq_some_iff.mp H
            obtain ⟨⟨t124, t125⟩, A260, H⟩ := H
            replace H : (some t125) = some r := H
            have A26 := Aside0.mk A260
            clear A260
            obtain rfl := Option.some.inj H
            obtain ⟨Ao27, co27, eo27⟩ := Kd.R_slice HO_7.out
            subst eo27
            go_wp2_with (first | ((with_reducible refine gate_callee (f := 30) rfl ?_); refine goesL_ (some 40) rfl rfl Try.func30 (by kernel_rfl) rfl #[.slice A0 l0.length c0, .slice Ao27 x7_1.length co27] rfl (by (try simp only [List.map_toArray, List.map_cons, List.map_nil]); first | done | rfl | (simp only [List.length_drop, List.length_take]; rfl)) ?_; (with_reducible refine (prop_Unit.calls k1 _ _ l0 _ _ x7_1 t124 t125 _ ?side1 ?side2 ?side3 ?side4 A26.out).mono ?_); (case side1 => repeat (first | exact (Kd.C_below HR0.out HB.out) | (with_reducible refine Kd.C_alloc ?_ _) | (with_reducible refine Kd.C_drewN ?_ _) | (with_reducible refine Kd.C_drew ?_))); (case side2 => exact HC0.out); (case side3 => repeat (first | exact (Kd.R_reads' HO_7.out).2.2 | (with_reducible refine Kd.C_alloc ?_ _) | (with_reducible refine Kd.C_drewN ?_ _) | (with_reducible refine Kd.C_drew ?_))); (case side4 => exact (Kd.R_reads' HO_7.out).2.1); rintro e w28 ⟨v126, rfl, ho0, hb⟩; refine ⟨_, rfl, ?_⟩; have n0_ := Aside0.mk (Kd.R_elder' (by (with_reducible repeat (first | apply Kd.R_alloc | apply Kd.R_drewN | apply Kd.R_drew)); exact HO_7.out) (Kd.R_base ho0) hb); have n1_ := Aside0.mk (Kd.R_lower (Kd.R_new' ho0 (Kd.R_lt (by (with_reducible repeat (first | apply Kd.R_alloc | apply Kd.R_drewN | apply Kd.R_drew)); exact HO_7.out))) (below_size (by repeat (first | (with_reducible first | exact HB.out | apply below_alloc | apply pw_below_drewN | apply below_drew1) | exact HB.out)))); have n2_ := Aside0.mk (below_step (by repeat (first | (with_reducible first | exact HB.out | apply below_alloc | apply pw_below_drewN | apply below_drew1) | exact HB.out)) hb); clear HO_7; clear HB; have HO_7 := n0_; have HO127 := n1_; have HB := n2_; clear n0_ n1_ n2_; (try clear hb); (try clear hb2); (try clear hk); (try clear hi); (try clear ho0)))
            go_ret
            exact ⟨by first | rfl | (simp [errW_none, errW_some] <;> rfl) | (simp only [← hji4]; first | rfl | (simp [errW_none, errW_some] <;> rfl)) | (simp [*, errW_none, errW_some] <;> rfl), by repeat (first | (with_reducible first | exact HB.out | apply below_alloc | apply pw_below_drewN | apply below_drew1) | exact HB.out)⟩
    · rw [if_neg c6] at H
      exact absurd H (by simp)
  · rw [if_neg c5] at H
    exact absurd H (by simp)

end Go.Proofs.Ytbmnoofffodakaa.Q
