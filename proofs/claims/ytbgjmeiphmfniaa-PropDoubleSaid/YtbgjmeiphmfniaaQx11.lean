/- written by a program of this session (wip/tools/printx.py, over the kit's printing program) out of the translation -/
import Derived.Test.YtbgjmeiphmfniaaQx0
import Derived.Test.YtbgjmeiphmfniaaQx1
import Derived.Test.YtbgjmeiphmfniaaQx2
import Derived.Test.YtbgjmeiphmfniaaQx3
import Derived.Test.YtbgjmeiphmfniaaQx5
namespace Go.Proofs.Ytbgjmeiphmfniaa.Q
open Go.RowKit Go.Proofs.YtbgjmeiphmfniaaW.PrintWords Go.Proofs.YtbgjmeiphmfniaaW.PrintLast Go.Proofs.YtbgjmeiphmfniaaW.PrintMore
attribute [local go_sem] max2_int min2_int max_two min_two max_three min_three max_four min_four   -- for this text's walks alone
set_option linter.unusedVariables false
set_option linter.unusedSimpArgs false

/-! ### ashlarlaw08_PropDouble: function 11 -/
mutual
def ashlarlaw08_PropDouble.l0 : Nat → List (List Int) → List Int → Bool → List (List Int) → Int → Option (Bool)
  | 0, _, _, _, _, _ => none
  | k + 1, x0, x1, x5, x6, x7 => if x7 < (x0.length : Int) then (ashlarlaw08_PropDouble.l1 k x0 x1 x5 x6 x7 ([] : List Int) 0) else (if x6.length + x0.length < 5864062014805 then ((some (x6 ++ x0 : List (List Int))).bind fun y552 => ((prop_Unit.f k x0 x1).bind fun bt555 => ((prop_Unit.f k y552 x1).bind fun bt559 => (if x5 = true then ((ashlarlaw08_same.f k bt555.1 bt559.1).bind fun t563 => (if t563 = true then (if (bt555.2 == bt559.2) = true then ((prop_Eval.f k x0 x1).bind fun t564 => ((prop_Eval.f k y552 x1).bind fun t565 => (some (t564 == t565)))) else (some false)) else (some false))) else (some false))))) else (none))
def ashlarlaw08_PropDouble.l1 : Nat → List (List Int) → List Int → Bool → List (List Int) → Int → List Int → Int → Option (Bool)
  | 0, _, _, _, _, _, _, _ => none
  | k + 1, x0, x1, x5, x6, x7, x8, x9 => if 0 ≤ x7 then (if x7 < (x0.length : Int) then (if x9 < ((rd_L2 x0 x7).length : Int) then (if 0 ≤ x9 then ((some (([rd (rd_L2 x0 x7) x9, rd (rd_L2 x0 x7) x9] : List Int) : List Int)).bind fun y543 => (if x8.length + y543.length < 17592186044416 then (ashlarlaw08_PropDouble.l1 k x0 x1 x5 x6 x7 (x8 ++ y543) (wrap64 (x9 + 1))) else (none))) else (none)) else (if x6.length < 5864062014805 then (ashlarlaw08_PropDouble.l0 k x0 x1 x5 (x6 ++ [x8]) (wrap64 (x7 + 1))) else (none))) else (none)) else (none)
end
def ashlarlaw08_PropDouble.f (k : Nat) (l0 : List (List Int)) (l1 : List Int) : Option (Bool) := (ashlarlaw08_shown.f k).bind fun t531 => ((ashlarlaw08_few.f k l0 l1).bind fun bt532 => (ashlarlaw08_PropDouble.l0 k bt532.1 bt532.2 t531 ([] : List (List Int)) 0))
theorem ashlarlaw08_PropDouble.mono_l : ∀ k, (∀ y0 y1 y2 y3 y4, LeO (ashlarlaw08_PropDouble.l0 k y0 y1 y2 y3 y4) (ashlarlaw08_PropDouble.l0 (k + 1) y0 y1 y2 y3 y4)) ∧ (∀ y0 y1 y2 y3 y4 y5 y6, LeO (ashlarlaw08_PropDouble.l1 k y0 y1 y2 y3 y4 y5 y6) (ashlarlaw08_PropDouble.l1 (k + 1) y0 y1 y2 y3 y4 y5 y6))
  | 0 => ⟨fun _ _ _ _ _ r h => by simp [ashlarlaw08_PropDouble.l0] at h, fun _ _ _ _ _ _ _ r h => by simp [ashlarlaw08_PropDouble.l1] at h⟩
  | k + 1 => by
    obtain ⟨ih0, ih1⟩ := ashlarlaw08_PropDouble.mono_l k
    refine ⟨?_, ?_⟩
    · intro y0 y1 y2 y3 y4
      unfold ashlarlaw08_PropDouble.l0
      repeat' first
      | (with_reducible exact ih0 _ _ _ _ _)
      | (with_reducible exact ih1 _ _ _ _ _ _ _)
      | (with_reducible exact ashlarlaw08_few.mono _ _ _)
      | (with_reducible exact ashlarlaw08_same.mono _ _ _)
      | (with_reducible exact ashlarlaw08_shown.mono _)
      | (with_reducible exact prop_Eval.mono _ _ _)
      | (with_reducible exact prop_Unit.mono _ _ _)
      | (with_reducible exact LeO.refl _)
      | (with_reducible exact LeO.none _)
      | (with_reducible refine LeO.ite ?_ ?_)
      | (with_reducible refine LeO.bind ?_ (fun _ => ?_))
      | exact ih0 _ _ _ _ _
      | exact ih1 _ _ _ _ _ _ _
      | exact ashlarlaw08_few.mono _ _ _
      | exact ashlarlaw08_same.mono _ _ _
      | exact ashlarlaw08_shown.mono _
      | exact prop_Eval.mono _ _ _
      | exact prop_Unit.mono _ _ _
      | exact LeO.none _
      | refine LeO.ite ?_ ?_
      | refine LeO.bind ?_ (fun _ => ?_)
    · intro y0 y1 y2 y3 y4 y5 y6
      unfold ashlarlaw08_PropDouble.l1
      repeat' first
      | (with_reducible exact ih0 _ _ _ _ _)
      | (with_reducible exact ih1 _ _ _ _ _ _ _)
      | (with_reducible exact ashlarlaw08_few.mono _ _ _)
      | (with_reducible exact ashlarlaw08_same.mono _ _ _)
      | (with_reducible exact ashlarlaw08_shown.mono _)
      | (with_reducible exact prop_Eval.mono _ _ _)
      | (with_reducible exact prop_Unit.mono _ _ _)
      | (with_reducible exact LeO.refl _)
      | (with_reducible exact LeO.none _)
      | (with_reducible refine LeO.ite ?_ ?_)
      | (with_reducible refine LeO.bind ?_ (fun _ => ?_))
      | exact ih0 _ _ _ _ _
      | exact ih1 _ _ _ _ _ _ _
      | exact ashlarlaw08_few.mono _ _ _
      | exact ashlarlaw08_same.mono _ _ _
      | exact ashlarlaw08_shown.mono _
      | exact prop_Eval.mono _ _ _
      | exact prop_Unit.mono _ _ _
      | exact LeO.none _
      | refine LeO.ite ?_ ?_
      | refine LeO.bind ?_ (fun _ => ?_)
theorem ashlarlaw08_PropDouble.mono : ∀ a0 a1 k, LeO (ashlarlaw08_PropDouble.f k a0 a1) (ashlarlaw08_PropDouble.f (k + 1) a0 a1) := by
  intro a0 a1 k
  obtain ⟨ih0, ih1⟩ := ashlarlaw08_PropDouble.mono_l k
  unfold ashlarlaw08_PropDouble.f
  repeat' first
      | (with_reducible exact ih0 _ _ _ _ _)
      | (with_reducible exact ih1 _ _ _ _ _ _ _)
      | (with_reducible exact ashlarlaw08_few.mono _ _ _)
      | (with_reducible exact ashlarlaw08_same.mono _ _ _)
      | (with_reducible exact ashlarlaw08_shown.mono _)
      | (with_reducible exact prop_Eval.mono _ _ _)
      | (with_reducible exact prop_Unit.mono _ _ _)
      | (with_reducible exact LeO.refl _)
      | (with_reducible exact LeO.none _)
      | (with_reducible refine LeO.ite ?_ ?_)
      | (with_reducible refine LeO.bind ?_ (fun _ => ?_))
      | exact ih0 _ _ _ _ _
      | exact ih1 _ _ _ _ _ _ _
      | exact ashlarlaw08_few.mono _ _ _
      | exact ashlarlaw08_same.mono _ _ _
      | exact ashlarlaw08_shown.mono _
      | exact prop_Eval.mono _ _ _
      | exact prop_Unit.mono _ _ _
      | exact LeO.none _
      | refine LeO.ite ?_ ?_
      | refine LeO.bind ?_ (fun _ => ?_)
def ashlarlaw08_PropDouble.T11 : Bool × List (List Nat × List Nat) := (true, [([], []), ([], []), ([], []), ([1, 2], [1, 2]), ([3], [3]), ([], []), ([4, 5], [4, 5]), ([6], [6]), ([], []), ([], []), ([8, 9], [8, 9]), ([10], [10]), ([], []), ([11, 12], [11, 12]), ([13], [13]), ([7, 14], [7, 14]), ([0, 15], [0, 15]), ([16, 16, 0, 1, 2, 3, 4, 5, 6, 7, 8, 9, 10, 11, 12, 13, 14, 15, 16], [0, 16])])
def ashlarlaw08_PropDouble.B11 : List Nat := [0, 0, 0, 6, 14, 0, 62, 126, 0, 0, 768, 1792, 0, 7936, 16128, 32766, 65535, 131071]
theorem ashlarlaw08_PropDouble.tab11 : rtab .any (opsOf Try.f11 11) = ashlarlaw08_PropDouble.T11 := by kernel_rfl
theorem ashlarlaw08_PropDouble.bits11 : waitsOk ashlarlaw08_PropDouble.T11.2 ashlarlaw08_PropDouble.B11 = true := by kernel_rfl
set_option maxHeartbeats 8000000 in
set_option maxRecDepth 100000 in
theorem ashlarlaw08_PropDouble.calls (k : Nat) (A0 : Option Addr) (c0 : Nat) (l0 : List (List Int)) (A1 : Option Addr) (c1 : Nat) (l1 : List Int) (r : Bool) (w : World) (hr0 : Kd.C (Kd.slice 3 (Kd.int .i64)) w A0 l0.length l0) (hc0 : l0.length ≤ c0) (hr1 : Kd.C (Kd.int .i8) w A1 l1.length l1) (hc1 : l1.length ≤ c1) (h : ashlarlaw08_PropDouble.f k l0 l1 = some r) :
    Calls Try.prog 11 #[.slice A0 l0.length c0, .slice A1 l1.length c1] w fun e w' => e = .returned (.bool r) ∧ Below w.heap.size w w' := by
  have HR0 := Aside0.mk hr0
  have HC0 := Aside0.mk hc0
  clear hr0 hc0
  have HR1 := Aside0.mk hr1
  have HC1 := Aside0.mk hc1
  clear hr1 hc1
  have HB := Aside0.mk (Below.refl w.heap.size w)
  have H : ((ashlarlaw08_shown.f k).bind fun t531 => ((ashlarlaw08_few.f k l0 l1).bind fun bt532 => (ashlarlaw08_PropDouble.l0 k bt532.1 bt532.2 t531 ([] : List (List Int)) 0))) = some r := h
  clear h
  replace H := Option.bind_eq_some_iff.mp H
  obtain ⟨t531, A30, H⟩ := H
  replace H : ((ashlarlaw08_few.f k l0 l1).bind fun bt532 => (ashlarlaw08_PropDouble.l0 k bt532.1 bt532.2 t531 ([] : List (List Int)) 0)) = some r := H
  have A3 := Aside0.mk A30
  clear A30
  replace H := Option.bind_eq_some_iff.mp H
  obtain ⟨⟨t532, t533⟩, A40, H⟩ := H
  replace H : (ashlarlaw08_PropDouble.l0 k t532 t533 t531 ([] : List (List Int)) 0) = some r := H
  have A4 := Aside0.mk A40
  clear A40
  have H' := Aside0.mk H
  clear H
  go_enter Try.func11, Try.ntmps11
  go_wp2_with (first | ((with_reducible refine gate_callee (f := 12) rfl ?_); refine goesL_ (some 14) rfl rfl Try.func12 (by kernel_rfl) rfl #[] rfl (by (try simp only [List.map_toArray, List.map_cons, List.map_nil]); first | done | rfl | (simp only [List.length_drop, List.length_take]; rfl)) ?_; (with_reducible refine (ashlarlaw08_shown.calls k  t531 _ A3.out).mono ?_); rintro e w5 ⟨rfl, hb⟩; refine ⟨_, rfl, ?_⟩; have n0_ := Aside0.mk (below_step (by repeat (first | (with_reducible first | exact HB.out | apply below_alloc | apply pw_below_drewN | apply below_drew1) | exact HB.out)) hb); clear HB; have HB := n0_; clear n0_; (try clear hb); (try clear hb2); (try clear hk); (try clear hi)) | ((with_reducible refine gate_callee (f := 13) rfl ?_); refine goesL_ (some 18) rfl rfl Try.func13 (by kernel_rfl) rfl #[.slice A0 l0.length c0, .slice A1 l1.length c1] rfl (by (try simp only [List.map_toArray, List.map_cons, List.map_nil]); first | done | rfl | (simp only [List.length_drop, List.length_take]; rfl)) ?_; (with_reducible refine (ashlarlaw08_few.calls k _ _ l0 _ _ l1 t532 t533 _ ?side1 ?side2 ?side3 ?side4 A4.out).mono ?_); (case side1 => repeat (first | exact (Kd.C_below HR0.out HB.out) | (with_reducible refine Kd.C_alloc ?_ _) | (with_reducible refine Kd.C_drewN ?_ _) | (with_reducible refine Kd.C_drew ?_))); (case side2 => exact HC0.out); (case side3 => repeat (first | exact (Kd.C_below HR1.out HB.out) | (with_reducible refine Kd.C_alloc ?_ _) | (with_reducible refine Kd.C_drewN ?_ _) | (with_reducible refine Kd.C_drew ?_))); (case side4 => exact HC1.out); rintro e w6 ⟨v534, v536, rfl, ho0, ho1, hb⟩; refine ⟨_, rfl, ?_⟩; have n0_ := Aside0.mk (Kd.N_lower (Kd.N_mono (ok' := fun k_ => some k_ ≠ (v536 : Value).ownBlock) (Kd.S_N (Kd.S_bound (Kd.S_apart' ho0 (Kd.R_typed ho1) (by decide)))) (fun k_ hk_ => hk_.1.2)) (below_size (by repeat (first | (with_reducible first | exact HB.out | apply below_alloc | apply pw_below_drewN | apply below_drew1) | exact HB.out)))); have n1_ := Aside0.mk (Kd.R_lower ho1 (below_size (by repeat (first | (with_reducible first | exact HB.out | apply below_alloc | apply pw_below_drewN | apply below_drew1) | exact HB.out)))); have n2_ := Aside0.mk (below_step (by repeat (first | (with_reducible first | exact HB.out | apply below_alloc | apply pw_below_drewN | apply below_drew1) | exact HB.out)) hb); clear HB; have HO535 := n0_; have HO537 := n1_; have HB := n2_; clear n0_ n1_ n2_; (try clear hb); (try clear hb2); (try clear hk); (try clear hi); (try clear ho0); (try clear ho1)))
  go_loopg [6, 7] k (fun kq v6 v7 w' => ∃ (x6_1 : List (List Int)) (x7_1 : Int), v7 = .int .i64 x7_1 ∧ Aside0 (ashlarlaw08_PropDouble.l0 kq t532 t533 t531 x6_1 x7_1 = some r) ∧ Aside0 (kq ≤ k) ∧ Aside0 (Kd.N (Kd.slice 3 (Kd.int .i64)) 35 w' w.heap.size (fun k_ => some k_ ≠ (v536 : Value).ownBlock ∧ some k_ ≠ (v6 : Value).ownBlock) v534 t532) ∧ Aside0 (Kd.R (Kd.int .i8) 30 w' w.heap.size (fun _ => True) v536 t533) ∧ Aside0 (Kd.N (Kd.slice 3 (Kd.int .i64)) 35 w' w.heap.size (fun k_ => some k_ ≠ (v534 : Value).ownBlock ∧ some k_ ≠ (v536 : Value).ownBlock) v6 x6_1) ∧ Aside0 (Below w.heap.size w w'))
  case atStart => exact ⟨(([] : List (List Int))), (0), (by first | rfl | (simp; done) | (simp [*]; done)), H', ⟨Nat.le_refl _⟩, ⟨by (with_reducible repeat (first | apply Kd.N_alloc | apply Kd.N_drewN | apply Kd.N_drew)); exact Kd.N_mono HO535.out (fun _ hk => ⟨hk, (by simp [Value.ownBlock])⟩)⟩, ⟨by (with_reducible repeat (first | apply Kd.R_alloc | apply Kd.R_drewN | apply Kd.R_drew)); exact HO537.out⟩, ⟨by first | exact Kd.S_nil _ _ _ _ _ | exact Kd.N_nil _ _ _ _ _ | exact Kd.V_nil _ _ _ _ _ | exact Kd.Q_nil _ _ _ _ _ | exact Kd.R_nil _ _ _ _ _⟩, ⟨by repeat (first | (with_reducible first | exact HB.out | apply below_alloc | apply pw_below_drewN | apply below_drew1) | exact HB.out)⟩⟩
  case round =>
    clear H'
    try clear c1
    try clear p2
    obtain ⟨x6_1, x7_1, rfl, HA, HK1, HO_0, HO_1, HO_6, HB⟩ := hrel
    cases gk with
    | zero => exact absurd HA.out (by simp [ashlarlaw08_PropDouble.l0])
    | succ k1 =>
      have H := HA.out
      clear HA
      simp only [ashlarlaw08_PropDouble.l0] at H
      by_cases c7 : x7_1 < (t532.length : Int)
      · rw [if_pos c7] at H
        have c7b0 : decide (x7_1 < (t532.length : Int)) = true := decide_eq_true c7
        clear c7
        have H' := Aside0.mk H
        clear H
        obtain ⟨Ao8, co8, eo8⟩ := Kd.N_slice HO_0.out
        subst eo8
        go_wp2
        go_loopg [8, 9] k1 (fun kq v8 v9 w' => ∃ (x8_2 : List Int) (x9_2 : Int), v9 = .int .i64 x9_2 ∧ Aside0 (ashlarlaw08_PropDouble.l1 kq t532 t533 t531 x6_1 x7_1 x8_2 x9_2 = some r) ∧ Aside0 (kq ≤ k1) ∧ Aside0 (Kd.N (Kd.slice 3 (Kd.int .i64)) 35 w' w.heap.size (fun k_ => some k_ ≠ (v536 : Value).ownBlock ∧ some k_ ≠ (u6 : Value).ownBlock ∧ some k_ ≠ (v8 : Value).ownBlock) (.slice Ao8 t532.length co8) t532) ∧ Aside0 (Kd.R (Kd.int .i8) 30 w' w.heap.size (fun _ => True) v536 t533) ∧ Aside0 (Kd.N (Kd.slice 3 (Kd.int .i64)) 35 w' w.heap.size (fun k_ => some k_ ≠ ((.slice Ao8 t532.length co8) : Value).ownBlock ∧ some k_ ≠ (v536 : Value).ownBlock ∧ some k_ ≠ (v8 : Value).ownBlock) u6 x6_1) ∧ Aside0 (Kd.R (Kd.int .i64) 3 w' w.heap.size (fun _ => True) v8 x8_2) ∧ Aside0 (Below w.heap.size w w'))
        case atStart => exact ⟨(([] : List Int)), (0), (by first | rfl | (simp; done) | (simp [*]; done)), H', ⟨Nat.le_refl _⟩, ⟨by (with_reducible repeat (first | apply Kd.N_alloc | apply Kd.N_drewN | apply Kd.N_drew)); exact Kd.N_mono HO_0.out (fun _ hk => ⟨hk.1, ⟨hk.2, (by simp [Value.ownBlock])⟩⟩)⟩, ⟨by (with_reducible repeat (first | apply Kd.R_alloc | apply Kd.R_drewN | apply Kd.R_drew)); exact HO_1.out⟩, ⟨by (with_reducible repeat (first | apply Kd.N_alloc | apply Kd.N_drewN | apply Kd.N_drew)); exact Kd.N_mono HO_6.out (fun _ hk => ⟨hk.1, ⟨hk.2, (by simp [Value.ownBlock])⟩⟩)⟩, ⟨by first | exact Kd.R_nil _ _ _ _ _ | exact Kd.N_nil _ _ _ _ _ | exact Kd.V_nil _ _ _ _ _ | exact Kd.Q_nil _ _ _ _ _ | exact Kd.S_nil _ _ _ _ _⟩, ⟨by repeat (first | (with_reducible first | exact HB.out | apply below_alloc | apply pw_below_drewN | apply below_drew1) | exact HB.out)⟩⟩
        case round =>
          clear H'
          try clear c1
          try clear p2
          try clear c7
          try clear c7b0
          try clear p2
          obtain ⟨x8_2, x9_2, rfl, HA, HK2, HO_0, HO_1, HO_6, HO_8, HB⟩ := hrel
          cases gk with
          | zero => exact absurd HA.out (by simp [ashlarlaw08_PropDouble.l1])
          | succ k2 =>
            have H := HA.out
            clear HA
            simp only [ashlarlaw08_PropDouble.l1] at H
            by_cases c9 : 0 ≤ x7_1
            · rw [if_pos c9] at H
              have c9b0 : decide (0 ≤ x7_1) = true := decide_eq_true c9
              clear c9
              by_cases c10 : x7_1 < (t532.length : Int)
              · rw [if_pos c10] at H
                have c10b0 : decide (x7_1 < (t532.length : Int)) = true := decide_eq_true c10
                clear c10
                by_cases c11 : x9_2 < ((rd_L2 t532 x7_1).length : Int)
                · rw [if_pos c11] at H
                  have c11b0 : decide (x9_2 < ((rd_L2 t532 x7_1).length : Int)) = true := decide_eq_true c11
                  clear c11
                  by_cases c12 : 0 ≤ x9_2
                  · rw [if_pos c12] at H
                    have c12b0 : decide (0 ≤ x9_2) = true := decide_eq_true c12
                    clear c12
                    obtain ⟨y543, hy543⟩ : ∃ y_ : List Int, y_ = (([rd (rd_L2 t532 x7_1) x9_2, rd (rd_L2 t532 x7_1) x9_2] : List Int)) := ⟨_, rfl⟩
                    replace H : (if x8_2.length + y543.length < 17592186044416 then (ashlarlaw08_PropDouble.l1 k2 t532 t533 t531 x6_1 x7_1 (x8_2 ++ y543) (wrap64 (x9_2 + 1))) else (none)) = some r := by first | (rw [hy543]; with_reducible exact H) | (have H2_ := (Option.bind_some _ _).symm.trans H; rw [hy543]; with_reducible exact H2_) | (have H2_ := (Option.bind_some _ _).symm.trans H; with_reducible exact H2_) | with_reducible exact H | (rw [hy543]; exact H) | exact H
                    have Ny543 := Aside0.mk hy543
                    clear hy543
                    by_cases c13 : x8_2.length + y543.length < 17592186044416
                    · rw [if_pos c13] at H
                      have LMc13 := Aside0.mk c13
                      clear c13
                      obtain ⟨y546, hy546⟩ : ∃ y_ : List Int, y_ = (x8_2 ++ y543) := ⟨_, rfl⟩
                      replace H : (ashlarlaw08_PropDouble.l1 k2 t532 t533 t531 x6_1 x7_1 y546 (wrap64 (x9_2 + 1))) = some r := by first | (rw [hy546]; with_reducible exact H) | (have H2_ := (Option.bind_some _ _).symm.trans H; rw [hy546]; with_reducible exact H2_) | (have H2_ := (Option.bind_some _ _).symm.trans H; with_reducible exact H2_) | with_reducible exact H | (rw [hy546]; exact H) | exact H
                      have Ny546 := Aside0.mk hy546
                      clear hy546
                      have H' := Aside0.mk H
                      clear H
                      have p538 : 0 ≤ (x7_1 : Int) := of_decide_eq_true (by first | (with_reducible assumption) | assumption)
                      have q538 : x7_1 < (t532.length : Int) := of_decide_eq_true (by first | (with_reducible assumption) | assumption)
                      obtain ⟨ad538, A538_0, c538_0, e538, hx538_0, hl538_0, hi538_0⟩ := at_L2 (Kd.N_reads' HO_0.out).2.2 x7_1 p538 q538
                      cases e538
                      obtain ⟨ce538, hce538, hMe538, hcc538⟩ := Kd.N_get HO_0.out [] x7_1 p538 (by first | exact q538 | exact of_decide_eq_true (by first | (with_reducible assumption) | assumption) | (have e_ := (Kd.N_reads' HO_0.out).1; omega))
                      obtain ⟨ua538_0, uc538_0, rfl, ul538_0, ge538_0⟩ := Kd.FK_slice_open hMe538
                      have hv538_0 := hcc538 0 _ rfl
                      rw [Nat.add_zero, show ((Kd.slice 3 (Kd.int .i64))).sz = 1 from rfl, Nat.mul_one] at hv538_0
                      replace hv538_0 := Option.some.inj (hv538_0.symm.trans hx538_0)
                      injection hv538_0 with hva_ hvn_ hvc_
                      rw [hva_] at ge538_0
                      rw [hvc_] at ul538_0
                      have HL538_0 := Aside0.mk (show Kd.V (Kd.int .i64) 3 _ w.heap.size _ _ (rd_L2 t532 x7_1) from Kd.V_mk ul538_0 ge538_0)
                      clear hva_ hvn_ hvc_ ge538_0 ul538_0
                      clear hcc538 hce538
                      have HR538_0 := Aside0.mk hi538_0
                      have HC538_0 := Aside0.mk hl538_0
                      clear hi538_0 hl538_0
                      replace p538 := eq_true p538
                      replace q538 := eq_true q538
                      try go_wp2
                      have n0_ := Aside0.mk (Kd.N_drew HO_0.out)
                      have n1_ := Aside0.mk (Kd.R_drew HO_1.out)
                      have n2_ := Aside0.mk (Kd.N_drew HO_6.out)
                      have n3_ := Aside0.mk (Kd.R_drew HO_8.out)
                      have n4_ := Aside0.mk (Kd.V_drew HL538_0.out)
                      have n5_ := Aside0.mk (Kd.C_drew HR538_0.out)
                      have n6_ := Aside0.mk (below_drew1 HB.out)
                      clear HO_0
                      clear HO_1
                      clear HO_6
                      clear HO_8
                      clear HL538_0
                      clear HR538_0
                      clear HB
                      have HO_0 := n0_
                      have HO_1 := n1_
                      have HO_6 := n2_
                      have HO_8 := n3_
                      have HL538_0 := n4_
                      have HR538_0 := n5_
                      have HB := n6_
                      clear n0_ n1_ n2_ n3_ n4_ n5_ n6_
                      have p539 : 0 ≤ (x7_1 : Int) := of_decide_eq_true (by first | (with_reducible assumption) | assumption)
                      have q539 : x7_1 < (t532.length : Int) := of_decide_eq_true (by first | (with_reducible assumption) | assumption)
                      obtain ⟨ad539, A539_0, c539_0, e539, hx539_0, hl539_0, hi539_0⟩ := at_L2 (Kd.N_reads' HO_0.out).2.2 x7_1 p539 q539
                      obtain rfl : ad538 = ad539 := (by injection e539)
                      obtain ⟨ce539, hce539, hMe539, hcc539⟩ := Kd.N_get HO_0.out [] x7_1 p539 (by first | exact q539 | exact of_decide_eq_true (by first | (with_reducible assumption) | assumption) | (have e_ := (Kd.N_reads' HO_0.out).1; omega))
                      obtain ⟨ua539_0, uc539_0, rfl, ul539_0, ge539_0⟩ := Kd.FK_slice_open hMe539
                      have hv539_0 := hcc539 0 _ rfl
                      rw [Nat.add_zero, show ((Kd.slice 3 (Kd.int .i64))).sz = 1 from rfl, Nat.mul_one] at hv539_0
                      replace hv539_0 := Option.some.inj (hv539_0.symm.trans hx539_0)
                      injection hv539_0 with hva_ hvn_ hvc_
                      rw [hva_] at ge539_0
                      rw [hvc_] at ul539_0
                      have HL539_0 := Aside0.mk (show Kd.V (Kd.int .i64) 3 _ w.heap.size _ _ (rd_L2 t532 x7_1) from Kd.V_mk ul539_0 ge539_0)
                      clear hva_ hvn_ hvc_ ge539_0 ul539_0
                      clear hcc539 hce539
                      have HR539_0 := Aside0.mk hi539_0
                      have HC539_0 := Aside0.mk hl539_0
                      clear hi539_0 hl539_0
                      replace p539 := eq_true p539
                      replace q539 := eq_true q539
                      have p540 : 0 ≤ (x9_2 : Int) := of_decide_eq_true (by first | (with_reducible assumption) | assumption)
                      have q540 : x9_2 < ((rd_L2 t532 x7_1).length : Int) := of_decide_eq_true (by first | (with_reducible assumption) | assumption)
                      obtain ⟨ad540, e540, hx540_0⟩ := Kd.at_int (by repeat (first | (with_reducible exact HR539_0.out) | (with_reducible refine Kd.C_alloc ?_ _) | (with_reducible refine Kd.C_drewN ?_ _) | (with_reducible refine Kd.C_drew ?_) | exact HR539_0.out)) x9_2 p540 q540
                      cases e540
                      replace p540 := eq_true p540
                      replace q540 := eq_true q540
                      have p541 : 0 ≤ (x7_1 : Int) := of_decide_eq_true (by first | (with_reducible assumption) | assumption)
                      have q541 : x7_1 < (t532.length : Int) := of_decide_eq_true (by first | (with_reducible assumption) | assumption)
                      obtain ⟨ad541, A541_0, c541_0, e541, hx541_0, hl541_0, hi541_0⟩ := at_L2 (Kd.N_reads' HO_0.out).2.2 x7_1 p541 q541
                      obtain rfl : ad538 = ad541 := (by injection e541)
                      obtain ⟨ce541, hce541, hMe541, hcc541⟩ := Kd.N_get HO_0.out [] x7_1 p541 (by first | exact q541 | exact of_decide_eq_true (by first | (with_reducible assumption) | assumption) | (have e_ := (Kd.N_reads' HO_0.out).1; omega))
                      obtain ⟨ua541_0, uc541_0, rfl, ul541_0, ge541_0⟩ := Kd.FK_slice_open hMe541
                      have hv541_0 := hcc541 0 _ rfl
                      rw [Nat.add_zero, show ((Kd.slice 3 (Kd.int .i64))).sz = 1 from rfl, Nat.mul_one] at hv541_0
                      replace hv541_0 := Option.some.inj (hv541_0.symm.trans hx541_0)
                      injection hv541_0 with hva_ hvn_ hvc_
                      rw [hva_] at ge541_0
                      rw [hvc_] at ul541_0
                      have HL541_0 := Aside0.mk (show Kd.V (Kd.int .i64) 3 _ w.heap.size _ _ (rd_L2 t532 x7_1) from Kd.V_mk ul541_0 ge541_0)
                      clear hva_ hvn_ hvc_ ge541_0 ul541_0
                      clear hcc541 hce541
                      have HR541_0 := Aside0.mk hi541_0
                      have HC541_0 := Aside0.mk hl541_0
                      clear hi541_0 hl541_0
                      replace p541 := eq_true p541
                      replace q541 := eq_true q541
                      have ea_ := Option.some.inj (hx539_0.symm.trans hx541_0)
                      injection ea_ with ea_ en_ ec_
                      subst ea_
                      subst ec_
                      clear en_
                      have p542 : 0 ≤ (x9_2 : Int) := of_decide_eq_true (by first | (with_reducible assumption) | assumption)
                      have q542 : x9_2 < ((rd_L2 t532 x7_1).length : Int) := of_decide_eq_true (by first | (with_reducible assumption) | assumption)
                      obtain ⟨ad542, e542, hx542_0⟩ := Kd.at_int (by repeat (first | (with_reducible exact HR541_0.out) | (with_reducible refine Kd.C_alloc ?_ _) | (with_reducible refine Kd.C_drewN ?_ _) | (with_reducible refine Kd.C_drew ?_) | exact HR541_0.out)) x9_2 p542 q542
                      cases e542
                      replace p542 := eq_true p542
                      replace q542 := eq_true q542
                      refine start_ (n := 18) (S := fun w' => w'.cell? (ad538.add (x7_1).toNat) = some (.slice (some ad540) (rd_L2 t532 x7_1).length c539_0) ∧ w'.cell? (ad540.add (x9_2).toNat) = some (.int .i64 (rd (rd_L2 t532 x7_1) x9_2)) ∧ w'.cell? (ad538.add (x7_1).toNat) = some (.slice (some ad540) (rd_L2 t532 x7_1).length c539_0) ∧ w'.cell? (ad540.add (x9_2).toNat) = some (.int .i64 (rd (rd_L2 t532 x7_1) x9_2))) (ds := [16]) #[false, false, false, false, false, false, false, false, false, false, false, false, false, false, false, false, false, false] (by kernel_rfl) rfl rfl ⟨hx539_0, hx540_0, hx541_0, hx542_0⟩ (fun hHeld => ?_); refine with_tabW ashlarlaw08_PropDouble.tab11 ashlarlaw08_PropDouble.bits11 (fun HT_ HW_ => ?_)
                      generalize wr.drew = w14 at HO_0 HO_1 HO_6 HO_8 HL538_0 HR538_0 HB HL539_0 HL541_0 HR539_0 HR541_0 hx539_0 hx540_0 hx541_0 hx542_0 hHeld ⊢
                      refine pure_ (i := 0) (N := some 36) (v := ?_) (a' := ?_) #[true, false, false, false, false, false, false, false, false, false, false, false, false, false, false, false, false, false] rfl rfl (any_of HT_.out (by kernel_rfl)) (fun _ _ _ h => h) (Or.inl ⟨by rfl, ?_⟩) ?_ ?_
                      rotate_left
                      · intro w'
                        go_simp
                        with_reducible rfl
                      rotate_left
                      · simp only [Act.put, List.setIfInBounds_toArray, List.set_cons_zero, List.set_cons_succ, i64_w, i32_w]
                        rfl
                      refine pure_ (i := 1) (N := some 37) (v := ?_) (a' := ?_) #[true, true, false, false, false, false, false, false, false, false, false, false, false, false, false, false, false, false] rfl rfl (any_of HT_.out (by kernel_rfl)) (fun _ _ _ h => h) (Or.inl ⟨by rfl, ?_⟩) ?_ ?_
                      rotate_left
                      · intro w'
                        go_simp
                        with_reducible rfl
                      rotate_left
                      · simp only [Act.put, List.setIfInBounds_toArray, List.set_cons_zero, List.set_cons_succ, i64_w, i32_w]
                        rfl
                      refine pure_ (i := 2) (N := some 38) (v := ?_) (a' := ?_) #[true, true, true, false, false, false, false, false, false, false, false, false, false, false, false, false, false, false] rfl rfl (any_of HT_.out (by kernel_rfl)) (fun _ _ _ h => h) (Or.inl ⟨by rfl, ?_⟩) ?_ ?_
                      rotate_left
                      · intro w'
                        go_simp
                        with_reducible rfl
                      rotate_left
                      · simp only [Act.put, List.setIfInBounds_toArray, List.set_cons_zero, List.set_cons_succ, i64_w, i32_w]
                        rfl
                      refine pure_ (i := 3) (N := some 39) (v := ?_) (a' := ?_) #[true, true, true, true, false, false, false, false, false, false, false, false, false, false, false, false, false, false] rfl rfl (any_of HT_.out (by kernel_rfl)) (fun _ _ _ h => h) (Or.inl ⟨by rfl, ?_⟩) ?_ ?_
                      rotate_left
                      · intro w'
                        go_simp
                        with_reducible rfl
                      rotate_left
                      · simp only [Act.put, List.setIfInBounds_toArray, List.set_cons_zero, List.set_cons_succ, i64_w, i32_w]
                        rfl
                      refine pure_ (i := 5) (N := some 41) (v := ?_) (a' := ?_) #[true, true, true, true, false, true, false, false, false, false, false, false, false, false, false, false, false, false] rfl rfl (any_of HT_.out (by kernel_rfl)) (fun _ _ _ h => h) (Or.inl ⟨by rfl, ?_⟩) ?_ ?_
                      rotate_left
                      · intro w'
                        go_simp
                        with_reducible rfl
                      rotate_left
                      · simp only [Act.put, List.setIfInBounds_toArray, List.set_cons_zero, List.set_cons_succ, i64_w, i32_w]
                        rfl
                      refine pure_ (i := 8) (N := some 44) (v := ?_) (a' := ?_) #[true, true, true, true, false, true, false, false, true, false, false, false, false, false, false, false, false, false] rfl rfl (any_of HT_.out (by kernel_rfl)) (fun _ _ _ h => h) (Or.inl ⟨by rfl, ?_⟩) ?_ ?_
                      rotate_left
                      · intro w'
                        go_simp
                        with_reducible rfl
                      rotate_left
                      · simp only [Act.put, List.setIfInBounds_toArray, List.set_cons_zero, List.set_cons_succ, i64_w, i32_w]
                        rfl
                      refine pure_ (i := 9) (N := some 45) (v := ?_) (a' := ?_) #[true, true, true, true, false, true, false, false, true, true, false, false, false, false, false, false, false, false] rfl rfl (any_of HT_.out (by kernel_rfl)) (fun _ _ _ h => h) (Or.inl ⟨by rfl, ?_⟩) ?_ ?_
                      rotate_left
                      · intro w'
                        go_simp
                        with_reducible rfl
                      rotate_left
                      · simp only [Act.put, List.setIfInBounds_toArray, List.set_cons_zero, List.set_cons_succ, i64_w, i32_w]
                        rfl
                      refine pure_ (i := 10) (N := some 46) (v := ?_) (a' := ?_) #[true, true, true, true, false, true, false, false, true, true, true, false, false, false, false, false, false, false] rfl rfl (any_of HT_.out (by kernel_rfl)) (fun _ _ _ h => h) (Or.inl ⟨by rfl, ?_⟩) ?_ ?_
                      rotate_left
                      · intro w'
                        go_simp
                        with_reducible rfl
                      rotate_left
                      · simp only [Act.put, List.setIfInBounds_toArray, List.set_cons_zero, List.set_cons_succ, i64_w, i32_w]
                        rfl
                      refine pure_ (i := 12) (N := some 48) (v := ?_) (a' := ?_) #[true, true, true, true, false, true, false, false, true, true, true, false, true, false, false, false, false, false] rfl rfl (any_of HT_.out (by kernel_rfl)) (fun _ _ _ h => h) (Or.inl ⟨by rfl, ?_⟩) ?_ ?_
                      rotate_left
                      · intro w'
                        go_simp
                        with_reducible rfl
                      rotate_left
                      · simp only [Act.put, List.setIfInBounds_toArray, List.set_cons_zero, List.set_cons_succ, i64_w, i32_w]
                        rfl
                      refine take_ (i := 4) (N := some 40) (v := ?_) (a' := ?_) #[true, true, true, true, true, true, false, false, true, true, true, false, true, false, false, false, false, false] rfl rfl (take_ofW HT_.out HW_.out (by kernel_rfl)) (fun _ _ _ h => h) (Or.inl ⟨by rfl, ?_⟩) hHeld ?_ ?_
                      rotate_left
                      · rintro w' ⟨s0, s1, s2, s3⟩
                        go_simp
                        with_reducible rfl
                      rotate_left
                      · simp only [Act.put, List.setIfInBounds_toArray, List.set_cons_zero, List.set_cons_succ, i64_w, i32_w]
                        rfl
                      refine pure_ (i := 6) (N := some 42) (v := ?_) (a' := ?_) #[true, true, true, true, true, true, true, false, true, true, true, false, true, false, false, false, false, false] rfl rfl (any_of HT_.out (by kernel_rfl)) (fun _ _ _ h => h) (Or.inl ⟨by rfl, ?_⟩) ?_ ?_
                      rotate_left
                      · intro w'
                        go_simp
                        with_reducible rfl
                      rotate_left
                      · simp only [Act.put, List.setIfInBounds_toArray, List.set_cons_zero, List.set_cons_succ, i64_w, i32_w]
                        rfl
                      refine take_ (i := 7) (N := some 43) (v := ?_) (a' := ?_) #[true, true, true, true, true, true, true, true, true, true, true, false, true, false, false, false, false, false] rfl rfl (take_ofW HT_.out HW_.out (by kernel_rfl)) (fun _ _ _ h => h) (Or.inl ⟨by rfl, ?_⟩) hHeld ?_ ?_
                      rotate_left
                      · rintro w' ⟨s0, s1, s2, s3⟩
                        go_simp
                        with_reducible rfl
                      rotate_left
                      · simp only [Act.put, List.setIfInBounds_toArray, List.set_cons_zero, List.set_cons_succ, i64_w, i32_w]
                        rfl
                      refine take_ (i := 11) (N := some 47) (v := ?_) (a' := ?_) #[true, true, true, true, true, true, true, true, true, true, true, true, true, false, false, false, false, false] rfl rfl (take_ofW HT_.out HW_.out (by kernel_rfl)) (fun _ _ _ h => h) (Or.inl ⟨by rfl, ?_⟩) hHeld ?_ ?_
                      rotate_left
                      · rintro w' ⟨s0, s1, s2, s3⟩
                        go_simp
                        with_reducible rfl
                      rotate_left
                      · simp only [Act.put, List.setIfInBounds_toArray, List.set_cons_zero, List.set_cons_succ, i64_w, i32_w]
                        rfl
                      refine pure_ (i := 13) (N := some 49) (v := ?_) (a' := ?_) #[true, true, true, true, true, true, true, true, true, true, true, true, true, true, false, false, false, false] rfl rfl (any_of HT_.out (by kernel_rfl)) (fun _ _ _ h => h) (Or.inl ⟨by rfl, ?_⟩) ?_ ?_
                      rotate_left
                      · intro w'
                        go_simp
                        with_reducible rfl
                      rotate_left
                      · simp only [Act.put, List.setIfInBounds_toArray, List.set_cons_zero, List.set_cons_succ, i64_w, i32_w]
                        rfl
                      refine take_ (i := 14) (N := some 50) (v := ?_) (a' := ?_) #[true, true, true, true, true, true, true, true, true, true, true, true, true, true, true, false, false, false] rfl rfl (take_ofW HT_.out HW_.out (by kernel_rfl)) (fun _ _ _ h => h) (Or.inl ⟨by rfl, ?_⟩) hHeld ?_ ?_
                      rotate_left
                      · rintro w' ⟨s0, s1, s2, s3⟩
                        go_simp
                        with_reducible rfl
                      rotate_left
                      · simp only [Act.put, List.setIfInBounds_toArray, List.set_cons_zero, List.set_cons_succ, i64_w, i32_w]
                        rfl
                      refine one_ (i := 15) (N := some 51) #[true, true, true, true, true, true, true, true, true, true, true, true, true, true, true, true, false, false] rfl rfl (one_of HT_.out (by kernel_rfl)) (by decide) (fun K hK => ?_)
                      refine Kd.R_lit_step (Kd.int .i64) _ 3 ?hg (N := 51) ?hd (xs := ([rd (rd_L2 t532 x7_1) x9_2, rd (rd_L2 t532 x7_1) x9_2] : List Int)) (inner := [.int .i64 (rd (rd_L2 t532 x7_1) x9_2), .int .i64 (rd (rd_L2 t532 x7_1) x9_2)]) (ok := fun _ => True) (okp := fun _ => True) ?hr ?hp (fun _ hk => hk) trivial (Below.refl _ _) (Nat.le_refl _) (by simp) ?_; (case hd => rfl); (case hg => rfl); (case hr => first | (go_simp; done) | (go_simp; rfl)); (case hp => exact (Reps.one (show Kd.M (Kd.int .i64) _ _ _ (rd (rd_L2 t532 x7_1) x9_2) [.int .i64 (rd (rd_L2 t532 x7_1) x9_2)] from rfl) (Reps.one (show Kd.M (Kd.int .i64) _ _ _ (rd (rd_L2 t532 x7_1) x9_2) [.int .i64 (rd (rd_L2 t532 x7_1) x9_2)] from rfl) (Reps.none _ _))))
                      intro v544 w15 ho16 hb hg_ hnew_
                      have HS0_ := (hb.cell (World.block_lt_of_cell? _ _ (hHeld.1))).trans (hHeld.1)
                      have HS1_ := (hb.cell (World.block_lt_of_cell? _ _ (hHeld.2.1))).trans (hHeld.2.1)
                      have HS2_ := (hb.cell (World.block_lt_of_cell? _ _ (hHeld.2.2.1))).trans (hHeld.2.2.1)
                      have HS3_ := (hb.cell (World.block_lt_of_cell? _ _ (hHeld.2.2.2))).trans (hHeld.2.2.2)
                      clear hg_ hnew_
                      (first | rw [← Ny543.out] at ho16 | (simp only [Int.reduceToNat] at ho16; rw [← Ny543.out] at ho16))
                      have n0_ := Aside0.mk (Kd.N_elder' (by (with_reducible repeat (first | apply Kd.N_alloc | apply Kd.N_drewN | apply Kd.N_drew)); exact HO_0.out) (Kd.R_base ho16) hb)
                      have n1_ := Aside0.mk (Kd.R_below (by (with_reducible repeat (first | apply Kd.R_alloc | apply Kd.R_drewN | apply Kd.R_drew)); exact HO_1.out) hb)
                      have n2_ := Aside0.mk (Kd.N_elder' (by (with_reducible repeat (first | apply Kd.N_alloc | apply Kd.N_drewN | apply Kd.N_drew)); exact HO_6.out) (Kd.R_base ho16) hb)
                      have n3_ := Aside0.mk (Kd.R_elder' (by (with_reducible repeat (first | apply Kd.R_alloc | apply Kd.R_drewN | apply Kd.R_drew)); exact HO_8.out) (Kd.R_base ho16) hb)
                      have n4_ := Aside0.mk (Kd.V_elder' (by (with_reducible repeat (first | apply Kd.V_alloc | apply Kd.V_drewN | apply Kd.V_drew)); exact HL538_0.out) (Kd.R_base ho16) hb)
                      have n5_ := Aside0.mk (Kd.V_elder' (by (with_reducible repeat (first | apply Kd.V_alloc | apply Kd.V_drewN | apply Kd.V_drew)); exact HL539_0.out) (Kd.R_base ho16) hb)
                      have n6_ := Aside0.mk (Kd.V_elder' (by (with_reducible repeat (first | apply Kd.V_alloc | apply Kd.V_drewN | apply Kd.V_drew)); exact HL541_0.out) (Kd.R_base ho16) hb)
                      have n7_ := Aside0.mk (Kd.R_lower (Kd.R_new' ho16 (Kd.R_lt (by (with_reducible repeat (first | apply Kd.R_alloc | apply Kd.R_drewN | apply Kd.R_drew)); exact HO_8.out))) (below_size (by repeat (first | (with_reducible first | exact HB.out | apply below_alloc | apply pw_below_drewN | apply below_drew1) | exact HB.out))))
                      have n8_ := Aside0.mk (Kd.C_below (by repeat (first | (with_reducible exact HR538_0.out) | (with_reducible refine Kd.C_alloc ?_ _) | (with_reducible refine Kd.C_drewN ?_ _) | (with_reducible refine Kd.C_drew ?_) | exact HR538_0.out)) hb)
                      have n9_ := Aside0.mk (Kd.C_below (by repeat (first | (with_reducible exact HR539_0.out) | (with_reducible refine Kd.C_alloc ?_ _) | (with_reducible refine Kd.C_drewN ?_ _) | (with_reducible refine Kd.C_drew ?_) | exact HR539_0.out)) hb)
                      have n10_ := Aside0.mk (Kd.C_below (by repeat (first | (with_reducible exact HR541_0.out) | (with_reducible refine Kd.C_alloc ?_ _) | (with_reducible refine Kd.C_drewN ?_ _) | (with_reducible refine Kd.C_drew ?_) | exact HR541_0.out)) hb)
                      have n11_ := Aside0.mk (below_step (by repeat (first | (with_reducible first | exact HB.out | apply below_alloc | apply pw_below_drewN | apply below_drew1) | exact HB.out)) hb)
                      clear HO_0
                      clear HO_1
                      clear HO_6
                      clear HO_8
                      clear HL538_0
                      clear HL539_0
                      clear HL541_0
                      clear HR538_0
                      clear HR539_0
                      clear HR541_0
                      clear HB
                      have HO_0 := n0_
                      have HO_1 := n1_
                      have HO_6 := n2_
                      have HO_8 := n3_
                      have HL538_0 := n4_
                      have HL539_0 := n5_
                      have HL541_0 := n6_
                      have HO545 := n7_
                      have HR538_0 := n8_
                      have HR539_0 := n9_
                      have HR541_0 := n10_
                      have HB := n11_
                      clear n0_ n1_ n2_ n3_ n4_ n5_ n6_ n7_ n8_ n9_ n10_ n11_
                      clear hb ho16
                      obtain ⟨Ao18, co18, eo18⟩ := Kd.R_slice HO545.out
                      (first | subst eo18 | (injection eo18 with f1_ f2_ f3_; have f4_ := f1_.symm; have f5_ := f3_.symm; clear f1_ f2_ f3_; subst f4_; subst f5_))
                      refine hK.out _ _ ⟨HS0_, HS1_, HS2_, HS3_⟩ (fun hHeld => ?_)
                      clear hK K
                      refine norm_ (a' := ?_) ?_ ?_
                      rotate_left
                      · show Act.put _ (some 51) _ = _
                        simp only [Act.put, List.setIfInBounds_toArray, List.set_cons_zero, List.set_cons_succ, i64_w, i32_w]
                        rfl
                      refine last_ (i := 16) (N := some 52) #[true, true, true, true, true, true, true, true, true, true, true, true, true, true, true, true, true, false] rfl rfl (one_of HT_.out (by kernel_rfl)) (by decide) (fun K hK => ?_)
                      refine Kd.R_append_rows_step (Kd.int .i64) (w0 := w) w.heap.size (by rfl) (.tmp 36) (.tmp 51) 35 3 (.int .i64 0) 8 rfl Try.underlying35 info3 rfl (by decide) (by omega) u8 x8_2 y543 _ _ _ (fun k_ => some k_ ≠ (.slice Ao18 y543.length co18 : Value).ownBlock) (fun _ => False) rfl rfl ?aO ?aR (fun _ _ h => h) (fun _ h => h.elim) ?aF ?aB ?aS ?aL ?_
                      (case aR => repeat (first | exact (Kd.R_reads' HO545.out).2.2 | (with_reducible refine Kd.C_alloc ?_ _) | (with_reducible refine Kd.C_drewN ?_ _) | (with_reducible refine Kd.C_drew ?_)))
                      (case aB => exact (by repeat (first | (with_reducible first | exact HB.out | apply below_alloc | apply pw_below_drewN | apply below_drew1) | exact HB.out)))
                      (case aF => exact (fun k_ hk => Kd.fresh' (Kd.R_lt (by (with_reducible repeat (first | apply Kd.R_alloc | apply Kd.R_drewN | apply Kd.R_drew)); exact HO545.out)) k_ hk))
                      (case aO => exact (by (with_reducible repeat (first | apply Kd.R_alloc | apply Kd.R_drewN | apply Kd.R_drew)); exact Kd.R_mono HO_8.out (fun _ hk => hk.2)))
                      (case aS => exact (below_size (by repeat (first | (with_reducible first | exact HB.out | apply below_alloc | apply pw_below_drewN | apply below_drew1) | exact HB.out))))
                      (case aL => have := LMc13.out; omega)
                      intro v547 w17 ho hb hg hat
                      rw [← Ny546.out] at ho
                      have n0_ := Aside0.mk (Kd.N_afterv (ok := (fun k_ => some k_ ≠ (v536 : Value).ownBlock ∧ some k_ ≠ (u6 : Value).ownBlock ∧ some k_ ≠ (.slice Ao18 y543.length co18 : Value).ownBlock)) (by (with_reducible repeat (first | apply Kd.N_alloc | apply Kd.N_drewN | apply Kd.N_drew)); exact Kd.N_mono HO_0.out (fun _ hk => ⟨⟨hk.1.1, ⟨hk.1.2.1, hk.2⟩⟩, hk.1.2.2⟩)) hg hat)
                      have n1_ := Aside0.mk (Kd.R_over' (by (with_reducible repeat (first | apply Kd.R_alloc | apply Kd.R_drewN | apply Kd.R_drew)); exact HO_1.out) (Kd.R_typed (by (with_reducible repeat (first | apply Kd.R_alloc | apply Kd.R_drewN | apply Kd.R_drew)); exact HO_8.out)) (by decide) hg)
                      have n2_ := Aside0.mk (Kd.N_afterv (ok := (fun k_ => some k_ ≠ (.slice (some ad538) t532.length co8 : Value).ownBlock ∧ some k_ ≠ (v536 : Value).ownBlock ∧ some k_ ≠ (.slice Ao18 y543.length co18 : Value).ownBlock)) (by (with_reducible repeat (first | apply Kd.N_alloc | apply Kd.N_drewN | apply Kd.N_drew)); exact Kd.N_mono HO_6.out (fun _ hk => ⟨⟨hk.1.1, ⟨hk.1.2.1, hk.2⟩⟩, hk.1.2.2⟩)) hg hat)
                      have n3_ := Aside0.mk (Kd.V_afterv (ok := (fun k_ => some k_ ≠ (.slice (some ad538) t532.length co8 : Value).ownBlock ∧ some k_ ≠ (v536 : Value).ownBlock ∧ some k_ ≠ (u6 : Value).ownBlock ∧ some k_ ≠ (.slice Ao18 y543.length co18 : Value).ownBlock)) (by (with_reducible repeat (first | apply Kd.V_alloc | apply Kd.V_drewN | apply Kd.V_drew)); exact Kd.V_mono HL538_0.out (fun _ hk => ⟨⟨hk.1.2, ⟨hk.1.1.1, ⟨hk.1.1.2.1, hk.2⟩⟩⟩, hk.1.1.2.2⟩)) hg hat)
                      have n4_ := Aside0.mk (Kd.V_afterv (ok := (fun k_ => some k_ ≠ (.slice (some ad538) t532.length co8 : Value).ownBlock ∧ some k_ ≠ (v536 : Value).ownBlock ∧ some k_ ≠ (u6 : Value).ownBlock ∧ some k_ ≠ (.slice Ao18 y543.length co18 : Value).ownBlock)) (by (with_reducible repeat (first | apply Kd.V_alloc | apply Kd.V_drewN | apply Kd.V_drew)); exact Kd.V_mono HL539_0.out (fun _ hk => ⟨⟨hk.1.2, ⟨hk.1.1.1, ⟨hk.1.1.2.1, hk.2⟩⟩⟩, hk.1.1.2.2⟩)) hg hat)
                      have n5_ := Aside0.mk (Kd.V_afterv (ok := (fun k_ => some k_ ≠ (.slice (some ad538) t532.length co8 : Value).ownBlock ∧ some k_ ≠ (v536 : Value).ownBlock ∧ some k_ ≠ (u6 : Value).ownBlock ∧ some k_ ≠ (.slice Ao18 y543.length co18 : Value).ownBlock)) (by (with_reducible repeat (first | apply Kd.V_alloc | apply Kd.V_drewN | apply Kd.V_drew)); exact Kd.V_mono HL541_0.out (fun _ hk => ⟨⟨hk.1.2, ⟨hk.1.1.1, ⟨hk.1.1.2.1, hk.2⟩⟩⟩, hk.1.1.2.2⟩)) hg hat)
                      have n6_ := Aside0.mk (Kd.R_after (ok := (fun _ => True)) (by (with_reducible repeat (first | apply Kd.R_alloc | apply Kd.R_drewN | apply Kd.R_drew)); exact HO545.out) hg hat)
                      have n7_ := Aside0.mk (hb)
                      have n8_ := Aside0.mk (ho)
                      clear HO_0
                      clear HO_1
                      clear HO_6
                      clear HL538_0
                      clear HL539_0
                      clear HL541_0
                      clear HO545
                      clear HB
                      clear HO_8
                      have HO_0 := n0_
                      have HO_1 := n1_
                      have HO_6 := n2_
                      have HL538_0 := n3_
                      have HL539_0 := n4_
                      have HL541_0 := n5_
                      have HO545 := n6_
                      have HB := n7_
                      have HO548 := n8_
                      clear n0_ n1_ n2_ n3_ n4_ n5_ n6_ n7_ n8_
                      clear ho hb hg hat
                      refine hK.out _ _ ?_
                      clear hK K
                      refine norm_ (a' := ?_) ?_ ?_
                      rotate_left
                      · show Act.put _ (some 52) _ = _
                        simp only [Act.put, List.setIfInBounds_toArray, List.set_cons_zero, List.set_cons_succ, i64_w, i32_w]
                        rfl
                      refine pure_ (i := 17) (N := some 8) (v := ?_) (a' := ?_) #[true, true, true, true, true, true, true, true, true, true, true, true, true, true, true, true, true, true] rfl rfl (any_of HT_.out (by kernel_rfl)) (fun _ _ _ h => h) (Or.inl ⟨by rfl, ?_⟩) ?_ ?_
                      rotate_left
                      · intro w'
                        go_simp
                        with_reducible rfl
                      rotate_left
                      · simp only [Act.put, List.setIfInBounds_toArray, List.set_cons_zero, List.set_cons_succ, i64_w, i32_w]
                        rfl
                      refine done_ (done_of HT_.out (by kernel_rfl)) ?_
                      try go_wp2
                      go_roundg k2
                      case measure => have := HK1.out; have := HK2.out; omega
                      case rel => exact ⟨(y546), (wrap64 (x9_2 + 1)), (by first | rfl | (simp; done) | (simp [*]; done)), H', ⟨by have := HK1.out; have := HK2.out; omega⟩, ⟨by (with_reducible repeat (first | apply Kd.N_alloc | apply Kd.N_drewN | apply Kd.N_drew)); exact Kd.N_mono HO_0.out (fun _ hk => ⟨hk.1.1, ⟨hk.1.2.1, hk.2⟩⟩)⟩, ⟨by (with_reducible repeat (first | apply Kd.R_alloc | apply Kd.R_drewN | apply Kd.R_drew)); exact HO_1.out⟩, ⟨by (with_reducible repeat (first | apply Kd.N_alloc | apply Kd.N_drewN | apply Kd.N_drew)); exact Kd.N_mono HO_6.out (fun _ hk => ⟨hk.1.1, ⟨hk.1.2.1, hk.2⟩⟩)⟩, ⟨by (with_reducible repeat (first | apply Kd.R_alloc | apply Kd.R_drewN | apply Kd.R_drew)); exact Kd.R_mono HO548.out (fun _ hk => trivial)⟩, ⟨by repeat (first | (with_reducible first | exact HB.out | apply below_alloc | apply pw_below_drewN | apply below_drew1) | exact HB.out)⟩⟩
                    · rw [if_neg c13] at H
                      exact absurd H (by simp)
                  · rw [if_neg c12] at H
                    exact absurd H (by simp)
                · rw [if_neg c11] at H
                  have c11b0 : decide (x9_2 < ((rd_L2 t532 x7_1).length : Int)) = false := decide_eq_false c11
                  clear c11
                  by_cases c19 : x6_1.length < 5864062014805
                  · rw [if_pos c19] at H
                    have LMc19 := Aside0.mk c19
                    clear c19
                    obtain ⟨y549, hy549⟩ : ∃ y_ : List (List Int), y_ = (x6_1 ++ [x8_2]) := ⟨_, rfl⟩
                    replace H : (ashlarlaw08_PropDouble.l0 k2 t532 t533 t531 y549 (wrap64 (x7_1 + 1))) = some r := by first | (rw [hy549]; with_reducible exact H) | (have H2_ := (Option.bind_some _ _).symm.trans H; rw [hy549]; with_reducible exact H2_) | (have H2_ := (Option.bind_some _ _).symm.trans H; with_reducible exact H2_) | with_reducible exact H | (rw [hy549]; exact H) | exact H
                    have Ny549 := Aside0.mk hy549
                    clear hy549
                    have H' := Aside0.mk H
                    clear H
                    have p538 : 0 ≤ (x7_1 : Int) := of_decide_eq_true (by first | (with_reducible assumption) | assumption)
                    have q538 : x7_1 < (t532.length : Int) := of_decide_eq_true (by first | (with_reducible assumption) | assumption)
                    obtain ⟨ad538, A538_0, c538_0, e538, hx538_0, hl538_0, hi538_0⟩ := at_L2 (Kd.N_reads' HO_0.out).2.2 x7_1 p538 q538
                    cases e538
                    obtain ⟨ce538, hce538, hMe538, hcc538⟩ := Kd.N_get HO_0.out [] x7_1 p538 (by first | exact q538 | exact of_decide_eq_true (by first | (with_reducible assumption) | assumption) | (have e_ := (Kd.N_reads' HO_0.out).1; omega))
                    obtain ⟨ua538_0, uc538_0, rfl, ul538_0, ge538_0⟩ := Kd.FK_slice_open hMe538
                    have hv538_0 := hcc538 0 _ rfl
                    rw [Nat.add_zero, show ((Kd.slice 3 (Kd.int .i64))).sz = 1 from rfl, Nat.mul_one] at hv538_0
                    replace hv538_0 := Option.some.inj (hv538_0.symm.trans hx538_0)
                    injection hv538_0 with hva_ hvn_ hvc_
                    rw [hva_] at ge538_0
                    rw [hvc_] at ul538_0
                    have HL538_0 := Aside0.mk (show Kd.V (Kd.int .i64) 3 _ w.heap.size _ _ (rd_L2 t532 x7_1) from Kd.V_mk ul538_0 ge538_0)
                    clear hva_ hvn_ hvc_ ge538_0 ul538_0
                    clear hcc538 hce538
                    have HR538_0 := Aside0.mk hi538_0
                    have HC538_0 := Aside0.mk hl538_0
                    clear hi538_0 hl538_0
                    replace p538 := eq_true p538
                    replace q538 := eq_true q538
                    obtain ⟨Ao21, co21, eo21⟩ := Kd.R_slice HO_8.out
                    subst eo21
                    go_wp2_with (first | ((with_reducible refine gate_builtin (b := .append) (xs := #[.tmp 53, .tmp 55]) rfl ?_); at_builtin; refine Kd.N_append (Kd.slice 3 (Kd.int .i64)) (w0 := w) w.heap.size rfl (.tmp 53) (.tmp 55) 22 35 (.slice none 0 0) 24 rfl Try.underlying22 info35 rfl (by decide) (by omega) u6 x6_1 x8_2 [.slice Ao21 x8_2.length co21] (fun k_ => some k_ ≠ (.slice (some ad538) t532.length co8 : Value).ownBlock ∧ some k_ ≠ (v536 : Value).ownBlock) (fun k_ => ((fun k_ => some k_ ≠ (.slice (some ad538) t532.length co8 : Value).ownBlock ∧ some k_ ≠ (v536 : Value).ownBlock)) k_ ∧ some k_ ≠ (u6 : Value).ownBlock) rfl rfl ?aP (fun _ hk => hk) ?aF ?aO ?aB ?aS ?aL ?_; (case aP => exact (Kd.FK_slice_mk (Kd.R_reads' (Kd.R_mono (ok' := (fun k_ => ((fun k_ => some k_ ≠ (.slice (some ad538) t532.length co8 : Value).ownBlock ∧ some k_ ≠ (v536 : Value).ownBlock)) k_ ∧ some k_ ≠ (u6 : Value).ownBlock)) (Kd.R_apart' (Kd.R_apart' (Kd.R_apart' (HO_8.out) (Kd.N_typed HO_0.out) (by decide)) (Kd.R_typed HO_1.out) (by decide)) (Kd.N_typed HO_6.out) (by decide)) (fun k_ hk => ⟨⟨hk.1.1.2, hk.1.2⟩, hk.2⟩))).2.1 (Kd.R_F (Kd.R_mono (ok' := (fun k_ => ((fun k_ => some k_ ≠ (.slice (some ad538) t532.length co8 : Value).ownBlock ∧ some k_ ≠ (v536 : Value).ownBlock)) k_ ∧ some k_ ≠ (u6 : Value).ownBlock)) (Kd.R_apart' (Kd.R_apart' (Kd.R_apart' (HO_8.out) (Kd.N_typed HO_0.out) (by decide)) (Kd.R_typed HO_1.out) (by decide)) (Kd.N_typed HO_6.out) (by decide)) (fun k_ hk => ⟨⟨hk.1.1.2, hk.1.2⟩, hk.2⟩))))); (case aB => exact (by repeat (first | (with_reducible first | exact HB.out | apply below_alloc | apply pw_below_drewN | apply below_drew1) | exact HB.out))); (case aF => exact (fun k_ hk => ⟨Kd.fresh' (Kd.N_lt (by (with_reducible repeat (first | apply Kd.N_alloc | apply Kd.N_drewN | apply Kd.N_drew)); exact HO_0.out)) k_ hk, Kd.fresh' (Kd.R_lt (by (with_reducible repeat (first | apply Kd.R_alloc | apply Kd.R_drewN | apply Kd.R_drew)); exact HO_1.out)) k_ hk⟩)); (case aO => exact (by (with_reducible repeat (first | apply Kd.N_alloc | apply Kd.N_drewN | apply Kd.N_drew)); exact Kd.N_mono HO_6.out (fun _ hk => ⟨hk.1, hk.2.1⟩))); (case aS => exact (below_size (by repeat (first | (with_reducible first | exact HB.out | apply below_alloc | apply pw_below_drewN | apply below_drew1) | exact HB.out)))); (case aL => have := LMc19.out; omega); intro v550 w20 ho hb hg hat; rw [← Ny549.out] at ho; have n0_ := Aside0.mk (Kd.N_afterv (ok := (fun k_ => some k_ ≠ (v536 : Value).ownBlock ∧ some k_ ≠ (.slice Ao21 x8_2.length co21 : Value).ownBlock)) (by (with_reducible repeat (first | apply Kd.N_alloc | apply Kd.N_drewN | apply Kd.N_drew)); exact Kd.N_mono HO_0.out (fun _ hk => ⟨⟨hk.1, hk.2.2⟩, hk.2.1⟩)) hg hat); have n1_ := Aside0.mk (Kd.R_over' (by (with_reducible repeat (first | apply Kd.R_alloc | apply Kd.R_drewN | apply Kd.R_drew)); exact HO_1.out) (Kd.N_typed (by (with_reducible repeat (first | apply Kd.N_alloc | apply Kd.N_drewN | apply Kd.N_drew)); exact HO_6.out)) (by decide) hg); have n2_ := Aside0.mk (Kd.V_afterv (ok := (fun k_ => some k_ ≠ (.slice (some ad538) t532.length co8 : Value).ownBlock ∧ some k_ ≠ (v536 : Value).ownBlock ∧ some k_ ≠ (.slice Ao21 x8_2.length co21 : Value).ownBlock)) (by (with_reducible repeat (first | apply Kd.V_alloc | apply Kd.V_drewN | apply Kd.V_drew)); exact Kd.V_mono HL538_0.out (fun _ hk => ⟨⟨hk.2, ⟨hk.1.1, hk.1.2.2⟩⟩, hk.1.2.1⟩)) hg hat); have n3_ := Aside0.mk (hb); have n4_ := Aside0.mk (ho); clear HO_0; clear HO_1; clear HL538_0; clear HB; clear HO_6; clear HO_8; have HO_0 := n0_; have HO_1 := n1_; have HL538_0 := n2_; have HB := n3_; have HO551 := n4_; clear n0_ n1_ n2_ n3_ n4_; clear ho hb hg hat))
                    go_roundg k2
                    case measure => have := HK1.out; have := HK2.out; omega
                    case rel => exact ⟨(y549), (wrap64 (x7_1 + 1)), (by first | rfl | (simp; done) | (simp [*]; done)), H', ⟨by have := HK1.out; have := HK2.out; omega⟩, ⟨by (with_reducible repeat (first | apply Kd.N_alloc | apply Kd.N_drewN | apply Kd.N_drew)); exact Kd.N_mono HO_0.out (fun _ hk => ⟨hk.1.1, hk.2⟩)⟩, ⟨by (with_reducible repeat (first | apply Kd.R_alloc | apply Kd.R_drewN | apply Kd.R_drew)); exact HO_1.out⟩, ⟨by (with_reducible repeat (first | apply Kd.N_alloc | apply Kd.N_drewN | apply Kd.N_drew)); exact HO551.out⟩, ⟨by repeat (first | (with_reducible first | exact HB.out | apply below_alloc | apply pw_below_drewN | apply below_drew1) | exact HB.out)⟩⟩
                  · rw [if_neg c19] at H
                    exact absurd H (by simp)
              · rw [if_neg c10] at H
                exact absurd H (by simp)
            · rw [if_neg c9] at H
              exact absurd H (by simp)
      · rw [if_neg c7] at H
        have c7b0 : decide (x7_1 < (t532.length : Int)) = false := decide_eq_false c7
        clear c7
        by_cases c22 : x6_1.length + t532.length < 5864062014805
        · rw [if_pos c22] at H
          have LMc22 := Aside0.mk c22
          clear c22
          obtain ⟨y552, hy552⟩ : ∃ y_ : List (List Int), y_ = (x6_1 ++ t532) := ⟨_, rfl⟩
          replace H : ((prop_Unit.f k1 t532 t533).bind fun bt555 => ((prop_Unit.f k1 y552 t533).bind fun bt559 => (if t531 = true then ((ashlarlaw08_same.f k1 bt555.1 bt559.1).bind fun t563 => (if t563 = true then (if (bt555.2 == bt559.2) = true then ((prop_Eval.f k1 t532 t533).bind fun t564 => ((prop_Eval.f k1 y552 t533).bind fun t565 => (some (t564 == t565)))) else (some false)) else (some false))) else (some false)))) = some r := by first | (rw [hy552]; with_reducible exact H) | (have H2_ := (Option.bind_some _ _).symm.trans H; rw [hy552]; with_reducible exact H2_) | (have H2_ := (Option.bind_some _ _).symm.trans H; with_reducible exact H2_) | with_reducible exact H | (rw [hy552]; exact H) | exact H
          have Ny552 := Aside0.mk hy552
          clear hy552
          replace H := Option.bind_eq_some_iff.mp H
          obtain ⟨⟨t555, t556⟩, A230, H⟩ := H
          replace H : ((prop_Unit.f k1 y552 t533).bind fun bt559 => (if t531 = true then ((ashlarlaw08_same.f k1 t555 bt559.1).bind fun t563 => (if t563 = true then (if (t556 == bt559.2) = true then ((prop_Eval.f k1 t532 t533).bind fun t564 => ((prop_Eval.f k1 y552 t533).bind fun t565 => (some (t564 == t565)))) else (some false)) else (some false))) else (some false))) = some r := H
          have A23 := Aside0.mk A230
          clear A230
          replace H := Option.bind_eq_some_iff.mp H
          obtain ⟨⟨t559, t560⟩, A240, H⟩ := H
          replace H : (if t531 = true then ((ashlarlaw08_same.f k1 t555 t559).bind fun t563 => (if t563 = true then (if (t556 == t560) = true then ((prop_Eval.f k1 t532 t533).bind fun t564 => ((prop_Eval.f k1 y552 t533).bind fun t565 => (some (t564 == t565)))) else (some false)) else (some false))) else (some false)) = some r := H
          have A24 := Aside0.mk A240
          clear A240
          by_cases c25 : t531 = true
          · subst c25
            have H1 : ((ashlarlaw08_same.f k1 t555 t559).bind fun t563 => (if t563 = true then (if (t556 == t560) = true then ((prop_Eval.f k1 t532 t533).bind fun t564 => ((prop_Eval.f k1 y552 t533).bind fun t565 => (some (t564 == t565)))) else (some false)) else (some false))) = some r := by rw [if_pos rfl] at H; exact H
            clear H
            have H := H1
            clear H1
            replace H := Option.bind_eq_some_iff.mp H
            obtain ⟨t563, A260, H⟩ := H
            replace H : (if t563 = true then (if (t556 == t560) = true then ((prop_Eval.f k1 t532 t533).bind fun t564 => ((prop_Eval.f k1 y552 t533).bind fun t565 => (some (t564 == t565)))) else (some false)) else (some false)) = some r := H
            have A26 := Aside0.mk A260
            clear A260
            by_cases c27 : t563 = true
            · subst c27
              have H1 : (if (t556 == t560) = true then ((prop_Eval.f k1 t532 t533).bind fun t564 => ((prop_Eval.f k1 y552 t533).bind fun t565 => (some (t564 == t565)))) else (some false)) = some r := by rw [if_pos rfl] at H; exact H
              clear H
              have H := H1
              clear H1
              by_cases c28 : (t556 == t560) = true
              · rw [if_pos c28] at H
                have c28b0 : (t556 == t560) = true := c28
                (try (have c28b1 : decide (t556 = t560) = true := by simpa using c28))
                (try (have c28b2 : (t556 == t560) = true := by simpa using c28))
                clear c28
                replace H := Option.bind_eq_some_iff.mp H
                obtain ⟨t564, A290, H⟩ := H
                replace H : ((prop_Eval.f k1 y552 t533).bind fun t565 => (some (t564 == t565))) = some r := H
                have A29 := Aside0.mk A290
                clear A290
                replace H := Option.bind_eq_some_iff.mp H
                obtain ⟨t565, A300, H⟩ := H
                replace H : (some (t564 == t565)) = some r := H
                have A30 := Aside0.mk A300
                clear A300
                obtain rfl := Option.some.inj H
                obtain ⟨Ao31, co31, eo31⟩ := Kd.N_slice HO_0.out
                subst eo31
                go_wp2_with (first | ((with_reducible refine gate_builtin (b := .append) (xs := #[.tmp 57, .tmp 58]) rfl ?_); at_builtin; refine Kd.N_append_rows (Kd.slice 3 (Kd.int .i64)) (w0 := w) w.heap.size rfl (.tmp 57) (.tmp 58) 22 35 (.slice none 0 0) 24 rfl Try.underlying22 info35 rfl (by decide) (by omega) u6 x6_1 t532 _ _ _ (fun k_ => some k_ ≠ (v536 : Value).ownBlock) (fun k_ => ((fun k_ => some k_ ≠ (v536 : Value).ownBlock)) k_ ∧ some k_ ≠ (u6 : Value).ownBlock) rfl rfl ?aO ?aR (fun _ hk => hk) ?aF ?aB ?aS ?aL ?_; (case aR => exact (by skip; exact Kd.N_F (Kd.N_mono (ok' := (fun k_ => ((fun k_ => some k_ ≠ (v536 : Value).ownBlock)) k_ ∧ some k_ ≠ (u6 : Value).ownBlock)) (HO_0.out) (fun k_ hk => ⟨hk.1, hk.2⟩)))); (case aB => exact (by repeat (first | (with_reducible first | exact HB.out | apply below_alloc | apply pw_below_drewN | apply below_drew1) | exact HB.out))); (case aF => exact (fun k_ hk => Kd.fresh' (Kd.R_lt (by (with_reducible repeat (first | apply Kd.R_alloc | apply Kd.R_drewN | apply Kd.R_drew)); exact HO_1.out)) k_ hk)); (case aO => exact (by (with_reducible repeat (first | apply Kd.N_alloc | apply Kd.N_drewN | apply Kd.N_drew)); exact Kd.N_mono HO_6.out (fun _ hk => hk.2))); (case aS => exact (below_size (by repeat (first | (with_reducible first | exact HB.out | apply below_alloc | apply pw_below_drewN | apply below_drew1) | exact HB.out)))); (case aL => have := LMc22.out; omega); intro v553 w32 ho hb hg hat; rw [← Ny552.out] at ho; have n0_ := Aside0.mk (Kd.N_afterv (ok := (fun k_ => some k_ ≠ (v536 : Value).ownBlock)) (by (with_reducible repeat (first | apply Kd.N_alloc | apply Kd.N_drewN | apply Kd.N_drew)); exact HO_0.out) hg hat); have n1_ := Aside0.mk (Kd.R_over' (by (with_reducible repeat (first | apply Kd.R_alloc | apply Kd.R_drewN | apply Kd.R_drew)); exact HO_1.out) (Kd.N_typed (by (with_reducible repeat (first | apply Kd.N_alloc | apply Kd.N_drewN | apply Kd.N_drew)); exact HO_6.out)) (by decide) hg); have n2_ := Aside0.mk (hb); have n3_ := Aside0.mk (ho); clear HO_0; clear HO_1; clear HB; clear HO_6; have HO_0 := n0_; have HO_1 := n1_; have HB := n2_; have HO554 := n3_; clear n0_ n1_ n2_ n3_; clear ho hb hg hat; obtain ⟨Ao33, co33, eo33⟩ := Kd.R_slice HO_1.out; subst eo33) | ((with_reducible refine gate_callee (f := 14) rfl ?_); refine goesL_ (some 63) rfl rfl Try.func14 (by kernel_rfl) rfl #[.slice Ao31 t532.length co31, .slice Ao33 t533.length co33] rfl (by (try simp only [List.map_toArray, List.map_cons, List.map_nil]); first | done | rfl | (simp only [List.length_drop, List.length_take]; rfl)) ?_; (with_reducible refine (prop_Unit.calls k1 _ _ t532 _ _ t533 t555 t556 _ ?side1 ?side2 ?side3 ?side4 A23.out).mono ?_); (case side1 => repeat (first | exact (Kd.N_reads' HO_0.out).2.2 | (with_reducible refine Kd.C_alloc ?_ _) | (with_reducible refine Kd.C_drewN ?_ _) | (with_reducible refine Kd.C_drew ?_))); (case side2 => exact (Kd.N_reads' HO_0.out).2.1); (case side3 => repeat (first | exact (Kd.R_reads' HO_1.out).2.2 | (with_reducible refine Kd.C_alloc ?_ _) | (with_reducible refine Kd.C_drewN ?_ _) | (with_reducible refine Kd.C_drew ?_))); (case side4 => exact (Kd.R_reads' HO_1.out).2.1); rintro e w34 ⟨v557, rfl, ho0, hb⟩; refine ⟨_, rfl, ?_⟩; have n0_ := Aside0.mk (Kd.N_elder' (by (with_reducible repeat (first | apply Kd.N_alloc | apply Kd.N_drewN | apply Kd.N_drew)); exact HO_0.out) (Kd.R_base ho0) hb); have n1_ := Aside0.mk (Kd.R_elder' (by (with_reducible repeat (first | apply Kd.R_alloc | apply Kd.R_drewN | apply Kd.R_drew)); exact HO_1.out) (Kd.R_base ho0) hb); have n2_ := Aside0.mk (Kd.N_elder' (by (with_reducible repeat (first | apply Kd.N_alloc | apply Kd.N_drewN | apply Kd.N_drew)); exact HO554.out) (Kd.R_base ho0) hb); have n3_ := Aside0.mk (Kd.R_lower (Kd.R_new' ho0 (Kd.R_lt (by (with_reducible repeat (first | apply Kd.R_alloc | apply Kd.R_drewN | apply Kd.R_drew)); exact HO_1.out))) (below_size (by repeat (first | (with_reducible first | exact HB.out | apply below_alloc | apply pw_below_drewN | apply below_drew1) | exact HB.out)))); have n4_ := Aside0.mk (below_step (by repeat (first | (with_reducible first | exact HB.out | apply below_alloc | apply pw_below_drewN | apply below_drew1) | exact HB.out)) hb); clear HO_0; clear HO_1; clear HO554; clear HB; have HO_0 := n0_; have HO_1 := n1_; have HO554 := n2_; have HO558 := n3_; have HB := n4_; clear n0_ n1_ n2_ n3_ n4_; (try clear hb); (try clear hb2); (try clear hk); (try clear hi); (try clear ho0); obtain ⟨Ao35, co35, eo35⟩ := Kd.N_slice HO554.out; subst eo35) | ((with_reducible refine gate_callee (f := 14) rfl ?_); refine goesL_ (some 69) rfl rfl Try.func14 (by kernel_rfl) rfl #[.slice Ao35 y552.length co35, .slice Ao33 t533.length co33] rfl (by (try simp only [List.map_toArray, List.map_cons, List.map_nil]); first | done | rfl | (simp only [List.length_drop, List.length_take]; rfl)) ?_; (with_reducible refine (prop_Unit.calls k1 _ _ y552 _ _ t533 t559 t560 _ ?side1 ?side2 ?side3 ?side4 A24.out).mono ?_); (case side1 => repeat (first | exact (Kd.N_reads' HO554.out).2.2 | (with_reducible refine Kd.C_alloc ?_ _) | (with_reducible refine Kd.C_drewN ?_ _) | (with_reducible refine Kd.C_drew ?_))); (case side2 => exact (Kd.N_reads' HO554.out).2.1); (case side3 => repeat (first | exact (Kd.R_reads' HO_1.out).2.2 | (with_reducible refine Kd.C_alloc ?_ _) | (with_reducible refine Kd.C_drewN ?_ _) | (with_reducible refine Kd.C_drew ?_))); (case side4 => exact (Kd.R_reads' HO_1.out).2.1); rintro e w36 ⟨v561, rfl, ho0, hb⟩; refine ⟨_, rfl, ?_⟩; have n0_ := Aside0.mk (Kd.N_elder' (by (with_reducible repeat (first | apply Kd.N_alloc | apply Kd.N_drewN | apply Kd.N_drew)); exact HO_0.out) (Kd.R_base ho0) hb); have n1_ := Aside0.mk (Kd.R_elder' (by (with_reducible repeat (first | apply Kd.R_alloc | apply Kd.R_drewN | apply Kd.R_drew)); exact HO_1.out) (Kd.R_base ho0) hb); have n2_ := Aside0.mk (Kd.N_elder' (by (with_reducible repeat (first | apply Kd.N_alloc | apply Kd.N_drewN | apply Kd.N_drew)); exact HO554.out) (Kd.R_base ho0) hb); have n3_ := Aside0.mk (Kd.R_elder' (by (with_reducible repeat (first | apply Kd.R_alloc | apply Kd.R_drewN | apply Kd.R_drew)); exact HO558.out) (Kd.R_base ho0) hb); have n4_ := Aside0.mk (Kd.R_lower (Kd.R_new' (Kd.R_new' ho0 (Kd.R_lt (by (with_reducible repeat (first | apply Kd.R_alloc | apply Kd.R_drewN | apply Kd.R_drew)); exact HO_1.out))) (Kd.R_lt (by (with_reducible repeat (first | apply Kd.R_alloc | apply Kd.R_drewN | apply Kd.R_drew)); exact HO558.out))) (below_size (by repeat (first | (with_reducible first | exact HB.out | apply below_alloc | apply pw_below_drewN | apply below_drew1) | exact HB.out)))); have n5_ := Aside0.mk (below_step (by repeat (first | (with_reducible first | exact HB.out | apply below_alloc | apply pw_below_drewN | apply below_drew1) | exact HB.out)) hb); clear HO_0; clear HO_1; clear HO554; clear HO558; clear HB; have HO_0 := n0_; have HO_1 := n1_; have HO554 := n2_; have HO558 := n3_; have HO562 := n4_; have HB := n5_; clear n0_ n1_ n2_ n3_ n4_ n5_; (try clear hb); (try clear hb2); (try clear hk); (try clear hi); (try clear ho0); obtain ⟨Ao37, co37, eo37⟩ := Kd.R_slice HO558.out; subst eo37; obtain ⟨Ao38, co38, eo38⟩ := Kd.R_slice HO562.out; subst eo38) | (go_at_call 16; (with_reducible refine (ashlarlaw08_same.calls k1 _ _ t555 _ _ t559 true _ ?side1 ?side2 ?side3 ?side4 A26.out).mono ?_); (case side1 => repeat (first | exact (Kd.R_reads' HO558.out).2.2 | (with_reducible refine Kd.C_alloc ?_ _) | (with_reducible refine Kd.C_drewN ?_ _) | (with_reducible refine Kd.C_drew ?_))); (case side2 => exact (Kd.R_reads' HO558.out).2.1); (case side3 => repeat (first | exact (Kd.R_reads' HO562.out).2.2 | (with_reducible refine Kd.C_alloc ?_ _) | (with_reducible refine Kd.C_drewN ?_ _) | (with_reducible refine Kd.C_drew ?_))); (case side4 => exact (Kd.R_reads' HO562.out).2.1); rintro e w' ⟨rfl, ⟨nd, rfl⟩⟩) | (go_at_call 17; (with_reducible refine (prop_Eval.calls k1 _ _ t532 _ _ t533 t564 _ ?side1 ?side2 ?side3 ?side4 A29.out).mono ?_); (case side1 => repeat (first | exact (Kd.N_reads' HO_0.out).2.2 | (with_reducible refine Kd.C_alloc ?_ _) | (with_reducible refine Kd.C_drewN ?_ _) | (with_reducible refine Kd.C_drew ?_))); (case side2 => exact (Kd.N_reads' HO_0.out).2.1); (case side3 => repeat (first | exact (Kd.R_reads' HO_1.out).2.2 | (with_reducible refine Kd.C_alloc ?_ _) | (with_reducible refine Kd.C_drewN ?_ _) | (with_reducible refine Kd.C_drew ?_))); (case side4 => exact (Kd.R_reads' HO_1.out).2.1); rintro e w39 ⟨rfl, hb⟩; have n0_ := Aside0.mk (Kd.N_below (by (with_reducible repeat (first | apply Kd.N_alloc | apply Kd.N_drewN | apply Kd.N_drew)); exact HO_0.out) hb); have n1_ := Aside0.mk (Kd.R_below (by (with_reducible repeat (first | apply Kd.R_alloc | apply Kd.R_drewN | apply Kd.R_drew)); exact HO_1.out) hb); have n2_ := Aside0.mk (Kd.N_below (by (with_reducible repeat (first | apply Kd.N_alloc | apply Kd.N_drewN | apply Kd.N_drew)); exact HO554.out) hb); have n3_ := Aside0.mk (Kd.R_below (by (with_reducible repeat (first | apply Kd.R_alloc | apply Kd.R_drewN | apply Kd.R_drew)); exact HO558.out) hb); have n4_ := Aside0.mk (Kd.R_below (by (with_reducible repeat (first | apply Kd.R_alloc | apply Kd.R_drewN | apply Kd.R_drew)); exact HO562.out) hb); have n5_ := Aside0.mk (below_step (by repeat (first | (with_reducible first | exact HB.out | apply below_alloc | apply pw_below_drewN | apply below_drew1) | exact HB.out)) hb); clear HO_0; clear HO_1; clear HO554; clear HO558; clear HO562; clear HB; have HO_0 := n0_; have HO_1 := n1_; have HO554 := n2_; have HO558 := n3_; have HO562 := n4_; have HB := n5_; clear n0_ n1_ n2_ n3_ n4_ n5_; (try clear hb); (try clear hb2); (try clear hk); (try clear hi)) | (go_at_call 17; (with_reducible refine (prop_Eval.calls k1 _ _ y552 _ _ t533 t565 _ ?side1 ?side2 ?side3 ?side4 A30.out).mono ?_); (case side1 => repeat (first | exact (Kd.N_reads' HO554.out).2.2 | (with_reducible refine Kd.C_alloc ?_ _) | (with_reducible refine Kd.C_drewN ?_ _) | (with_reducible refine Kd.C_drew ?_))); (case side2 => exact (Kd.N_reads' HO554.out).2.1); (case side3 => repeat (first | exact (Kd.R_reads' HO_1.out).2.2 | (with_reducible refine Kd.C_alloc ?_ _) | (with_reducible refine Kd.C_drewN ?_ _) | (with_reducible refine Kd.C_drew ?_))); (case side4 => exact (Kd.R_reads' HO_1.out).2.1); rintro e w40 ⟨rfl, hb⟩; have n0_ := Aside0.mk (Kd.N_below (by (with_reducible repeat (first | apply Kd.N_alloc | apply Kd.N_drewN | apply Kd.N_drew)); exact HO_0.out) hb); have n1_ := Aside0.mk (Kd.R_below (by (with_reducible repeat (first | apply Kd.R_alloc | apply Kd.R_drewN | apply Kd.R_drew)); exact HO_1.out) hb); have n2_ := Aside0.mk (Kd.N_below (by (with_reducible repeat (first | apply Kd.N_alloc | apply Kd.N_drewN | apply Kd.N_drew)); exact HO554.out) hb); have n3_ := Aside0.mk (Kd.R_below (by (with_reducible repeat (first | apply Kd.R_alloc | apply Kd.R_drewN | apply Kd.R_drew)); exact HO558.out) hb); have n4_ := Aside0.mk (Kd.R_below (by (with_reducible repeat (first | apply Kd.R_alloc | apply Kd.R_drewN | apply Kd.R_drew)); exact HO562.out) hb); have n5_ := Aside0.mk (below_step (by repeat (first | (with_reducible first | exact HB.out | apply below_alloc | apply pw_below_drewN | apply below_drew1) | exact HB.out)) hb); clear HO_0; clear HO_1; clear HO554; clear HO558; clear HO562; clear HB; have HO_0 := n0_; have HO_1 := n1_; have HO554 := n2_; have HO558 := n3_; have HO562 := n4_; have HB := n5_; clear n0_ n1_ n2_ n3_ n4_ n5_; (try clear hb); (try clear hb2); (try clear hk); (try clear hi)))
                go_ret
                exact ⟨by first | rfl | (simp [errW_none, errW_some] <;> rfl) | (simp [*, errW_none, errW_some] <;> rfl), by repeat (first | (with_reducible first | exact HB.out | apply below_alloc | apply pw_below_drewN | apply below_drew1) | exact HB.out)⟩
              · rw [if_neg c28] at H
                have c28b0 : (t556 == t560) = false := by simpa using c28
                (try (have c28b1 : decide (t556 = t560) = false := by simpa using c28))
                (try (have c28b2 : (t556 == t560) = false := by simpa using c28))
                (try (have c28b3 : ¬ (t556 = t560) := by simpa using c28))
                clear c28
                obtain rfl := Option.some.inj H
                obtain ⟨Ao41, co41, eo41⟩ := Kd.N_slice HO_0.out
                subst eo41
                go_wp2_with (first | ((with_reducible refine gate_builtin (b := .append) (xs := #[.tmp 57, .tmp 58]) rfl ?_); at_builtin; refine Kd.N_append_rows (Kd.slice 3 (Kd.int .i64)) (w0 := w) w.heap.size rfl (.tmp 57) (.tmp 58) 22 35 (.slice none 0 0) 24 rfl Try.underlying22 info35 rfl (by decide) (by omega) u6 x6_1 t532 _ _ _ (fun k_ => some k_ ≠ (v536 : Value).ownBlock) (fun k_ => ((fun k_ => some k_ ≠ (v536 : Value).ownBlock)) k_ ∧ some k_ ≠ (u6 : Value).ownBlock) rfl rfl ?aO ?aR (fun _ hk => hk) ?aF ?aB ?aS ?aL ?_; (case aR => exact (by skip; exact Kd.N_F (Kd.N_mono (ok' := (fun k_ => ((fun k_ => some k_ ≠ (v536 : Value).ownBlock)) k_ ∧ some k_ ≠ (u6 : Value).ownBlock)) (HO_0.out) (fun k_ hk => ⟨hk.1, hk.2⟩)))); (case aB => exact (by repeat (first | (with_reducible first | exact HB.out | apply below_alloc | apply pw_below_drewN | apply below_drew1) | exact HB.out))); (case aF => exact (fun k_ hk => Kd.fresh' (Kd.R_lt (by (with_reducible repeat (first | apply Kd.R_alloc | apply Kd.R_drewN | apply Kd.R_drew)); exact HO_1.out)) k_ hk)); (case aO => exact (by (with_reducible repeat (first | apply Kd.N_alloc | apply Kd.N_drewN | apply Kd.N_drew)); exact Kd.N_mono HO_6.out (fun _ hk => hk.2))); (case aS => exact (below_size (by repeat (first | (with_reducible first | exact HB.out | apply below_alloc | apply pw_below_drewN | apply below_drew1) | exact HB.out)))); (case aL => have := LMc22.out; omega); intro v553 w42 ho hb hg hat; rw [← Ny552.out] at ho; have n0_ := Aside0.mk (Kd.N_afterv (ok := (fun k_ => some k_ ≠ (v536 : Value).ownBlock)) (by (with_reducible repeat (first | apply Kd.N_alloc | apply Kd.N_drewN | apply Kd.N_drew)); exact HO_0.out) hg hat); have n1_ := Aside0.mk (Kd.R_over' (by (with_reducible repeat (first | apply Kd.R_alloc | apply Kd.R_drewN | apply Kd.R_drew)); exact HO_1.out) (Kd.N_typed (by (with_reducible repeat (first | apply Kd.N_alloc | apply Kd.N_drewN | apply Kd.N_drew)); exact HO_6.out)) (by decide) hg); have n2_ := Aside0.mk (hb); have n3_ := Aside0.mk (ho); clear HO_0; clear HO_1; clear HB; clear HO_6; have HO_0 := n0_; have HO_1 := n1_; have HB := n2_; have HO554 := n3_; clear n0_ n1_ n2_ n3_; clear ho hb hg hat; obtain ⟨Ao43, co43, eo43⟩ := Kd.R_slice HO_1.out; subst eo43) | ((with_reducible refine gate_callee (f := 14) rfl ?_); refine goesL_ (some 63) rfl rfl Try.func14 (by kernel_rfl) rfl #[.slice Ao41 t532.length co41, .slice Ao43 t533.length co43] rfl (by (try simp only [List.map_toArray, List.map_cons, List.map_nil]); first | done | rfl | (simp only [List.length_drop, List.length_take]; rfl)) ?_; (with_reducible refine (prop_Unit.calls k1 _ _ t532 _ _ t533 t555 t556 _ ?side1 ?side2 ?side3 ?side4 A23.out).mono ?_); (case side1 => repeat (first | exact (Kd.N_reads' HO_0.out).2.2 | (with_reducible refine Kd.C_alloc ?_ _) | (with_reducible refine Kd.C_drewN ?_ _) | (with_reducible refine Kd.C_drew ?_))); (case side2 => exact (Kd.N_reads' HO_0.out).2.1); (case side3 => repeat (first | exact (Kd.R_reads' HO_1.out).2.2 | (with_reducible refine Kd.C_alloc ?_ _) | (with_reducible refine Kd.C_drewN ?_ _) | (with_reducible refine Kd.C_drew ?_))); (case side4 => exact (Kd.R_reads' HO_1.out).2.1); rintro e w44 ⟨v557, rfl, ho0, hb⟩; refine ⟨_, rfl, ?_⟩; have n0_ := Aside0.mk (Kd.N_elder' (by (with_reducible repeat (first | apply Kd.N_alloc | apply Kd.N_drewN | apply Kd.N_drew)); exact HO_0.out) (Kd.R_base ho0) hb); have n1_ := Aside0.mk (Kd.R_elder' (by (with_reducible repeat (first | apply Kd.R_alloc | apply Kd.R_drewN | apply Kd.R_drew)); exact HO_1.out) (Kd.R_base ho0) hb); have n2_ := Aside0.mk (Kd.N_elder' (by (with_reducible repeat (first | apply Kd.N_alloc | apply Kd.N_drewN | apply Kd.N_drew)); exact HO554.out) (Kd.R_base ho0) hb); have n3_ := Aside0.mk (Kd.R_lower (Kd.R_new' ho0 (Kd.R_lt (by (with_reducible repeat (first | apply Kd.R_alloc | apply Kd.R_drewN | apply Kd.R_drew)); exact HO_1.out))) (below_size (by repeat (first | (with_reducible first | exact HB.out | apply below_alloc | apply pw_below_drewN | apply below_drew1) | exact HB.out)))); have n4_ := Aside0.mk (below_step (by repeat (first | (with_reducible first | exact HB.out | apply below_alloc | apply pw_below_drewN | apply below_drew1) | exact HB.out)) hb); clear HO_0; clear HO_1; clear HO554; clear HB; have HO_0 := n0_; have HO_1 := n1_; have HO554 := n2_; have HO558 := n3_; have HB := n4_; clear n0_ n1_ n2_ n3_ n4_; (try clear hb); (try clear hb2); (try clear hk); (try clear hi); (try clear ho0); obtain ⟨Ao45, co45, eo45⟩ := Kd.N_slice HO554.out; subst eo45) | ((with_reducible refine gate_callee (f := 14) rfl ?_); refine goesL_ (some 69) rfl rfl Try.func14 (by kernel_rfl) rfl #[.slice Ao45 y552.length co45, .slice Ao43 t533.length co43] rfl (by (try simp only [List.map_toArray, List.map_cons, List.map_nil]); first | done | rfl | (simp only [List.length_drop, List.length_take]; rfl)) ?_; (with_reducible refine (prop_Unit.calls k1 _ _ y552 _ _ t533 t559 t560 _ ?side1 ?side2 ?side3 ?side4 A24.out).mono ?_); (case side1 => repeat (first | exact (Kd.N_reads' HO554.out).2.2 | (with_reducible refine Kd.C_alloc ?_ _) | (with_reducible refine Kd.C_drewN ?_ _) | (with_reducible refine Kd.C_drew ?_))); (case side2 => exact (Kd.N_reads' HO554.out).2.1); (case side3 => repeat (first | exact (Kd.R_reads' HO_1.out).2.2 | (with_reducible refine Kd.C_alloc ?_ _) | (with_reducible refine Kd.C_drewN ?_ _) | (with_reducible refine Kd.C_drew ?_))); (case side4 => exact (Kd.R_reads' HO_1.out).2.1); rintro e w46 ⟨v561, rfl, ho0, hb⟩; refine ⟨_, rfl, ?_⟩; have n0_ := Aside0.mk (Kd.N_elder' (by (with_reducible repeat (first | apply Kd.N_alloc | apply Kd.N_drewN | apply Kd.N_drew)); exact HO_0.out) (Kd.R_base ho0) hb); have n1_ := Aside0.mk (Kd.R_elder' (by (with_reducible repeat (first | apply Kd.R_alloc | apply Kd.R_drewN | apply Kd.R_drew)); exact HO_1.out) (Kd.R_base ho0) hb); have n2_ := Aside0.mk (Kd.N_elder' (by (with_reducible repeat (first | apply Kd.N_alloc | apply Kd.N_drewN | apply Kd.N_drew)); exact HO554.out) (Kd.R_base ho0) hb); have n3_ := Aside0.mk (Kd.R_elder' (by (with_reducible repeat (first | apply Kd.R_alloc | apply Kd.R_drewN | apply Kd.R_drew)); exact HO558.out) (Kd.R_base ho0) hb); have n4_ := Aside0.mk (Kd.R_lower (Kd.R_new' (Kd.R_new' ho0 (Kd.R_lt (by (with_reducible repeat (first | apply Kd.R_alloc | apply Kd.R_drewN | apply Kd.R_drew)); exact HO_1.out))) (Kd.R_lt (by (with_reducible repeat (first | apply Kd.R_alloc | apply Kd.R_drewN | apply Kd.R_drew)); exact HO558.out))) (below_size (by repeat (first | (with_reducible first | exact HB.out | apply below_alloc | apply pw_below_drewN | apply below_drew1) | exact HB.out)))); have n5_ := Aside0.mk (below_step (by repeat (first | (with_reducible first | exact HB.out | apply below_alloc | apply pw_below_drewN | apply below_drew1) | exact HB.out)) hb); clear HO_0; clear HO_1; clear HO554; clear HO558; clear HB; have HO_0 := n0_; have HO_1 := n1_; have HO554 := n2_; have HO558 := n3_; have HO562 := n4_; have HB := n5_; clear n0_ n1_ n2_ n3_ n4_ n5_; (try clear hb); (try clear hb2); (try clear hk); (try clear hi); (try clear ho0); obtain ⟨Ao47, co47, eo47⟩ := Kd.R_slice HO558.out; subst eo47; obtain ⟨Ao48, co48, eo48⟩ := Kd.R_slice HO562.out; subst eo48) | (go_at_call 16; (with_reducible refine (ashlarlaw08_same.calls k1 _ _ t555 _ _ t559 true _ ?side1 ?side2 ?side3 ?side4 A26.out).mono ?_); (case side1 => repeat (first | exact (Kd.R_reads' HO558.out).2.2 | (with_reducible refine Kd.C_alloc ?_ _) | (with_reducible refine Kd.C_drewN ?_ _) | (with_reducible refine Kd.C_drew ?_))); (case side2 => exact (Kd.R_reads' HO558.out).2.1); (case side3 => repeat (first | exact (Kd.R_reads' HO562.out).2.2 | (with_reducible refine Kd.C_alloc ?_ _) | (with_reducible refine Kd.C_drewN ?_ _) | (with_reducible refine Kd.C_drew ?_))); (case side4 => exact (Kd.R_reads' HO562.out).2.1); rintro e w' ⟨rfl, ⟨nd, rfl⟩⟩))
                go_ret
                exact ⟨by first | rfl | (simp [errW_none, errW_some] <;> rfl) | (simp [*, errW_none, errW_some] <;> rfl), by repeat (first | (with_reducible first | exact HB.out | apply below_alloc | apply pw_below_drewN | apply below_drew1) | exact HB.out)⟩
            · replace c27 := Bool.eq_false_iff.mpr c27
              subst c27
              have H1 : (some false) = some r := by rw [if_neg (show ¬ (false = true) by decide)] at H; exact H
              clear H
              have H := H1
              clear H1
              obtain rfl := Option.some.inj H
              obtain ⟨Ao49, co49, eo49⟩ := Kd.N_slice HO_0.out
              subst eo49
              go_wp2_with (first | ((with_reducible refine gate_builtin (b := .append) (xs := #[.tmp 57, .tmp 58]) rfl ?_); at_builtin; refine Kd.N_append_rows (Kd.slice 3 (Kd.int .i64)) (w0 := w) w.heap.size rfl (.tmp 57) (.tmp 58) 22 35 (.slice none 0 0) 24 rfl Try.underlying22 info35 rfl (by decide) (by omega) u6 x6_1 t532 _ _ _ (fun k_ => some k_ ≠ (v536 : Value).ownBlock) (fun k_ => ((fun k_ => some k_ ≠ (v536 : Value).ownBlock)) k_ ∧ some k_ ≠ (u6 : Value).ownBlock) rfl rfl ?aO ?aR (fun _ hk => hk) ?aF ?aB ?aS ?aL ?_; (case aR => exact (by skip; exact Kd.N_F (Kd.N_mono (ok' := (fun k_ => ((fun k_ => some k_ ≠ (v536 : Value).ownBlock)) k_ ∧ some k_ ≠ (u6 : Value).ownBlock)) (HO_0.out) (fun k_ hk => ⟨hk.1, hk.2⟩)))); (case aB => exact (by repeat (first | (with_reducible first | exact HB.out | apply below_alloc | apply pw_below_drewN | apply below_drew1) | exact HB.out))); (case aF => exact (fun k_ hk => Kd.fresh' (Kd.R_lt (by (with_reducible repeat (first | apply Kd.R_alloc | apply Kd.R_drewN | apply Kd.R_drew)); exact HO_1.out)) k_ hk)); (case aO => exact (by (with_reducible repeat (first | apply Kd.N_alloc | apply Kd.N_drewN | apply Kd.N_drew)); exact Kd.N_mono HO_6.out (fun _ hk => hk.2))); (case aS => exact (below_size (by repeat (first | (with_reducible first | exact HB.out | apply below_alloc | apply pw_below_drewN | apply below_drew1) | exact HB.out)))); (case aL => have := LMc22.out; omega); intro v553 w50 ho hb hg hat; rw [← Ny552.out] at ho; have n0_ := Aside0.mk (Kd.N_afterv (ok := (fun k_ => some k_ ≠ (v536 : Value).ownBlock)) (by (with_reducible repeat (first | apply Kd.N_alloc | apply Kd.N_drewN | apply Kd.N_drew)); exact HO_0.out) hg hat); have n1_ := Aside0.mk (Kd.R_over' (by (with_reducible repeat (first | apply Kd.R_alloc | apply Kd.R_drewN | apply Kd.R_drew)); exact HO_1.out) (Kd.N_typed (by (with_reducible repeat (first | apply Kd.N_alloc | apply Kd.N_drewN | apply Kd.N_drew)); exact HO_6.out)) (by decide) hg); have n2_ := Aside0.mk (hb); have n3_ := Aside0.mk (ho); clear HO_0; clear HO_1; clear HB; clear HO_6; have HO_0 := n0_; have HO_1 := n1_; have HB := n2_; have HO554 := n3_; clear n0_ n1_ n2_ n3_; clear ho hb hg hat; obtain ⟨Ao51, co51, eo51⟩ := Kd.R_slice HO_1.out; subst eo51) | ((with_reducible refine gate_callee (f := 14) rfl ?_); refine goesL_ (some 63) rfl rfl Try.func14 (by kernel_rfl) rfl #[.slice Ao49 t532.length co49, .slice Ao51 t533.length co51] rfl (by (try simp only [List.map_toArray, List.map_cons, List.map_nil]); first | done | rfl | (simp only [List.length_drop, List.length_take]; rfl)) ?_; (with_reducible refine (prop_Unit.calls k1 _ _ t532 _ _ t533 t555 t556 _ ?side1 ?side2 ?side3 ?side4 A23.out).mono ?_); (case side1 => repeat (first | exact (Kd.N_reads' HO_0.out).2.2 | (with_reducible refine Kd.C_alloc ?_ _) | (with_reducible refine Kd.C_drewN ?_ _) | (with_reducible refine Kd.C_drew ?_))); (case side2 => exact (Kd.N_reads' HO_0.out).2.1); (case side3 => repeat (first | exact (Kd.R_reads' HO_1.out).2.2 | (with_reducible refine Kd.C_alloc ?_ _) | (with_reducible refine Kd.C_drewN ?_ _) | (with_reducible refine Kd.C_drew ?_))); (case side4 => exact (Kd.R_reads' HO_1.out).2.1); rintro e w52 ⟨v557, rfl, ho0, hb⟩; refine ⟨_, rfl, ?_⟩; have n0_ := Aside0.mk (Kd.N_elder' (by (with_reducible repeat (first | apply Kd.N_alloc | apply Kd.N_drewN | apply Kd.N_drew)); exact HO_0.out) (Kd.R_base ho0) hb); have n1_ := Aside0.mk (Kd.R_elder' (by (with_reducible repeat (first | apply Kd.R_alloc | apply Kd.R_drewN | apply Kd.R_drew)); exact HO_1.out) (Kd.R_base ho0) hb); have n2_ := Aside0.mk (Kd.N_elder' (by (with_reducible repeat (first | apply Kd.N_alloc | apply Kd.N_drewN | apply Kd.N_drew)); exact HO554.out) (Kd.R_base ho0) hb); have n3_ := Aside0.mk (Kd.R_lower (Kd.R_new' ho0 (Kd.R_lt (by (with_reducible repeat (first | apply Kd.R_alloc | apply Kd.R_drewN | apply Kd.R_drew)); exact HO_1.out))) (below_size (by repeat (first | (with_reducible first | exact HB.out | apply below_alloc | apply pw_below_drewN | apply below_drew1) | exact HB.out)))); have n4_ := Aside0.mk (below_step (by repeat (first | (with_reducible first | exact HB.out | apply below_alloc | apply pw_below_drewN | apply below_drew1) | exact HB.out)) hb); clear HO_0; clear HO_1; clear HO554; clear HB; have HO_0 := n0_; have HO_1 := n1_; have HO554 := n2_; have HO558 := n3_; have HB := n4_; clear n0_ n1_ n2_ n3_ n4_; (try clear hb); (try clear hb2); (try clear hk); (try clear hi); (try clear ho0); obtain ⟨Ao53, co53, eo53⟩ := Kd.N_slice HO554.out; subst eo53) | ((with_reducible refine gate_callee (f := 14) rfl ?_); refine goesL_ (some 69) rfl rfl Try.func14 (by kernel_rfl) rfl #[.slice Ao53 y552.length co53, .slice Ao51 t533.length co51] rfl (by (try simp only [List.map_toArray, List.map_cons, List.map_nil]); first | done | rfl | (simp only [List.length_drop, List.length_take]; rfl)) ?_; (with_reducible refine (prop_Unit.calls k1 _ _ y552 _ _ t533 t559 t560 _ ?side1 ?side2 ?side3 ?side4 A24.out).mono ?_); (case side1 => repeat (first | exact (Kd.N_reads' HO554.out).2.2 | (with_reducible refine Kd.C_alloc ?_ _) | (with_reducible refine Kd.C_drewN ?_ _) | (with_reducible refine Kd.C_drew ?_))); (case side2 => exact (Kd.N_reads' HO554.out).2.1); (case side3 => repeat (first | exact (Kd.R_reads' HO_1.out).2.2 | (with_reducible refine Kd.C_alloc ?_ _) | (with_reducible refine Kd.C_drewN ?_ _) | (with_reducible refine Kd.C_drew ?_))); (case side4 => exact (Kd.R_reads' HO_1.out).2.1); rintro e w54 ⟨v561, rfl, ho0, hb⟩; refine ⟨_, rfl, ?_⟩; have n0_ := Aside0.mk (Kd.N_elder' (by (with_reducible repeat (first | apply Kd.N_alloc | apply Kd.N_drewN | apply Kd.N_drew)); exact HO_0.out) (Kd.R_base ho0) hb); have n1_ := Aside0.mk (Kd.R_elder' (by (with_reducible repeat (first | apply Kd.R_alloc | apply Kd.R_drewN | apply Kd.R_drew)); exact HO_1.out) (Kd.R_base ho0) hb); have n2_ := Aside0.mk (Kd.N_elder' (by (with_reducible repeat (first | apply Kd.N_alloc | apply Kd.N_drewN | apply Kd.N_drew)); exact HO554.out) (Kd.R_base ho0) hb); have n3_ := Aside0.mk (Kd.R_elder' (by (with_reducible repeat (first | apply Kd.R_alloc | apply Kd.R_drewN | apply Kd.R_drew)); exact HO558.out) (Kd.R_base ho0) hb); have n4_ := Aside0.mk (Kd.R_lower (Kd.R_new' (Kd.R_new' ho0 (Kd.R_lt (by (with_reducible repeat (first | apply Kd.R_alloc | apply Kd.R_drewN | apply Kd.R_drew)); exact HO_1.out))) (Kd.R_lt (by (with_reducible repeat (first | apply Kd.R_alloc | apply Kd.R_drewN | apply Kd.R_drew)); exact HO558.out))) (below_size (by repeat (first | (with_reducible first | exact HB.out | apply below_alloc | apply pw_below_drewN | apply below_drew1) | exact HB.out)))); have n5_ := Aside0.mk (below_step (by repeat (first | (with_reducible first | exact HB.out | apply below_alloc | apply pw_below_drewN | apply below_drew1) | exact HB.out)) hb); clear HO_0; clear HO_1; clear HO554; clear HO558; clear HB; have HO_0 := n0_; have HO_1 := n1_; have HO554 := n2_; have HO558 := n3_; have HO562 := n4_; have HB := n5_; clear n0_ n1_ n2_ n3_ n4_ n5_; (try clear hb); (try clear hb2); (try clear hk); (try clear hi); (try clear ho0); obtain ⟨Ao55, co55, eo55⟩ := Kd.R_slice HO558.out; subst eo55; obtain ⟨Ao56, co56, eo56⟩ := Kd.R_slice HO562.out; subst eo56) | (go_at_call 16; (with_reducible refine (ashlarlaw08_same.calls k1 _ _ t555 _ _ t559 false _ ?side1 ?side2 ?side3 ?side4 A26.out).mono ?_); (case side1 => repeat (first | exact (Kd.R_reads' HO558.out).2.2 | (with_reducible refine Kd.C_alloc ?_ _) | (with_reducible refine Kd.C_drewN ?_ _) | (with_reducible refine Kd.C_drew ?_))); (case side2 => exact (Kd.R_reads' HO558.out).2.1); (case side3 => repeat (first | exact (Kd.R_reads' HO562.out).2.2 | (with_reducible refine Kd.C_alloc ?_ _) | (with_reducible refine Kd.C_drewN ?_ _) | (with_reducible refine Kd.C_drew ?_))); (case side4 => exact (Kd.R_reads' HO562.out).2.1); rintro e w' ⟨rfl, ⟨nd, rfl⟩⟩))
              go_ret
              exact ⟨by first | rfl | (simp [errW_none, errW_some] <;> rfl) | (simp [*, errW_none, errW_some] <;> rfl), by repeat (first | (with_reducible first | exact HB.out | apply below_alloc | apply pw_below_drewN | apply below_drew1) | exact HB.out)⟩
          · replace c25 := Bool.eq_false_iff.mpr c25
            subst c25
            have H1 : (some false) = some r := by rw [if_neg (show ¬ (false = true) by decide)] at H; exact H
            clear H
            have H := H1
            clear H1
            obtain rfl := Option.some.inj H
            obtain ⟨Ao57, co57, eo57⟩ := Kd.N_slice HO_0.out
            subst eo57
            go_wp2_with (first | ((with_reducible refine gate_builtin (b := .append) (xs := #[.tmp 57, .tmp 58]) rfl ?_); at_builtin; refine Kd.N_append_rows (Kd.slice 3 (Kd.int .i64)) (w0 := w) w.heap.size rfl (.tmp 57) (.tmp 58) 22 35 (.slice none 0 0) 24 rfl Try.underlying22 info35 rfl (by decide) (by omega) u6 x6_1 t532 _ _ _ (fun k_ => some k_ ≠ (v536 : Value).ownBlock) (fun k_ => ((fun k_ => some k_ ≠ (v536 : Value).ownBlock)) k_ ∧ some k_ ≠ (u6 : Value).ownBlock) rfl rfl ?aO ?aR (fun _ hk => hk) ?aF ?aB ?aS ?aL ?_; (case aR => exact (by skip; exact Kd.N_F (Kd.N_mono (ok' := (fun k_ => ((fun k_ => some k_ ≠ (v536 : Value).ownBlock)) k_ ∧ some k_ ≠ (u6 : Value).ownBlock)) (HO_0.out) (fun k_ hk => ⟨hk.1, hk.2⟩)))); (case aB => exact (by repeat (first | (with_reducible first | exact HB.out | apply below_alloc | apply pw_below_drewN | apply below_drew1) | exact HB.out))); (case aF => exact (fun k_ hk => Kd.fresh' (Kd.R_lt (by (with_reducible repeat (first | apply Kd.R_alloc | apply Kd.R_drewN | apply Kd.R_drew)); exact HO_1.out)) k_ hk)); (case aO => exact (by (with_reducible repeat (first | apply Kd.N_alloc | apply Kd.N_drewN | apply Kd.N_drew)); exact Kd.N_mono HO_6.out (fun _ hk => hk.2))); (case aS => exact (below_size (by repeat (first | (with_reducible first | exact HB.out | apply below_alloc | apply pw_below_drewN | apply below_drew1) | exact HB.out)))); (case aL => have := LMc22.out; omega); intro v553 w58 ho hb hg hat; rw [← Ny552.out] at ho; have n0_ := Aside0.mk (Kd.N_afterv (ok := (fun k_ => some k_ ≠ (v536 : Value).ownBlock)) (by (with_reducible repeat (first | apply Kd.N_alloc | apply Kd.N_drewN | apply Kd.N_drew)); exact HO_0.out) hg hat); have n1_ := Aside0.mk (Kd.R_over' (by (with_reducible repeat (first | apply Kd.R_alloc | apply Kd.R_drewN | apply Kd.R_drew)); exact HO_1.out) (Kd.N_typed (by (with_reducible repeat (first | apply Kd.N_alloc | apply Kd.N_drewN | apply Kd.N_drew)); exact HO_6.out)) (by decide) hg); have n2_ := Aside0.mk (hb); have n3_ := Aside0.mk (ho); clear HO_0; clear HO_1; clear HB; clear HO_6; have HO_0 := n0_; have HO_1 := n1_; have HB := n2_; have HO554 := n3_; clear n0_ n1_ n2_ n3_; clear ho hb hg hat; obtain ⟨Ao59, co59, eo59⟩ := Kd.R_slice HO_1.out; subst eo59) | ((with_reducible refine gate_callee (f := 14) rfl ?_); refine goesL_ (some 63) rfl rfl Try.func14 (by kernel_rfl) rfl #[.slice Ao57 t532.length co57, .slice Ao59 t533.length co59] rfl (by (try simp only [List.map_toArray, List.map_cons, List.map_nil]); first | done | rfl | (simp only [List.length_drop, List.length_take]; rfl)) ?_; (with_reducible refine (prop_Unit.calls k1 _ _ t532 _ _ t533 t555 t556 _ ?side1 ?side2 ?side3 ?side4 A23.out).mono ?_); (case side1 => repeat (first | exact (Kd.N_reads' HO_0.out).2.2 | (with_reducible refine Kd.C_alloc ?_ _) | (with_reducible refine Kd.C_drewN ?_ _) | (with_reducible refine Kd.C_drew ?_))); (case side2 => exact (Kd.N_reads' HO_0.out).2.1); (case side3 => repeat (first | exact (Kd.R_reads' HO_1.out).2.2 | (with_reducible refine Kd.C_alloc ?_ _) | (with_reducible refine Kd.C_drewN ?_ _) | (with_reducible refine Kd.C_drew ?_))); (case side4 => exact (Kd.R_reads' HO_1.out).2.1); rintro e w60 ⟨v557, rfl, ho0, hb⟩; refine ⟨_, rfl, ?_⟩; have n0_ := Aside0.mk (Kd.N_elder' (by (with_reducible repeat (first | apply Kd.N_alloc | apply Kd.N_drewN | apply Kd.N_drew)); exact HO_0.out) (Kd.R_base ho0) hb); have n1_ := Aside0.mk (Kd.R_elder' (by (with_reducible repeat (first | apply Kd.R_alloc | apply Kd.R_drewN | apply Kd.R_drew)); exact HO_1.out) (Kd.R_base ho0) hb); have n2_ := Aside0.mk (Kd.N_elder' (by (with_reducible repeat (first | apply Kd.N_alloc | apply Kd.N_drewN | apply Kd.N_drew)); exact HO554.out) (Kd.R_base ho0) hb); have n3_ := Aside0.mk (Kd.R_lower (Kd.R_new' ho0 (Kd.R_lt (by (with_reducible repeat (first | apply Kd.R_alloc | apply Kd.R_drewN | apply Kd.R_drew)); exact HO_1.out))) (below_size (by repeat (first | (with_reducible first | exact HB.out | apply below_alloc | apply pw_below_drewN | apply below_drew1) | exact HB.out)))); have n4_ := Aside0.mk (below_step (by repeat (first | (with_reducible first | exact HB.out | apply below_alloc | apply pw_below_drewN | apply below_drew1) | exact HB.out)) hb); clear HO_0; clear HO_1; clear HO554; clear HB; have HO_0 := n0_; have HO_1 := n1_; have HO554 := n2_; have HO558 := n3_; have HB := n4_; clear n0_ n1_ n2_ n3_ n4_; (try clear hb); (try clear hb2); (try clear hk); (try clear hi); (try clear ho0); obtain ⟨Ao61, co61, eo61⟩ := Kd.N_slice HO554.out; subst eo61) | ((with_reducible refine gate_callee (f := 14) rfl ?_); refine goesL_ (some 69) rfl rfl Try.func14 (by kernel_rfl) rfl #[.slice Ao61 y552.length co61, .slice Ao59 t533.length co59] rfl (by (try simp only [List.map_toArray, List.map_cons, List.map_nil]); first | done | rfl | (simp only [List.length_drop, List.length_take]; rfl)) ?_; (with_reducible refine (prop_Unit.calls k1 _ _ y552 _ _ t533 t559 t560 _ ?side1 ?side2 ?side3 ?side4 A24.out).mono ?_); (case side1 => repeat (first | exact (Kd.N_reads' HO554.out).2.2 | (with_reducible refine Kd.C_alloc ?_ _) | (with_reducible refine Kd.C_drewN ?_ _) | (with_reducible refine Kd.C_drew ?_))); (case side2 => exact (Kd.N_reads' HO554.out).2.1); (case side3 => repeat (first | exact (Kd.R_reads' HO_1.out).2.2 | (with_reducible refine Kd.C_alloc ?_ _) | (with_reducible refine Kd.C_drewN ?_ _) | (with_reducible refine Kd.C_drew ?_))); (case side4 => exact (Kd.R_reads' HO_1.out).2.1); rintro e w62 ⟨v561, rfl, ho0, hb⟩; refine ⟨_, rfl, ?_⟩; have n0_ := Aside0.mk (Kd.N_elder' (by (with_reducible repeat (first | apply Kd.N_alloc | apply Kd.N_drewN | apply Kd.N_drew)); exact HO_0.out) (Kd.R_base ho0) hb); have n1_ := Aside0.mk (Kd.R_elder' (by (with_reducible repeat (first | apply Kd.R_alloc | apply Kd.R_drewN | apply Kd.R_drew)); exact HO_1.out) (Kd.R_base ho0) hb); have n2_ := Aside0.mk (Kd.N_elder' (by (with_reducible repeat (first | apply Kd.N_alloc | apply Kd.N_drewN | apply Kd.N_drew)); exact HO554.out) (Kd.R_base ho0) hb); have n3_ := Aside0.mk (Kd.R_elder' (by (with_reducible repeat (first | apply Kd.R_alloc | apply Kd.R_drewN | apply Kd.R_drew)); exact HO558.out) (Kd.R_base ho0) hb); have n4_ := Aside0.mk (Kd.R_lower (Kd.R_new' (Kd.R_new' ho0 (Kd.R_lt (by (with_reducible repeat (first | apply Kd.R_alloc | apply Kd.R_drewN | apply Kd.R_drew)); exact HO_1.out))) (Kd.R_lt (by (with_reducible repeat (first | apply Kd.R_alloc | apply Kd.R_drewN | apply Kd.R_drew)); exact HO558.out))) (below_size (by repeat (first | (with_reducible first | exact HB.out | apply below_alloc | apply pw_below_drewN | apply below_drew1) | exact HB.out)))); have n5_ := Aside0.mk (below_step (by repeat (first | (with_reducible first | exact HB.out | apply below_alloc | apply pw_below_drewN | apply below_drew1) | exact HB.out)) hb); clear HO_0; clear HO_1; clear HO554; clear HO558; clear HB; have HO_0 := n0_; have HO_1 := n1_; have HO554 := n2_; have HO558 := n3_; have HO562 := n4_; have HB := n5_; clear n0_ n1_ n2_ n3_ n4_ n5_; (try clear hb); (try clear hb2); (try clear hk); (try clear hi); (try clear ho0)))
            go_ret
            exact ⟨by first | rfl | (simp [errW_none, errW_some] <;> rfl) | (simp [*, errW_none, errW_some] <;> rfl), by repeat (first | (with_reducible first | exact HB.out | apply below_alloc | apply pw_below_drewN | apply below_drew1) | exact HB.out)⟩
        · rw [if_neg c22] at H
          exact absurd H (by simp)

end Go.Proofs.Ytbgjmeiphmfniaa.Q
