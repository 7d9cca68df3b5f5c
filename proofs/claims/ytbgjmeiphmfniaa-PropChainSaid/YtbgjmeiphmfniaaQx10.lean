/- written by a program of this session (wip/tools/printx.py, over the kit's printing program) out of the translation -/
import Derived.Test.YtbgjmeiphmfniaaQx0
import Derived.Test.YtbgjmeiphmfniaaQx1
import Derived.Test.YtbgjmeiphmfniaaQx2
namespace Go.Proofs.Ytbgjmeiphmfniaa.Q
open Go.RowKit Go.Proofs.YtbgjmeiphmfniaaW.PrintWords Go.Proofs.YtbgjmeiphmfniaaW.PrintLast Go.Proofs.YtbgjmeiphmfniaaW.PrintMore
attribute [local go_sem] max2_int min2_int max_two min_two max_three min_three max_four min_four   -- for this text's walks alone
set_option linter.unusedVariables false
set_option linter.unusedSimpArgs false

/-! ### ashlarlaw08_PropChain: function 10 -/
mutual
def ashlarlaw08_PropChain.l0 : Nat → Int → Bool → Bool → List (List Int) → Int → Option (Bool)
  | 0, _, _, _, _, _ => none
  | k + 1, x0, x1, x5, x6, x7 => if x7 < x0 then (if x6.length < 5864062014805 then (ashlarlaw08_PropChain.l0 k x0 x1 x5 (x6 ++ [(([wrap64 (-x7), wrap64 (x7 + 1)] : List Int))]) (wrap64 (x7 + 1))) else (none)) else (if x1 = true then (ashlarlaw08_PropChain.l1 k x0 x5 x6 0) else (ashlarlaw08_PropChain.j2 k x0 x5 x6))
def ashlarlaw08_PropChain.j2 : Nat → Int → Bool → List (List Int) → Option (Bool)
  | 0, _, _, _ => none
  | k + 1, x0, x5, x6 => if 0 ≤ (wrap64 (x0 + 1)) then (if (wrap64 (x0 + 1) : Int).toNat ≤ 281474976710656 then ((some (List.replicate (wrap64 (x0 + 1) : Int).toNat 0 : List Int)).bind fun y504 => (if 1 < (y504.length : Int) then ((some (List.replicate (wrap64 (x0 + 1) : Int).toNat 0 : List Int)).bind fun y508 => (if 0 ≤ x0 then (if x0 < (y508.length : Int) then ((some (List.replicate (wrap64 (x0 + 1) : Int).toNat 0 : List Int)).bind fun y512 => (if 1 < (y512.length : Int) then (if x0 < (y512.length : Int) then ((prop_Unit.f k x6 (y504.set (1 : Int).toNat 1)).bind fun bt517 => ((prop_Unit.f k x6 (y508.set (x0 : Int).toNat (-1))).bind fun bt521 => ((prop_Unit.f k x6 ((y512.set (1 : Int).toNat 1).set (x0 : Int).toNat (-1))).bind fun bt525 => (if (bt517.1.length : Int) ≤ x0 then (ashlarlaw08_PropChain.j3 k x0 x5 bt517.1 bt517.2 bt521.1 bt521.2 bt525.2 true) else (ashlarlaw08_PropChain.j3 k x0 x5 bt517.1 bt517.2 bt521.1 bt521.2 bt525.2 (decide ((bt521.1.length : Int) ≤ x0))))))) else (none)) else (none))) else (none)) else (none))) else (none))) else (none)) else (none)
def ashlarlaw08_PropChain.j3 : Nat → Int → Bool → List Int → Bool → List Int → Bool → Bool → Bool → Option (Bool)
  | 0, _, _, _, _, _, _, _, _ => none
  | k + 1, x0, x5, x13, x14, x15, x16, x18, x115 => if x115 = true then (some false) else (ashlarlaw08_PropChain.l2 k x0 x5 x13 x14 x15 x16 x18 1)
def ashlarlaw08_PropChain.l2 : Nat → Int → Bool → List Int → Bool → List Int → Bool → Bool → Int → Option (Bool)
  | 0, _, _, _, _, _, _, _, _ => none
  | k + 1, x0, x5, x13, x14, x15, x16, x18, x19 => if x19 ≤ x0 then (if 0 ≤ x19 then (if x19 < (x13.length : Int) then (if (rd x13 x19) = 1 then (if x19 < (x15.length : Int) then (if (rd x15 x19) = (-1) then (ashlarlaw08_PropChain.l2 k x0 x5 x13 x14 x15 x16 x18 (wrap64 (x19 + 1))) else (some false)) else (none)) else (some false)) else (none)) else (none)) else (if x5 = true then (if x14 = true then (some false) else (if x16 = true then (some false) else (some x18))) else (some false))
def ashlarlaw08_PropChain.l1 : Nat → Int → Bool → List (List Int) → Int → Option (Bool)
  | 0, _, _, _, _ => none
  | k + 1, x0, x5, x6, x8 => if x8 < (wrap64 ((x6.length : Int) / 2)) then (if 0 ≤ x8 then (if x8 < (x6.length : Int) then (if 0 ≤ (wrap64 ((wrap64 ((x6.length : Int) - 1)) - x8)) then (if (wrap64 ((wrap64 ((x6.length : Int) - 1)) - x8)) < (x6.length : Int) then (ashlarlaw08_PropChain.l1 k x0 x5 ((x6.set (x8 : Int).toNat (rd_L2 x6 (wrap64 ((wrap64 ((x6.length : Int) - 1)) - x8)))).set ((wrap64 ((wrap64 ((x6.length : Int) - 1)) - x8)) : Int).toNat (rd_L2 x6 x8)) (wrap64 (x8 + 1))) else (none)) else (none)) else (none)) else (none)) else (ashlarlaw08_PropChain.j2 k x0 x5 x6)
end
def ashlarlaw08_PropChain.f (k : Nat) (a0 : Int) (a1 : Bool) : Option (Bool) := (ashlarlaw08_shown.f k).bind fun t493 => (ashlarlaw08_PropChain.l0 k (wrap64 (2 + (Int.tmod (Go.bits .and .i64 a0 65535) 39))) a1 t493 ([] : List (List Int)) 1)
theorem ashlarlaw08_PropChain.mono_l : ∀ k, (∀ y0 y1 y2 y3 y4, LeO (ashlarlaw08_PropChain.l0 k y0 y1 y2 y3 y4) (ashlarlaw08_PropChain.l0 (k + 1) y0 y1 y2 y3 y4)) ∧ (∀ y0 y1 y2, LeO (ashlarlaw08_PropChain.j2 k y0 y1 y2) (ashlarlaw08_PropChain.j2 (k + 1) y0 y1 y2)) ∧ (∀ y0 y1 y2 y3 y4 y5 y6 y7, LeO (ashlarlaw08_PropChain.j3 k y0 y1 y2 y3 y4 y5 y6 y7) (ashlarlaw08_PropChain.j3 (k + 1) y0 y1 y2 y3 y4 y5 y6 y7)) ∧ (∀ y0 y1 y2 y3 y4 y5 y6 y7, LeO (ashlarlaw08_PropChain.l2 k y0 y1 y2 y3 y4 y5 y6 y7) (ashlarlaw08_PropChain.l2 (k + 1) y0 y1 y2 y3 y4 y5 y6 y7)) ∧ (∀ y0 y1 y2 y3, LeO (ashlarlaw08_PropChain.l1 k y0 y1 y2 y3) (ashlarlaw08_PropChain.l1 (k + 1) y0 y1 y2 y3))
  | 0 => ⟨fun _ _ _ _ _ r h => by simp [ashlarlaw08_PropChain.l0] at h, fun _ _ _ r h => by simp [ashlarlaw08_PropChain.j2] at h, fun _ _ _ _ _ _ _ _ r h => by simp [ashlarlaw08_PropChain.j3] at h, fun _ _ _ _ _ _ _ _ r h => by simp [ashlarlaw08_PropChain.l2] at h, fun _ _ _ _ r h => by simp [ashlarlaw08_PropChain.l1] at h⟩
  | k + 1 => by
    obtain ⟨ih0, ih1, ih2, ih3, ih4⟩ := ashlarlaw08_PropChain.mono_l k
    refine ⟨?_, ?_, ?_, ?_, ?_⟩
    · intro y0 y1 y2 y3 y4
      unfold ashlarlaw08_PropChain.l0
      repeat' first
      | (with_reducible exact ih0 _ _ _ _ _)
      | (with_reducible exact ih1 _ _ _)
      | (with_reducible exact ih2 _ _ _ _ _ _ _ _)
      | (with_reducible exact ih3 _ _ _ _ _ _ _ _)
      | (with_reducible exact ih4 _ _ _ _)
      | (with_reducible exact ashlarlaw08_shown.mono _)
      | (with_reducible exact prop_Unit.mono _ _ _)
      | (with_reducible exact LeO.refl _)
      | (with_reducible exact LeO.none _)
      | (with_reducible refine LeO.ite ?_ ?_)
      | (with_reducible refine LeO.bind ?_ (fun _ => ?_))
      | exact ih0 _ _ _ _ _
      | exact ih1 _ _ _
      | exact ih2 _ _ _ _ _ _ _ _
      | exact ih3 _ _ _ _ _ _ _ _
      | exact ih4 _ _ _ _
      | exact ashlarlaw08_shown.mono _
      | exact prop_Unit.mono _ _ _
      | exact LeO.none _
      | refine LeO.ite ?_ ?_
      | refine LeO.bind ?_ (fun _ => ?_)
    · intro y0 y1 y2
      unfold ashlarlaw08_PropChain.j2
      repeat' first
      | (with_reducible exact ih0 _ _ _ _ _)
      | (with_reducible exact ih1 _ _ _)
      | (with_reducible exact ih2 _ _ _ _ _ _ _ _)
      | (with_reducible exact ih3 _ _ _ _ _ _ _ _)
      | (with_reducible exact ih4 _ _ _ _)
      | (with_reducible exact ashlarlaw08_shown.mono _)
      | (with_reducible exact prop_Unit.mono _ _ _)
      | (with_reducible exact LeO.refl _)
      | (with_reducible exact LeO.none _)
      | (with_reducible refine LeO.ite ?_ ?_)
      | (with_reducible refine LeO.bind ?_ (fun _ => ?_))
      | exact ih0 _ _ _ _ _
      | exact ih1 _ _ _
      | exact ih2 _ _ _ _ _ _ _ _
      | exact ih3 _ _ _ _ _ _ _ _
      | exact ih4 _ _ _ _
      | exact ashlarlaw08_shown.mono _
      | exact prop_Unit.mono _ _ _
      | exact LeO.none _
      | refine LeO.ite ?_ ?_
      | refine LeO.bind ?_ (fun _ => ?_)
    · intro y0 y1 y2 y3 y4 y5 y6 y7
      unfold ashlarlaw08_PropChain.j3
      repeat' first
      | (with_reducible exact ih0 _ _ _ _ _)
      | (with_reducible exact ih1 _ _ _)
      | (with_reducible exact ih2 _ _ _ _ _ _ _ _)
      | (with_reducible exact ih3 _ _ _ _ _ _ _ _)
      | (with_reducible exact ih4 _ _ _ _)
      | (with_reducible exact ashlarlaw08_shown.mono _)
      | (with_reducible exact prop_Unit.mono _ _ _)
      | (with_reducible exact LeO.refl _)
      | (with_reducible exact LeO.none _)
      | (with_reducible refine LeO.ite ?_ ?_)
      | (with_reducible refine LeO.bind ?_ (fun _ => ?_))
      | exact ih0 _ _ _ _ _
      | exact ih1 _ _ _
      | exact ih2 _ _ _ _ _ _ _ _
      | exact ih3 _ _ _ _ _ _ _ _
      | exact ih4 _ _ _ _
      | exact ashlarlaw08_shown.mono _
      | exact prop_Unit.mono _ _ _
      | exact LeO.none _
      | refine LeO.ite ?_ ?_
      | refine LeO.bind ?_ (fun _ => ?_)
    · intro y0 y1 y2 y3 y4 y5 y6 y7
      unfold ashlarlaw08_PropChain.l2
      repeat' first
      | (with_reducible exact ih0 _ _ _ _ _)
      | (with_reducible exact ih1 _ _ _)
      | (with_reducible exact ih2 _ _ _ _ _ _ _ _)
      | (with_reducible exact ih3 _ _ _ _ _ _ _ _)
      | (with_reducible exact ih4 _ _ _ _)
      | (with_reducible exact ashlarlaw08_shown.mono _)
      | (with_reducible exact prop_Unit.mono _ _ _)
      | (with_reducible exact LeO.refl _)
      | (with_reducible exact LeO.none _)
      | (with_reducible refine LeO.ite ?_ ?_)
      | (with_reducible refine LeO.bind ?_ (fun _ => ?_))
      | exact ih0 _ _ _ _ _
      | exact ih1 _ _ _
      | exact ih2 _ _ _ _ _ _ _ _
      | exact ih3 _ _ _ _ _ _ _ _
      | exact ih4 _ _ _ _
      | exact ashlarlaw08_shown.mono _
      | exact prop_Unit.mono _ _ _
      | exact LeO.none _
      | refine LeO.ite ?_ ?_
      | refine LeO.bind ?_ (fun _ => ?_)
    · intro y0 y1 y2 y3
      unfold ashlarlaw08_PropChain.l1
      repeat' first
      | (with_reducible exact ih0 _ _ _ _ _)
      | (with_reducible exact ih1 _ _ _)
      | (with_reducible exact ih2 _ _ _ _ _ _ _ _)
      | (with_reducible exact ih3 _ _ _ _ _ _ _ _)
      | (with_reducible exact ih4 _ _ _ _)
      | (with_reducible exact ashlarlaw08_shown.mono _)
      | (with_reducible exact prop_Unit.mono _ _ _)
      | (with_reducible exact LeO.refl _)
      | (with_reducible exact LeO.none _)
      | (with_reducible refine LeO.ite ?_ ?_)
      | (with_reducible refine LeO.bind ?_ (fun _ => ?_))
      | exact ih0 _ _ _ _ _
      | exact ih1 _ _ _
      | exact ih2 _ _ _ _ _ _ _ _
      | exact ih3 _ _ _ _ _ _ _ _
      | exact ih4 _ _ _ _
      | exact ashlarlaw08_shown.mono _
      | exact prop_Unit.mono _ _ _
      | exact LeO.none _
      | refine LeO.ite ?_ ?_
      | refine LeO.bind ?_ (fun _ => ?_)
theorem ashlarlaw08_PropChain.mono : ∀ a0 a1 k, LeO (ashlarlaw08_PropChain.f k a0 a1) (ashlarlaw08_PropChain.f (k + 1) a0 a1) := by
  intro a0 a1 k
  obtain ⟨ih0, ih1, ih2, ih3, ih4⟩ := ashlarlaw08_PropChain.mono_l k
  unfold ashlarlaw08_PropChain.f
  repeat' first
      | (with_reducible exact ih0 _ _ _ _ _)
      | (with_reducible exact ih1 _ _ _)
      | (with_reducible exact ih2 _ _ _ _ _ _ _ _)
      | (with_reducible exact ih3 _ _ _ _ _ _ _ _)
      | (with_reducible exact ih4 _ _ _ _)
      | (with_reducible exact ashlarlaw08_shown.mono _)
      | (with_reducible exact prop_Unit.mono _ _ _)
      | (with_reducible exact LeO.refl _)
      | (with_reducible exact LeO.none _)
      | (with_reducible refine LeO.ite ?_ ?_)
      | (with_reducible refine LeO.bind ?_ (fun _ => ?_))
      | exact ih0 _ _ _ _ _
      | exact ih1 _ _ _
      | exact ih2 _ _ _ _ _ _ _ _
      | exact ih3 _ _ _ _ _ _ _ _
      | exact ih4 _ _ _ _
      | exact ashlarlaw08_shown.mono _
      | exact prop_Unit.mono _ _ _
      | exact LeO.none _
      | refine LeO.ite ?_ ?_
      | refine LeO.bind ?_ (fun _ => ?_)
set_option maxHeartbeats 8000000 in
set_option maxRecDepth 100000 in
theorem ashlarlaw08_PropChain.calls (k : Nat) (a0 : Int) (a1 : Bool) (r : Bool) (w : World) (h : ashlarlaw08_PropChain.f k a0 a1 = some r) :
    Calls Try.prog 10 #[.int .i64 a0, .bool a1] w fun e w' => e = .returned (.bool r) ∧ Below w.heap.size w w' := by
  have HB := Aside0.mk (Below.refl w.heap.size w)
  have H : ((ashlarlaw08_shown.f k).bind fun t493 => (ashlarlaw08_PropChain.l0 k (wrap64 (2 + (Int.tmod (Go.bits .and .i64 a0 65535) 39))) a1 t493 ([] : List (List Int)) 1)) = some r := h
  clear h
  replace H := Option.bind_eq_some_iff.mp H
  obtain ⟨t493, A30, H⟩ := H
  replace H : (ashlarlaw08_PropChain.l0 k (wrap64 (2 + (Int.tmod (Go.bits .and .i64 a0 65535) 39))) a1 t493 ([] : List (List Int)) 1) = some r := H
  have A3 := Aside0.mk A30
  clear A30
  have H' := Aside0.mk H
  clear H
  go_enter Try.func10, Try.ntmps10
  go_wp2_with (first | ((with_reducible refine gate_callee (f := 12) rfl ?_); refine goesL_ (some 20) rfl rfl Try.func12 (by kernel_rfl) rfl #[] rfl (by (try simp only [List.map_toArray, List.map_cons, List.map_nil]); first | done | rfl | (simp only [List.length_drop, List.length_take]; rfl)) ?_; (with_reducible refine (ashlarlaw08_shown.calls k  t493 _ A3.out).mono ?_); rintro e w4 ⟨rfl, hb⟩; refine ⟨_, rfl, ?_⟩; have n0_ := Aside0.mk (below_step (by repeat (first | (with_reducible first | exact HB.out | apply below_alloc | apply pw_below_drewN | apply below_drew1) | exact HB.out)) hb); clear HB; have HB := n0_; clear n0_; (try clear hb); (try clear hb2); (try clear hk); (try clear hi)))
  go_loopg [6, 7] k (fun kq v6 v7 w' => ∃ (x6_1 : List (List Int)) (x7_1 : Int), v7 = .int .i64 x7_1 ∧ Aside0 (ashlarlaw08_PropChain.l0 kq (wrap64 (2 + (Int.tmod (Go.bits .and .i64 a0 65535) 39))) a1 t493 x6_1 x7_1 = some r) ∧ Aside0 (kq ≤ k) ∧ Aside0 (Kd.N (Kd.slice 3 (Kd.int .i64)) 35 w' w.heap.size (fun _ => True) v6 x6_1) ∧ Aside0 (Below w.heap.size w w'))
  case atStart => exact ⟨(([] : List (List Int))), (1), (by first | rfl | (simp; done) | (simp [*]; done)), H', ⟨Nat.le_refl _⟩, ⟨by first | exact Kd.S_nil _ _ _ _ _ | exact Kd.N_nil _ _ _ _ _ | exact Kd.V_nil _ _ _ _ _ | exact Kd.Q_nil _ _ _ _ _ | exact Kd.R_nil _ _ _ _ _⟩, ⟨by repeat (first | (with_reducible first | exact HB.out | apply below_alloc | apply pw_below_drewN | apply below_drew1) | exact HB.out)⟩⟩
  case round =>
    clear H'
    try clear c1
    try clear p2
    obtain ⟨x6_1, x7_1, rfl, HA, HK1, HO_6, HB⟩ := hrel
    cases gk with
    | zero => exact absurd HA.out (by simp [ashlarlaw08_PropChain.l0])
    | succ k1 =>
      have H := HA.out
      clear HA
      simp only [ashlarlaw08_PropChain.l0] at H
      by_cases c5 : x7_1 < (wrap64 (2 + (Int.tmod (Go.bits .and .i64 a0 65535) 39)))
      · rw [if_pos c5] at H
        have c5b0 : decide (x7_1 < (wrap64 (2 + (Int.tmod (Go.bits .and .i64 a0 65535) 39)))) = true := decide_eq_true c5
        clear c5
        obtain ⟨y494, hy494⟩ : ∃ y_ : List Int, y_ = (([wrap64 (-x7_1), wrap64 (x7_1 + 1)] : List Int)) := ⟨_, rfl⟩
        replace H : (if x6_1.length < 5864062014805 then (ashlarlaw08_PropChain.l0 k1 (wrap64 (2 + (Int.tmod (Go.bits .and .i64 a0 65535) 39))) a1 t493 (x6_1 ++ [y494]) (wrap64 (x7_1 + 1))) else (none)) = some r := by first | (rw [hy494]; with_reducible exact H) | (have H2_ := (Option.bind_some _ _).symm.trans H; rw [hy494]; with_reducible exact H2_) | (have H2_ := (Option.bind_some _ _).symm.trans H; with_reducible exact H2_) | with_reducible exact H | (rw [hy494]; exact H) | exact H
        have Ny494 := Aside0.mk hy494
        clear hy494
        by_cases c6 : x6_1.length < 5864062014805
        · rw [if_pos c6] at H
          have LMc6 := Aside0.mk c6
          clear c6
          obtain ⟨y497, hy497⟩ : ∃ y_ : List (List Int), y_ = (x6_1 ++ [y494]) := ⟨_, rfl⟩
          replace H : (ashlarlaw08_PropChain.l0 k1 (wrap64 (2 + (Int.tmod (Go.bits .and .i64 a0 65535) 39))) a1 t493 y497 (wrap64 (x7_1 + 1))) = some r := by first | (rw [hy497]; with_reducible exact H) | (have H2_ := (Option.bind_some _ _).symm.trans H; rw [hy497]; with_reducible exact H2_) | (have H2_ := (Option.bind_some _ _).symm.trans H; with_reducible exact H2_) | with_reducible exact H | (rw [hy497]; exact H) | exact H
          have Ny497 := Aside0.mk hy497
          clear hy497
          have H' := Aside0.mk H
          clear H
          go_wp2_with (first | ((with_reducible refine gate_dst (N := 35) rfl ?_); (try (refine gate_guard (by rfl) ?_; dsimp only)); refine Kd.R_lit (Kd.int .i64) _ 3 ?hg (N := 35) ?hd (xs := ([wrap64 (-x7_1), wrap64 (x7_1 + 1)] : List Int)) (inner := [.int .i64 (wrap64 (-x7_1)), .int .i64 (wrap64 (x7_1 + 1))]) (ok := fun _ => True) (okp := fun _ => True) ?hr ?hp (fun _ hk => hk) trivial (Below.refl _ _) (Nat.le_refl _) (by simp) ?_; (case hd => rfl); (case hg => rfl); (case hr => first | (go_simp; done) | (go_simp; rfl)); (case hp => exact (Reps.one (show Kd.M (Kd.int .i64) _ _ _ (wrap64 (-x7_1)) [.int .i64 (wrap64 (-x7_1))] from rfl) (Reps.one (show Kd.M (Kd.int .i64) _ _ _ (wrap64 (x7_1 + 1)) [.int .i64 (wrap64 (x7_1 + 1))] from rfl) (Reps.none _ _)))); intro v495 w7 ho8 hb hg_ hnew_; clear hg_ hnew_; (first | rw [← Ny494.out] at ho8 | (simp only [Int.reduceToNat] at ho8; rw [← Ny494.out] at ho8)); have n0_ := Aside0.mk (Kd.N_elder' (by (with_reducible repeat (first | apply Kd.N_alloc | apply Kd.N_drewN | apply Kd.N_drew)); exact HO_6.out) (Kd.R_base ho8) hb); have n1_ := Aside0.mk (Kd.R_lower ho8 (below_size (by repeat (first | (with_reducible first | exact HB.out | apply below_alloc | apply pw_below_drewN | apply below_drew1) | exact HB.out)))); have n2_ := Aside0.mk (below_step (by repeat (first | (with_reducible first | exact HB.out | apply below_alloc | apply pw_below_drewN | apply below_drew1) | exact HB.out)) hb); clear HO_6; clear HB; have HO_6 := n0_; have HO496 := n1_; have HB := n2_; clear n0_ n1_ n2_; clear hb ho8; obtain ⟨Ao10, co10, eo10⟩ := Kd.R_slice HO496.out; subst eo10) | ((with_reducible refine gate_builtin (b := .append) (xs := #[.tmp 30, .tmp 36]) rfl ?_); (try (refine gate_guard (by rfl) ?_; dsimp only)); at_builtin; refine Kd.N_append (Kd.slice 3 (Kd.int .i64)) (w0 := w) w.heap.size rfl (.tmp 30) (.tmp 36) 22 35 (.slice none 0 0) 24 rfl Try.underlying22 info35 rfl (by decide) (by omega) u6 x6_1 y494 [.slice Ao10 y494.length co10] (fun _ => True) (fun k_ => ((fun _ => True)) k_ ∧ some k_ ≠ (u6 : Value).ownBlock) rfl rfl ?aP (fun _ hk => hk) ?aF ?aO ?aB ?aS ?aL ?_; (case aP => exact (Kd.FK_slice_mk (Kd.R_reads' (Kd.R_mono (ok' := (fun k_ => ((fun _ => True)) k_ ∧ some k_ ≠ (u6 : Value).ownBlock)) (Kd.R_apart' (HO496.out) (Kd.N_typed HO_6.out) (by decide)) (fun k_ hk => ⟨trivial, hk.2⟩))).2.1 (Kd.R_F (Kd.R_mono (ok' := (fun k_ => ((fun _ => True)) k_ ∧ some k_ ≠ (u6 : Value).ownBlock)) (Kd.R_apart' (HO496.out) (Kd.N_typed HO_6.out) (by decide)) (fun k_ hk => ⟨trivial, hk.2⟩))))); (case aB => exact (by repeat (first | (with_reducible first | exact HB.out | apply below_alloc | apply pw_below_drewN | apply below_drew1) | exact HB.out))); (case aF => exact (fun _ _ => trivial)); (case aO => exact (by (with_reducible repeat (first | apply Kd.N_alloc | apply Kd.N_drewN | apply Kd.N_drew)); exact Kd.N_mono HO_6.out (fun _ hk => trivial))); (case aS => exact (below_size (by repeat (first | (with_reducible first | exact HB.out | apply below_alloc | apply pw_below_drewN | apply below_drew1) | exact HB.out)))); (case aL => have := LMc6.out; omega); intro v498 w9 ho hb hg hat; rw [← Ny497.out] at ho; have n0_ := Aside0.mk (hb); have n1_ := Aside0.mk (ho); clear HB; clear HO_6; clear HO496; have HB := n0_; have HO499 := n1_; clear n0_ n1_; clear ho hb hg hat))
          go_roundg k1
          case measure => have := HK1.out; omega
          case rel => exact ⟨(y497), (wrap64 (x7_1 + 1)), (by first | rfl | (simp; done) | (simp [*]; done)), H', ⟨by have := HK1.out; omega⟩, ⟨by (with_reducible repeat (first | apply Kd.N_alloc | apply Kd.N_drewN | apply Kd.N_drew)); exact HO499.out⟩, ⟨by repeat (first | (with_reducible first | exact HB.out | apply below_alloc | apply pw_below_drewN | apply below_drew1) | exact HB.out)⟩⟩
        · rw [if_neg c6] at H
          exact absurd H (by simp)
      · rw [if_neg c5] at H
        have c5b0 : decide (x7_1 < (wrap64 (2 + (Int.tmod (Go.bits .and .i64 a0 65535) 39)))) = false := decide_eq_false c5
        clear c5
        have HC11 := Aside0.mk H
        clear H
        go_upto_if 38 with (fail)
        go_cut [] (fun wc => ∃ (kq : Nat) (x6_10 : List (List Int)), Aside0 (ashlarlaw08_PropChain.j2 kq (wrap64 (2 + (Int.tmod (Go.bits .and .i64 a0 65535) 39))) t493 x6_10 = some r) ∧ Aside0 (kq ≤ k1) ∧ Aside0 (Kd.N (Kd.slice 3 (Kd.int .i64)) 35 wc w.heap.size (fun _ => True) u6 x6_10) ∧ Aside0 (Below w.heap.size w wc))
        case first =>
          have H := HC11.out
          clear HC11
          by_cases c12 : a1 = true
          · subst c12
            have H1 : (ashlarlaw08_PropChain.l1 k1 (wrap64 (2 + (Int.tmod (Go.bits .and .i64 a0 65535) 39))) t493 x6_1 0) = some r := by rw [if_pos rfl] at H; exact H
            clear H
            have H := H1
            clear H1
            have H' := Aside0.mk H
            clear H
            go_wp2
            go_loopg [8] k1 (fun kq v8 w' => ∃ (x6_2 : List (List Int)) (x8_2 : Int), v8 = .int .i64 x8_2 ∧ Aside0 (ashlarlaw08_PropChain.l1 kq (wrap64 (2 + (Int.tmod (Go.bits .and .i64 a0 65535) 39))) t493 x6_2 x8_2 = some r) ∧ Aside0 (kq ≤ k1) ∧ Aside0 (Kd.N (Kd.slice 3 (Kd.int .i64)) 35 w' w.heap.size (fun _ => True) u6 x6_2) ∧ Aside0 (Below w.heap.size w w'))
            case atStart => exact ⟨(x6_1), (0), (by first | rfl | (simp; done) | (simp [*]; done)), H', ⟨Nat.le_refl _⟩, ⟨by (with_reducible repeat (first | apply Kd.N_alloc | apply Kd.N_drewN | apply Kd.N_drew)); exact HO_6.out⟩, ⟨by repeat (first | (with_reducible first | exact HB.out | apply below_alloc | apply pw_below_drewN | apply below_drew1) | exact HB.out)⟩⟩
            case round =>
              clear H'
              try clear c1
              try clear p2
              try clear c5
              try clear c5b0
              try clear c6
              try clear p6
              try clear c10
              try clear c12
              try clear p2
              obtain ⟨x6_2, x8_2, rfl, HA, HK2, HO_6, HB⟩ := hrel
              cases gk with
              | zero => exact absurd HA.out (by simp [ashlarlaw08_PropChain.l1])
              | succ k2 =>
                have H := HA.out
                clear HA
                simp only [ashlarlaw08_PropChain.l1] at H
                by_cases c13 : x8_2 < (wrap64 ((x6_2.length : Int) / 2))
                · rw [if_pos c13] at H
                  have c13b0 : decide (x8_2 < (wrap64 ((x6_2.length : Int) / 2))) = true := decide_eq_true c13
                  clear c13
                  (first | rw [c13b0] | (simp only [i64_w, i32_w]; rw [c13b0]) | skip)
                  by_cases c14 : 0 ≤ x8_2
                  · rw [if_pos c14] at H
                    have c14b0 : decide (0 ≤ x8_2) = true := decide_eq_true c14
                    clear c14
                    by_cases c15 : x8_2 < (x6_2.length : Int)
                    · rw [if_pos c15] at H
                      have c15b0 : decide (x8_2 < (x6_2.length : Int)) = true := decide_eq_true c15
                      clear c15
                      obtain ⟨ji16, hji16⟩ : ∃ j_ : Int, (wrap64 ((wrap64 ((x6_2.length : Int) - 1)) - x8_2)) = j_ := ⟨_, rfl⟩
                      replace H : (if 0 ≤ (ji16) then (if (ji16) < (x6_2.length : Int) then (ashlarlaw08_PropChain.l1 k2 (wrap64 (2 + (Int.tmod (Go.bits .and .i64 a0 65535) 39))) t493 ((x6_2.set (x8_2 : Int).toNat (rd_L2 x6_2 (ji16))).set ((ji16) : Int).toNat (rd_L2 x6_2 x8_2)) (wrap64 (x8_2 + 1))) else (none)) else (none)) = some r := by first | (rw [hji16] at H; exact H) | (simp only [hji16] at H ⊢; exact H)
                      have hji16w : (IntKind.i64.wrap ((wrap64 ((x6_2.length : Int) - 1)) - x8_2)) = ji16 := (i64_w _).trans hji16
                      by_cases c17 : 0 ≤ (ji16)
                      · rw [if_pos c17] at H
                        have c17b0 : decide (0 ≤ (ji16)) = true := decide_eq_true c17
                        clear c17
                        by_cases c18 : (ji16) < (x6_2.length : Int)
                        · rw [if_pos c18] at H
                          have c18b0 : decide ((ji16) < (x6_2.length : Int)) = true := decide_eq_true c18
                          clear c18
                          obtain ⟨y502, hy502⟩ : ∃ y_ : List (List Int), y_ = (x6_2.set (x8_2 : Int).toNat (rd_L2 x6_2 (ji16))) := ⟨_, rfl⟩
                          replace H : (ashlarlaw08_PropChain.l1 k2 (wrap64 (2 + (Int.tmod (Go.bits .and .i64 a0 65535) 39))) t493 (y502.set ((ji16) : Int).toNat (rd_L2 x6_2 x8_2)) (wrap64 (x8_2 + 1))) = some r := by first | (rw [hy502]; with_reducible exact H) | (have H2_ := (Option.bind_some _ _).symm.trans H; rw [hy502]; with_reducible exact H2_) | (have H2_ := (Option.bind_some _ _).symm.trans H; with_reducible exact H2_) | with_reducible exact H | (rw [hy502]; exact H) | exact H
                          have Ny502 := Aside0.mk hy502
                          clear hy502
                          obtain ⟨y503, hy503⟩ : ∃ y_ : List (List Int), y_ = (y502.set ((ji16) : Int).toNat (rd_L2 x6_2 x8_2)) := ⟨_, rfl⟩
                          replace H : (ashlarlaw08_PropChain.l1 k2 (wrap64 (2 + (Int.tmod (Go.bits .and .i64 a0 65535) 39))) t493 y503 (wrap64 (x8_2 + 1))) = some r := by first | (rw [hy503]; with_reducible exact H) | (have H2_ := (Option.bind_some _ _).symm.trans H; rw [hy503]; with_reducible exact H2_) | (have H2_ := (Option.bind_some _ _).symm.trans H; with_reducible exact H2_) | with_reducible exact H | (rw [hy503]; exact H) | exact H
                          have Ny503 := Aside0.mk hy503
                          clear hy503
                          have H' := Aside0.mk H
                          clear H
                          obtain ⟨Ao21, co21, eo21⟩ := Kd.N_slice HO_6.out
                          subst eo21
                          have p500 : 0 ≤ (x8_2 : Int) := of_decide_eq_true (by first | (with_reducible assumption) | assumption)
                          have q500 : x8_2 < (x6_2.length : Int) := of_decide_eq_true (by first | (with_reducible assumption) | assumption)
                          obtain ⟨ad500, A500_0, c500_0, e500, hx500_0, hl500_0, hi500_0⟩ := at_L2 (Kd.N_reads' HO_6.out).2.2 x8_2 p500 q500
                          cases e500
                          obtain ⟨ce500, hce500, hMe500, hcc500⟩ := Kd.N_get HO_6.out [] x8_2 p500 (by first | exact q500 | exact of_decide_eq_true (by first | (with_reducible assumption) | assumption) | (have e_ := (Kd.N_reads' HO_6.out).1; omega))
                          obtain ⟨ua500_0, uc500_0, rfl, ul500_0, ge500_0⟩ := Kd.FK_slice_open hMe500
                          have hv500_0 := hcc500 0 _ rfl
                          rw [Nat.add_zero, show ((Kd.slice 3 (Kd.int .i64))).sz = 1 from rfl, Nat.mul_one] at hv500_0
                          replace hv500_0 := Option.some.inj (hv500_0.symm.trans hx500_0)
                          injection hv500_0 with hva_ hvn_ hvc_
                          rw [hva_] at ge500_0
                          rw [hvc_] at ul500_0
                          have HL500_0 := Aside0.mk (show Kd.V (Kd.int .i64) 3 _ w.heap.size _ _ (rd_L2 x6_2 x8_2) from Kd.V_mk ul500_0 ge500_0)
                          clear hva_ hvn_ hvc_ ge500_0 ul500_0
                          clear hcc500 hce500
                          have HR500_0 := Aside0.mk hi500_0
                          have HC500_0 := Aside0.mk hl500_0
                          clear hi500_0 hl500_0
                          replace p500 := eq_true p500
                          replace q500 := eq_true q500
                          have p501 : 0 ≤ ((ji16) : Int) := of_decide_eq_true (by first | (with_reducible assumption) | assumption)
                          have q501 : (ji16) < (x6_2.length : Int) := of_decide_eq_true (by first | (with_reducible assumption) | assumption)
                          obtain ⟨ad501, A501_0, c501_0, e501, hx501_0, hl501_0, hi501_0⟩ := at_L2 (Kd.N_reads' HO_6.out).2.2 (ji16) p501 q501
                          obtain rfl : ad500 = ad501 := (by injection e501)
                          obtain ⟨ce501, hce501, hMe501, hcc501⟩ := Kd.N_get HO_6.out [] (ji16) p501 (by first | exact q501 | exact of_decide_eq_true (by first | (with_reducible assumption) | assumption) | (have e_ := (Kd.N_reads' HO_6.out).1; omega))
                          obtain ⟨ua501_0, uc501_0, rfl, ul501_0, ge501_0⟩ := Kd.FK_slice_open hMe501
                          have hv501_0 := hcc501 0 _ rfl
                          rw [Nat.add_zero, show ((Kd.slice 3 (Kd.int .i64))).sz = 1 from rfl, Nat.mul_one] at hv501_0
                          replace hv501_0 := Option.some.inj (hv501_0.symm.trans hx501_0)
                          injection hv501_0 with hva_ hvn_ hvc_
                          rw [hva_] at ge501_0
                          rw [hvc_] at ul501_0
                          have HL501_0 := Aside0.mk (show Kd.V (Kd.int .i64) 3 _ w.heap.size _ _ (rd_L2 x6_2 (ji16)) from Kd.V_mk ul501_0 ge501_0)
                          clear hva_ hvn_ hvc_ ge501_0 ul501_0
                          clear hcc501 hce501
                          have HR501_0 := Aside0.mk hi501_0
                          have HC501_0 := Aside0.mk hl501_0
                          clear hi501_0 hl501_0
                          replace p501 := eq_true p501
                          replace q501 := eq_true q501
                          have p19 : 0 ≤ (x8_2 : Int) := of_decide_eq_true (by first | (with_reducible assumption) | assumption)
                          have q19 : (x8_2 : Int) < ((x6_2.length : Int) : Int) := of_decide_eq_true (by first | (with_reducible assumption) | assumption)
                          obtain ⟨go19, co19, eo19, gb19, gl19, cl19, HG19⟩ := Kd.N_form HO_6.out (by omega)
                          (first | cases eo19 | (injection eo19 with ea_ en_ ec_; (first | subst ea_ | (injection ea_ with ea_; subst ea_)); subst ec_; clear en_))
                          have GB19 := Aside0.mk gb19
                          have GG19 := Aside0.mk HG19
                          clear gb19 gl19 HG19
                          (first | simp only [add_plain] at hx500_0 | skip)
                          (first | simp only [add_plain] at hx501_0 | skip)
                          obtain ⟨ce19, hcl19, hM19, hcc19, hfr19⟩ := Kd.N_elem HO_6.out [] (x8_2 : Int) p19 q19
                          obtain ⟨ua19_0, uc19_0, rfl, ul19_0, ge19_0⟩ := Kd.FK_slice_open hM19
                          have hx19_0 := hcc19 0 _ rfl
                          have hf19_0 := hfr19 0
                          (try simp only [show ((Kd.slice 3 (Kd.int .i64))).sz = 1 from rfl, Nat.mul_one, Nat.add_zero] at hx19_0)
                          (try simp only [show ((Kd.slice 3 (Kd.int .i64))).sz = 1 from rfl, Nat.mul_one, Nat.add_zero] at hf19_0)
                          clear hcl19 hcc19 hfr19 hM19
                          replace p19 := eq_true p19
                          replace q19 := eq_true q19
                          have HX22 := Aside0.mk (show Kd.N (Kd.slice 3 (Kd.int .i64)) 35 wr w.heap.size (fun _ => True) (.slice (some ⟨go19, 0, none⟩) x6_2.length co21) x6_2 from (by (with_reducible repeat (first | apply Kd.N_alloc | apply Kd.N_drewN | apply Kd.N_drew)); exact HO_6.out))
                          obtain ⟨ce22, hcl22, hM22, hcc22, hfr22⟩ := Kd.N_elem HX22.out [] (x8_2 : Int) (of_decide_eq_true (by first | (with_reducible assumption) | assumption)) (by have h_ : (x8_2 : Int) < ((x6_2.length : Int) : Int) := of_decide_eq_true (by first | (with_reducible assumption) | assumption); first | exact h_ | (have e_ := (Kd.N_reads' HO_6.out).1; omega) | simpa using h_)
                          obtain ⟨ua22_0, uc22_0, rfl, ul22_0, ge22_0⟩ := Kd.FK_slice_open hM22
                          have HP22 := Kd.N_seg HX22.out (x8_2 : Int) (of_decide_eq_true (by first | (with_reducible assumption) | assumption)) (by have h_ : (x8_2 : Int) < ((x6_2.length : Int) : Int) := of_decide_eq_true (by first | (with_reducible assumption) | assumption); first | exact h_ | (have e_ := (Kd.N_reads' HO_6.out).1; omega) | simpa using h_) (seg := [.slice A501_0 (rd_L2 x6_2 (ji16)).length c501_0]) (j := 0) hcl22 hcc22 (show 1 ≤ 1 from by decide) (x' := rd_L2 x6_2 (ji16)) (Kd.FK_slice_mk (Kd.V_reads' (Kd.V_mono (ok' := (fun k_ => ((fun _ => True)) k_ ∧ k_ ≠ go19)) (HL501_0.out) (fun k_ hk => ⟨trivial, fun e_ => (hk.2) (by rw [e_]; rfl)⟩))).2.1 (Kd.V_F (Kd.V_mono (ok' := (fun k_ => ((fun _ => True)) k_ ∧ k_ ≠ go19)) (HL501_0.out) (fun k_ hk => ⟨trivial, fun e_ => (hk.2) (by rw [e_]; rfl)⟩)))) (fun _ hk => hk)
                          have hx22_0 := hcc22 0 _ rfl
                          (try simp only [show ((Kd.slice 3 (Kd.int .i64))).sz = 1 from rfl, Nat.mul_one, Nat.add_zero] at hx22_0)
                          have hf22_0 := hfr22 0
                          (try simp only [show ((Kd.slice 3 (Kd.int .i64))).sz = 1 from rfl, Nat.mul_one, Nat.add_zero] at hf22_0)
                          clear hcl22 hcc22 hfr22 hM22
                          (try simp only [show ((Kd.slice 3 (Kd.int .i64))).sz = 1 from rfl, Nat.mul_one, Nat.add_zero] at HP22)
                          (try simp only [show ((Kd.slice 3 (Kd.int .i64))).sz = 1 from rfl, Nat.mul_one, Nat.add_zero] at HP22)
                          go_wp2_with (first | ((with_reducible refine gate_store (t := 35) (p := 60) rfl ?_); refine store_event (t := 35) (p := 60) (v := ?vo_w23) (w1 := (wr.setCell ⟨go19, (x8_2 : Int).toNat, none⟩ (.slice A501_0 (rd_L2 x6_2 (ji16)).length c501_0))) ?hg ?ho ?hn ?hr ?_; (case ho => rfl); (case hg => rfl); (case hn => rfl); (case hr => first | (go_simp; done) | (go_simp; rfl)); intro w23 hw; have hg : wr.grownBy w23 (some go19) := (by rw [hw]; exact HP22.2); have hp_ : Kd.N (Kd.slice 3 (Kd.int .i64)) 35 w23 w.heap.size (fun _ => True) (.slice (some ⟨go19, 0, none⟩) x6_2.length co21) y502 := (by rw [hw, Ny502.out]; exact HP22.1); clear HP22; have n0_ := Aside0.mk (hp_); have n1_ := Aside0.mk (Kd.V_afterv (v := (.slice (some ⟨go19, 0, none⟩) x6_2.length co21)) (v1 := (.slice (some ⟨go19, 0, none⟩) x6_2.length co21)) (ok := (fun _ => True)) (by (with_reducible repeat (first | apply Kd.V_alloc | apply Kd.V_drewN | apply Kd.V_drew)); exact HL500_0.out) hg (.inl rfl)); have n2_ := Aside0.mk (Kd.V_afterv (v := (.slice (some ⟨go19, 0, none⟩) x6_2.length co21)) (v1 := (.slice (some ⟨go19, 0, none⟩) x6_2.length co21)) (ok := (fun _ => True)) (by (with_reducible repeat (first | apply Kd.V_alloc | apply Kd.V_drewN | apply Kd.V_drew)); exact HL501_0.out) hg (.inl rfl)); have n3_ := Aside0.mk ((by rw [hw]; exact below_set (HB.out) GB19.out : Below w.heap.size w w23)); clear HO_6; clear HL500_0; clear HL501_0; clear HB; have HO_6 := n0_; have HL500_0 := n1_; have HL501_0 := n2_; have HB := n3_; clear n0_ n1_ n2_ n3_; clear hg hw hp_; have p20 : 0 ≤ ((ji16) : Int) := of_decide_eq_true (by first | (with_reducible assumption) | assumption); have q20 : ((ji16) : Int) < ((x6_2.length : Int) : Int) := of_decide_eq_true (by first | (with_reducible assumption) | assumption); obtain ⟨ce20, hcl20, hM20, hcc20, hfr20⟩ := Kd.N_elem HO_6.out [] ((ji16) : Int) p20 q20; obtain ⟨ua20_0, uc20_0, rfl, ul20_0, ge20_0⟩ := Kd.FK_slice_open hM20; have hx20_0 := hcc20 0 _ rfl; have hf20_0 := hfr20 0; (try simp only [show ((Kd.slice 3 (Kd.int .i64))).sz = 1 from rfl, Nat.mul_one, Nat.add_zero] at hx20_0); (try simp only [show ((Kd.slice 3 (Kd.int .i64))).sz = 1 from rfl, Nat.mul_one, Nat.add_zero] at hf20_0); clear hcl20 hcc20 hfr20 hM20; replace p20 := eq_true p20; replace q20 := eq_true q20; have HX24 := Aside0.mk (show Kd.N (Kd.slice 3 (Kd.int .i64)) 35 w23 w.heap.size (fun _ => True) (.slice (some ⟨go19, 0, none⟩) x6_2.length co21) y502 from (by (with_reducible repeat (first | apply Kd.N_alloc | apply Kd.N_drewN | apply Kd.N_drew)); exact HO_6.out)); obtain ⟨ce24, hcl24, hM24, hcc24, hfr24⟩ := Kd.N_elem HX24.out [] ((ji16) : Int) (of_decide_eq_true (by first | (with_reducible assumption) | assumption)) (by have h_ : ((ji16) : Int) < ((x6_2.length : Int) : Int) := of_decide_eq_true (by first | (with_reducible assumption) | assumption); first | exact h_ | (have e_ := (Kd.N_reads' HO_6.out).1; omega) | simpa using h_); obtain ⟨ua24_0, uc24_0, rfl, ul24_0, ge24_0⟩ := Kd.FK_slice_open hM24; have HP24 := Kd.N_seg HX24.out ((ji16) : Int) (of_decide_eq_true (by first | (with_reducible assumption) | assumption)) (by have h_ : ((ji16) : Int) < ((x6_2.length : Int) : Int) := of_decide_eq_true (by first | (with_reducible assumption) | assumption); first | exact h_ | (have e_ := (Kd.N_reads' HO_6.out).1; omega) | simpa using h_) (seg := [.slice A500_0 (rd_L2 x6_2 x8_2).length c500_0]) (j := 0) hcl24 hcc24 (show 1 ≤ 1 from by decide) (x' := rd_L2 x6_2 x8_2) (Kd.FK_slice_mk (Kd.V_reads' (Kd.V_mono (ok' := (fun k_ => ((fun _ => True)) k_ ∧ k_ ≠ go19)) (HL500_0.out) (fun k_ hk => ⟨trivial, fun e_ => (hk.2) (by rw [e_]; rfl)⟩))).2.1 (Kd.V_F (Kd.V_mono (ok' := (fun k_ => ((fun _ => True)) k_ ∧ k_ ≠ go19)) (HL500_0.out) (fun k_ hk => ⟨trivial, fun e_ => (hk.2) (by rw [e_]; rfl)⟩)))) (fun _ hk => hk); have hx24_0 := hcc24 0 _ rfl; (try simp only [show ((Kd.slice 3 (Kd.int .i64))).sz = 1 from rfl, Nat.mul_one, Nat.add_zero] at hx24_0); have hf24_0 := hfr24 0; (try simp only [show ((Kd.slice 3 (Kd.int .i64))).sz = 1 from rfl, Nat.mul_one, Nat.add_zero] at hf24_0); clear hcl24 hcc24 hfr24 hM24; (try simp only [show ((Kd.slice 3 (Kd.int .i64))).sz = 1 from rfl, Nat.mul_one, Nat.add_zero] at HP24); (try simp only [show ((Kd.slice 3 (Kd.int .i64))).sz = 1 from rfl, Nat.mul_one, Nat.add_zero] at HP24)) | ((with_reducible refine gate_store (t := 35) (p := 68) rfl ?_); refine store_event (t := 35) (p := 68) (v := ?vo_w25) (w1 := (w23.setCell ⟨go19, ((ji16) : Int).toNat, none⟩ (.slice A500_0 (rd_L2 x6_2 x8_2).length c500_0))) ?hg ?ho ?hn ?hr ?_; (case ho => rfl); (case hg => rfl); (case hn => rfl); (case hr => first | (go_simp; done) | (go_simp; rfl)); intro w25 hw; have hg : w23.grownBy w25 (some go19) := (by rw [hw]; exact HP24.2); have hp_ : Kd.N (Kd.slice 3 (Kd.int .i64)) 35 w25 w.heap.size (fun _ => True) (.slice (some ⟨go19, 0, none⟩) x6_2.length co21) y503 := (by rw [hw, Ny503.out]; exact HP24.1); clear HP24; have n0_ := Aside0.mk (hp_); have n1_ := Aside0.mk (Kd.V_afterv (v := (.slice (some ⟨go19, 0, none⟩) x6_2.length co21)) (v1 := (.slice (some ⟨go19, 0, none⟩) x6_2.length co21)) (ok := (fun _ => True)) (by (with_reducible repeat (first | apply Kd.V_alloc | apply Kd.V_drewN | apply Kd.V_drew)); exact HL500_0.out) hg (.inl rfl)); have n2_ := Aside0.mk (Kd.V_afterv (v := (.slice (some ⟨go19, 0, none⟩) x6_2.length co21)) (v1 := (.slice (some ⟨go19, 0, none⟩) x6_2.length co21)) (ok := (fun _ => True)) (by (with_reducible repeat (first | apply Kd.V_alloc | apply Kd.V_drewN | apply Kd.V_drew)); exact HL501_0.out) hg (.inl rfl)); have n3_ := Aside0.mk ((by rw [hw]; exact below_set (HB.out) GB19.out : Below w.heap.size w w25)); clear HO_6; clear HL500_0; clear HL501_0; clear HB; have HO_6 := n0_; have HL500_0 := n1_; have HL501_0 := n2_; have HB := n3_; clear n0_ n1_ n2_ n3_; clear hg hw hp_))
                          go_roundg k2
                          case measure => have := HK1.out; have := HK2.out; omega
                          case rel => exact ⟨(y503), (wrap64 (x8_2 + 1)), (by first | rfl | (simp; done) | (simp [*]; done)), H', ⟨by have := HK1.out; have := HK2.out; omega⟩, ⟨by (with_reducible repeat (first | apply Kd.N_alloc | apply Kd.N_drewN | apply Kd.N_drew)); exact HO_6.out⟩, ⟨by repeat (first | (with_reducible first | exact HB.out | apply below_alloc | apply pw_below_drewN | apply below_drew1) | exact HB.out)⟩⟩
                        · rw [if_neg c18] at H
                          exact absurd H (by simp)
                      · rw [if_neg c17] at H
                        exact absurd H (by simp)
                    · rw [if_neg c15] at H
                      exact absurd H (by simp)
                  · rw [if_neg c14] at H
                    exact absurd H (by simp)
                · rw [if_neg c13] at H
                  have c13b0 : decide (x8_2 < (wrap64 ((x6_2.length : Int) / 2))) = false := decide_eq_false c13
                  clear c13
                  (first | rw [c13b0] | (simp only [i64_w, i32_w]; rw [c13b0]) | skip)
                  have H' := Aside0.mk H
                  clear H
                  obtain ⟨Ao26, co26, eo26⟩ := Kd.N_slice HO_6.out
                  subst eo26
                  go_wp2
                  go_meet
                  case rel => exact ⟨_, (x6_2), H', ⟨by have := HK1.out; have := HK2.out; first | omega | exact Nat.le_refl _⟩, ⟨by (with_reducible repeat (first | apply Kd.N_alloc | apply Kd.N_drewN | apply Kd.N_drew)); exact HO_6.out⟩, ⟨by repeat (first | (with_reducible first | exact HB.out | apply below_alloc | apply pw_below_drewN | apply below_drew1) | exact HB.out)⟩⟩
          · replace c12 := Bool.eq_false_iff.mpr c12
            subst c12
            have H1 : (ashlarlaw08_PropChain.j2 k1 (wrap64 (2 + (Int.tmod (Go.bits .and .i64 a0 65535) 39))) t493 x6_1) = some r := by rw [if_neg (show ¬ (false = true) by decide)] at H; exact H
            clear H
            have H := H1
            clear H1
            have H' := Aside0.mk H
            clear H
            go_wp2
            go_meet
            case rel => exact ⟨_, (x6_1), H', ⟨by have := HK1.out; first | omega | exact Nat.le_refl _⟩, ⟨by (with_reducible repeat (first | apply Kd.N_alloc | apply Kd.N_drewN | apply Kd.N_drew)); exact HO_6.out⟩, ⟨by repeat (first | (with_reducible first | exact HB.out | apply below_alloc | apply pw_below_drewN | apply below_drew1) | exact HB.out)⟩⟩
        case rest =>
          clear HC11
          try clear c1
          try clear p1
          try clear q1
          try clear hx1
          try clear c2
          try clear p2
          try clear q2
          try clear hx2
          try clear hf2
          try clear c5
          try clear c5b0
          try clear p5
          try clear q5
          try clear hx5
          try clear c6
          try clear p6
          try clear c10
          try clear c12
          try clear c13
          try clear c13b0
          try clear c14
          try clear c14b0
          try clear c15
          try clear c15b0
          try clear c17
          try clear c17b0
          try clear c18
          try clear c18b0
          try clear c19
          try clear p19
          try clear q19
          try clear hx19
          try clear hf19
          try clear c20
          try clear p20
          try clear q20
          try clear hx20
          try clear hf20
          try clear c22
          try clear hx22
          try clear hf22
          try clear c24
          try clear hx24
          try clear hf24
          try clear hx19_0
          try clear hx20_0
          try clear hx22_0
          try clear hx24_0
          try clear hx500_0
          try clear hx501_0
          try clear p19
          try clear p2
          try clear p20
          try clear p500
          try clear p501
          try clear p6
          try clear q19
          try clear q20
          try clear q500
          try clear q501
          obtain ⟨kq, x6_10, HA, HJ10, HO_6, HB⟩ := hcut
          cases kq with
          | zero => exact absurd HA.out (by simp [ashlarlaw08_PropChain.j2])
          | succ kj10 =>
            have H := HA.out
            clear HA
            simp only [ashlarlaw08_PropChain.j2] at H
            obtain ⟨ji27, hji27⟩ : ∃ j_ : Int, (wrap64 ((wrap64 (2 + (Int.tmod (Go.bits .and .i64 a0 65535) 39))) + 1)) = j_ := ⟨_, rfl⟩
            replace H : (if 0 ≤ (ji27) then (if (ji27 : Int).toNat ≤ 281474976710656 then ((some (List.replicate (ji27 : Int).toNat 0 : List Int)).bind fun y504 => (if 1 < (y504.length : Int) then ((some (List.replicate (ji27 : Int).toNat 0 : List Int)).bind fun y508 => (if 0 ≤ (wrap64 (2 + (Int.tmod (Go.bits .and .i64 a0 65535) 39))) then (if (wrap64 (2 + (Int.tmod (Go.bits .and .i64 a0 65535) 39))) < (y508.length : Int) then ((some (List.replicate (ji27 : Int).toNat 0 : List Int)).bind fun y512 => (if 1 < (y512.length : Int) then (if (wrap64 (2 + (Int.tmod (Go.bits .and .i64 a0 65535) 39))) < (y512.length : Int) then ((prop_Unit.f kj10 x6_10 (y504.set (1 : Int).toNat 1)).bind fun bt517 => ((prop_Unit.f kj10 x6_10 (y508.set ((wrap64 (2 + (Int.tmod (Go.bits .and .i64 a0 65535) 39))) : Int).toNat (-1))).bind fun bt521 => ((prop_Unit.f kj10 x6_10 ((y512.set (1 : Int).toNat 1).set ((wrap64 (2 + (Int.tmod (Go.bits .and .i64 a0 65535) 39))) : Int).toNat (-1))).bind fun bt525 => (if (bt517.1.length : Int) ≤ (wrap64 (2 + (Int.tmod (Go.bits .and .i64 a0 65535) 39))) then (ashlarlaw08_PropChain.j3 kj10 (wrap64 (2 + (Int.tmod (Go.bits .and .i64 a0 65535) 39))) t493 bt517.1 bt517.2 bt521.1 bt521.2 bt525.2 true) else (ashlarlaw08_PropChain.j3 kj10 (wrap64 (2 + (Int.tmod (Go.bits .and .i64 a0 65535) 39))) t493 bt517.1 bt517.2 bt521.1 bt521.2 bt525.2 (decide ((bt521.1.length : Int) ≤ (wrap64 (2 + (Int.tmod (Go.bits .and .i64 a0 65535) 39)))))))))) else (none)) else (none))) else (none)) else (none))) else (none))) else (none)) else (none)) = some r := by first | (rw [hji27] at H; exact H) | (simp only [hji27] at H ⊢; exact H)
            have hji27w : (IntKind.i64.wrap ((wrap64 (2 + (Int.tmod (Go.bits .and .i64 a0 65535) 39))) + 1)) = ji27 := (i64_w _).trans hji27
            by_cases c28 : 0 ≤ (ji27)
            · rw [if_pos c28] at H
              have c28b0 := eq_true c28
              have c28b1 : decide (0 ≤ (ji27)) = true := decide_eq_true c28
              clear c28
              by_cases c29 : (ji27 : Int).toNat ≤ 281474976710656
              · rw [if_pos c29] at H
                have c29b0 := eq_true c29
                have c29b1 : decide ((ji27 : Int).toNat ≤ 281474976710656) = true := decide_eq_true c29
                clear c29
                obtain ⟨y504, hy504⟩ : ∃ y_ : List Int, y_ = (List.replicate (ji27 : Int).toNat 0) := ⟨_, rfl⟩
                replace H : (if 1 < (y504.length : Int) then ((some (List.replicate (ji27 : Int).toNat 0 : List Int)).bind fun y508 => (if 0 ≤ (wrap64 (2 + (Int.tmod (Go.bits .and .i64 a0 65535) 39))) then (if (wrap64 (2 + (Int.tmod (Go.bits .and .i64 a0 65535) 39))) < (y508.length : Int) then ((some (List.replicate (ji27 : Int).toNat 0 : List Int)).bind fun y512 => (if 1 < (y512.length : Int) then (if (wrap64 (2 + (Int.tmod (Go.bits .and .i64 a0 65535) 39))) < (y512.length : Int) then ((prop_Unit.f kj10 x6_10 (y504.set (1 : Int).toNat 1)).bind fun bt517 => ((prop_Unit.f kj10 x6_10 (y508.set ((wrap64 (2 + (Int.tmod (Go.bits .and .i64 a0 65535) 39))) : Int).toNat (-1))).bind fun bt521 => ((prop_Unit.f kj10 x6_10 ((y512.set (1 : Int).toNat 1).set ((wrap64 (2 + (Int.tmod (Go.bits .and .i64 a0 65535) 39))) : Int).toNat (-1))).bind fun bt525 => (if (bt517.1.length : Int) ≤ (wrap64 (2 + (Int.tmod (Go.bits .and .i64 a0 65535) 39))) then (ashlarlaw08_PropChain.j3 kj10 (wrap64 (2 + (Int.tmod (Go.bits .and .i64 a0 65535) 39))) t493 bt517.1 bt517.2 bt521.1 bt521.2 bt525.2 true) else (ashlarlaw08_PropChain.j3 kj10 (wrap64 (2 + (Int.tmod (Go.bits .and .i64 a0 65535) 39))) t493 bt517.1 bt517.2 bt521.1 bt521.2 bt525.2 (decide ((bt521.1.length : Int) ≤ (wrap64 (2 + (Int.tmod (Go.bits .and .i64 a0 65535) 39)))))))))) else (none)) else (none))) else (none)) else (none))) else (none)) = some r := by first | (rw [hy504]; with_reducible exact H) | (have H2_ := (Option.bind_some _ _).symm.trans H; rw [hy504]; with_reducible exact H2_) | (have H2_ := (Option.bind_some _ _).symm.trans H; with_reducible exact H2_) | with_reducible exact H | (rw [hy504]; exact H) | exact H
                have Ny504 := Aside0.mk hy504
                clear hy504
                by_cases c30 : 1 < (y504.length : Int)
                · rw [if_pos c30] at H
                  have c30b0 : decide (1 < (y504.length : Int)) = true := decide_eq_true c30
                  have c30b1 : decide (1 < y504.length) = true := decide_eq_true (by omega)
                  clear c30
                  obtain ⟨y507, hy507⟩ : ∃ y_ : List Int, y_ = (y504.set (1 : Int).toNat 1) := ⟨_, rfl⟩
                  replace H : ((some (List.replicate (ji27 : Int).toNat 0 : List Int)).bind fun y508 => (if 0 ≤ (wrap64 (2 + (Int.tmod (Go.bits .and .i64 a0 65535) 39))) then (if (wrap64 (2 + (Int.tmod (Go.bits .and .i64 a0 65535) 39))) < (y508.length : Int) then ((some (List.replicate (ji27 : Int).toNat 0 : List Int)).bind fun y512 => (if 1 < (y512.length : Int) then (if (wrap64 (2 + (Int.tmod (Go.bits .and .i64 a0 65535) 39))) < (y512.length : Int) then ((prop_Unit.f kj10 x6_10 y507).bind fun bt517 => ((prop_Unit.f kj10 x6_10 (y508.set ((wrap64 (2 + (Int.tmod (Go.bits .and .i64 a0 65535) 39))) : Int).toNat (-1))).bind fun bt521 => ((prop_Unit.f kj10 x6_10 ((y512.set (1 : Int).toNat 1).set ((wrap64 (2 + (Int.tmod (Go.bits .and .i64 a0 65535) 39))) : Int).toNat (-1))).bind fun bt525 => (if (bt517.1.length : Int) ≤ (wrap64 (2 + (Int.tmod (Go.bits .and .i64 a0 65535) 39))) then (ashlarlaw08_PropChain.j3 kj10 (wrap64 (2 + (Int.tmod (Go.bits .and .i64 a0 65535) 39))) t493 bt517.1 bt517.2 bt521.1 bt521.2 bt525.2 true) else (ashlarlaw08_PropChain.j3 kj10 (wrap64 (2 + (Int.tmod (Go.bits .and .i64 a0 65535) 39))) t493 bt517.1 bt517.2 bt521.1 bt521.2 bt525.2 (decide ((bt521.1.length : Int) ≤ (wrap64 (2 + (Int.tmod (Go.bits .and .i64 a0 65535) 39)))))))))) else (none)) else (none))) else (none)) else (none))) = some r := by first | (rw [hy507]; with_reducible exact H) | (have H2_ := (Option.bind_some _ _).symm.trans H; rw [hy507]; with_reducible exact H2_) | (have H2_ := (Option.bind_some _ _).symm.trans H; with_reducible exact H2_) | with_reducible exact H | (rw [hy507]; exact H) | exact H
                  have Ny507 := Aside0.mk hy507
                  clear hy507
                  obtain ⟨y508, hy508⟩ : ∃ y_ : List Int, y_ = (List.replicate (ji27 : Int).toNat 0) := ⟨_, rfl⟩
                  replace H : (if 0 ≤ (wrap64 (2 + (Int.tmod (Go.bits .and .i64 a0 65535) 39))) then (if (wrap64 (2 + (Int.tmod (Go.bits .and .i64 a0 65535) 39))) < (y508.length : Int) then ((some (List.replicate (ji27 : Int).toNat 0 : List Int)).bind fun y512 => (if 1 < (y512.length : Int) then (if (wrap64 (2 + (Int.tmod (Go.bits .and .i64 a0 65535) 39))) < (y512.length : Int) then ((prop_Unit.f kj10 x6_10 y507).bind fun bt517 => ((prop_Unit.f kj10 x6_10 (y508.set ((wrap64 (2 + (Int.tmod (Go.bits .and .i64 a0 65535) 39))) : Int).toNat (-1))).bind fun bt521 => ((prop_Unit.f kj10 x6_10 ((y512.set (1 : Int).toNat 1).set ((wrap64 (2 + (Int.tmod (Go.bits .and .i64 a0 65535) 39))) : Int).toNat (-1))).bind fun bt525 => (if (bt517.1.length : Int) ≤ (wrap64 (2 + (Int.tmod (Go.bits .and .i64 a0 65535) 39))) then (ashlarlaw08_PropChain.j3 kj10 (wrap64 (2 + (Int.tmod (Go.bits .and .i64 a0 65535) 39))) t493 bt517.1 bt517.2 bt521.1 bt521.2 bt525.2 true) else (ashlarlaw08_PropChain.j3 kj10 (wrap64 (2 + (Int.tmod (Go.bits .and .i64 a0 65535) 39))) t493 bt517.1 bt517.2 bt521.1 bt521.2 bt525.2 (decide ((bt521.1.length : Int) ≤ (wrap64 (2 + (Int.tmod (Go.bits .and .i64 a0 65535) 39)))))))))) else (none)) else (none))) else (none)) else (none)) = some r := by first | (rw [hy508]; with_reducible exact H) | (have H2_ := (Option.bind_some _ _).symm.trans H; rw [hy508]; with_reducible exact H2_) | (have H2_ := (Option.bind_some _ _).symm.trans H; with_reducible exact H2_) | with_reducible exact H | (rw [hy508]; exact H) | exact H
                  have Ny508 := Aside0.mk hy508
                  clear hy508
                  obtain ⟨ji32, hji32⟩ : ∃ j_ : Int, (wrap64 (2 + (Int.tmod (Go.bits .and .i64 a0 65535) 39))) = j_ := ⟨_, rfl⟩
                  replace H : (if 0 ≤ (ji32) then (if (ji32) < (y508.length : Int) then ((some (List.replicate (ji27 : Int).toNat 0 : List Int)).bind fun y512 => (if 1 < (y512.length : Int) then (if (ji32) < (y512.length : Int) then ((prop_Unit.f kj10 x6_10 y507).bind fun bt517 => ((prop_Unit.f kj10 x6_10 (y508.set ((ji32) : Int).toNat (-1))).bind fun bt521 => ((prop_Unit.f kj10 x6_10 ((y512.set (1 : Int).toNat 1).set ((ji32) : Int).toNat (-1))).bind fun bt525 => (if (bt517.1.length : Int) ≤ (ji32) then (ashlarlaw08_PropChain.j3 kj10 (ji32) t493 bt517.1 bt517.2 bt521.1 bt521.2 bt525.2 true) else (ashlarlaw08_PropChain.j3 kj10 (ji32) t493 bt517.1 bt517.2 bt521.1 bt521.2 bt525.2 (decide ((bt521.1.length : Int) ≤ (ji32)))))))) else (none)) else (none))) else (none)) else (none)) = some r := by first | (rw [hji32] at H; exact H) | (simp only [hji32] at H ⊢; exact H)
                  (try rw [hji32] at c5b0)
                  have hji32w : (IntKind.i64.wrap (2 + (Int.tmod (Go.bits .and .i64 a0 65535) 39))) = ji32 := (i64_w _).trans hji32
                  (try rw [hji32] at hji27 hji27w)
                  by_cases c33 : 0 ≤ (ji32)
                  · rw [if_pos c33] at H
                    have c33b0 : decide (0 ≤ (ji32)) = true := decide_eq_true c33
                    clear c33
                    by_cases c34 : (ji32) < (y508.length : Int)
                    · rw [if_pos c34] at H
                      have c34b0 : decide ((ji32) < (y508.length : Int)) = true := decide_eq_true c34
                      clear c34
                      obtain ⟨y511, hy511⟩ : ∃ y_ : List Int, y_ = (y508.set ((ji32) : Int).toNat (-1)) := ⟨_, rfl⟩
                      replace H : ((some (List.replicate (ji27 : Int).toNat 0 : List Int)).bind fun y512 => (if 1 < (y512.length : Int) then (if (ji32) < (y512.length : Int) then ((prop_Unit.f kj10 x6_10 y507).bind fun bt517 => ((prop_Unit.f kj10 x6_10 y511).bind fun bt521 => ((prop_Unit.f kj10 x6_10 ((y512.set (1 : Int).toNat 1).set ((ji32) : Int).toNat (-1))).bind fun bt525 => (if (bt517.1.length : Int) ≤ (ji32) then (ashlarlaw08_PropChain.j3 kj10 (ji32) t493 bt517.1 bt517.2 bt521.1 bt521.2 bt525.2 true) else (ashlarlaw08_PropChain.j3 kj10 (ji32) t493 bt517.1 bt517.2 bt521.1 bt521.2 bt525.2 (decide ((bt521.1.length : Int) ≤ (ji32)))))))) else (none)) else (none))) = some r := by first | (rw [hy511]; with_reducible exact H) | (have H2_ := (Option.bind_some _ _).symm.trans H; rw [hy511]; with_reducible exact H2_) | (have H2_ := (Option.bind_some _ _).symm.trans H; with_reducible exact H2_) | with_reducible exact H | (rw [hy511]; exact H) | exact H
                      have Ny511 := Aside0.mk hy511
                      clear hy511
                      obtain ⟨y512, hy512⟩ : ∃ y_ : List Int, y_ = (List.replicate (ji27 : Int).toNat 0) := ⟨_, rfl⟩
                      replace H : (if 1 < (y512.length : Int) then (if (ji32) < (y512.length : Int) then ((prop_Unit.f kj10 x6_10 y507).bind fun bt517 => ((prop_Unit.f kj10 x6_10 y511).bind fun bt521 => ((prop_Unit.f kj10 x6_10 ((y512.set (1 : Int).toNat 1).set ((ji32) : Int).toNat (-1))).bind fun bt525 => (if (bt517.1.length : Int) ≤ (ji32) then (ashlarlaw08_PropChain.j3 kj10 (ji32) t493 bt517.1 bt517.2 bt521.1 bt521.2 bt525.2 true) else (ashlarlaw08_PropChain.j3 kj10 (ji32) t493 bt517.1 bt517.2 bt521.1 bt521.2 bt525.2 (decide ((bt521.1.length : Int) ≤ (ji32)))))))) else (none)) else (none)) = some r := by first | (rw [hy512]; with_reducible exact H) | (have H2_ := (Option.bind_some _ _).symm.trans H; rw [hy512]; with_reducible exact H2_) | (have H2_ := (Option.bind_some _ _).symm.trans H; with_reducible exact H2_) | with_reducible exact H | (rw [hy512]; exact H) | exact H
                      have Ny512 := Aside0.mk hy512
                      clear hy512
                      by_cases c36 : 1 < (y512.length : Int)
                      · rw [if_pos c36] at H
                        have c36b0 : decide (1 < (y512.length : Int)) = true := decide_eq_true c36
                        have c36b1 : decide (1 < y512.length) = true := decide_eq_true (by omega)
                        clear c36
                        obtain ⟨y515, hy515⟩ : ∃ y_ : List Int, y_ = (y512.set (1 : Int).toNat 1) := ⟨_, rfl⟩
                        replace H : (if (ji32) < (y512.length : Int) then ((prop_Unit.f kj10 x6_10 y507).bind fun bt517 => ((prop_Unit.f kj10 x6_10 y511).bind fun bt521 => ((prop_Unit.f kj10 x6_10 (y515.set ((ji32) : Int).toNat (-1))).bind fun bt525 => (if (bt517.1.length : Int) ≤ (ji32) then (ashlarlaw08_PropChain.j3 kj10 (ji32) t493 bt517.1 bt517.2 bt521.1 bt521.2 bt525.2 true) else (ashlarlaw08_PropChain.j3 kj10 (ji32) t493 bt517.1 bt517.2 bt521.1 bt521.2 bt525.2 (decide ((bt521.1.length : Int) ≤ (ji32)))))))) else (none)) = some r := by first | (rw [hy515]; with_reducible exact H) | (have H2_ := (Option.bind_some _ _).symm.trans H; rw [hy515]; with_reducible exact H2_) | (have H2_ := (Option.bind_some _ _).symm.trans H; with_reducible exact H2_) | with_reducible exact H | (rw [hy515]; exact H) | exact H
                        have Ny515 := Aside0.mk hy515
                        clear hy515
                        by_cases c38 : (ji32) < (y512.length : Int)
                        · rw [if_pos c38] at H
                          have c38b0 : decide ((ji32) < (y512.length : Int)) = true := decide_eq_true c38
                          clear c38
                          obtain ⟨y516, hy516⟩ : ∃ y_ : List Int, y_ = (y515.set ((ji32) : Int).toNat (-1)) := ⟨_, rfl⟩
                          replace H : ((prop_Unit.f kj10 x6_10 y507).bind fun bt517 => ((prop_Unit.f kj10 x6_10 y511).bind fun bt521 => ((prop_Unit.f kj10 x6_10 y516).bind fun bt525 => (if (bt517.1.length : Int) ≤ (ji32) then (ashlarlaw08_PropChain.j3 kj10 (ji32) t493 bt517.1 bt517.2 bt521.1 bt521.2 bt525.2 true) else (ashlarlaw08_PropChain.j3 kj10 (ji32) t493 bt517.1 bt517.2 bt521.1 bt521.2 bt525.2 (decide ((bt521.1.length : Int) ≤ (ji32)))))))) = some r := by first | (rw [hy516]; with_reducible exact H) | (have H2_ := (Option.bind_some _ _).symm.trans H; rw [hy516]; with_reducible exact H2_) | (have H2_ := (Option.bind_some _ _).symm.trans H; with_reducible exact H2_) | with_reducible exact H | (rw [hy516]; exact H) | exact H
                          have Ny516 := Aside0.mk hy516
                          clear hy516
                          replace H := Option.bind_eq_some_iff.mp H
                          obtain ⟨⟨t517, t518⟩, A400, H⟩ := H
                          replace H : ((prop_Unit.f kj10 x6_10 y511).bind fun bt521 => ((prop_Unit.f kj10 x6_10 y516).bind fun bt525 => (if (t517.length : Int) ≤ (ji32) then (ashlarlaw08_PropChain.j3 kj10 (ji32) t493 t517 t518 bt521.1 bt521.2 bt525.2 true) else (ashlarlaw08_PropChain.j3 kj10 (ji32) t493 t517 t518 bt521.1 bt521.2 bt525.2 (decide ((bt521.1.length : Int) ≤ (ji32))))))) = some r := H
                          have A40 := Aside0.mk A400
                          clear A400
                          replace H := Option.bind_eq_some_iff.mp H
                          obtain ⟨⟨t521, t522⟩, A410, H⟩ := H
                          replace H : ((prop_Unit.f kj10 x6_10 y516).bind fun bt525 => (if (t517.length : Int) ≤ (ji32) then (ashlarlaw08_PropChain.j3 kj10 (ji32) t493 t517 t518 t521 t522 bt525.2 true) else (ashlarlaw08_PropChain.j3 kj10 (ji32) t493 t517 t518 t521 t522 bt525.2 (decide ((t521.length : Int) ≤ (ji32)))))) = some r := H
                          have A41 := Aside0.mk A410
                          clear A410
                          replace H := Option.bind_eq_some_iff.mp H
                          obtain ⟨⟨t525, t526⟩, A420, H⟩ := H
                          replace H : (if (t517.length : Int) ≤ (ji32) then (ashlarlaw08_PropChain.j3 kj10 (ji32) t493 t517 t518 t521 t522 t526 true) else (ashlarlaw08_PropChain.j3 kj10 (ji32) t493 t517 t518 t521 t522 t526 (decide ((t521.length : Int) ≤ (ji32))))) = some r := H
                          have A42 := Aside0.mk A420
                          clear A420
                          have HC43 := Aside0.mk H
                          clear H
                          go_upto_region 25 with (first | ((with_reducible refine gate_dst (N := 71) rfl ?_); (try (refine gate_guard (by rfl) ?_; dsimp only)); refine Kd.R_make (Kd.int .i8) _ 30 rfl (N := 71) rfl 23 _ _ rfl ji27 rfl rfl Try.underlying23 (.int .i8 0) 1 info30 rfl (by decide) (by omega) 0 (ok := fun _ => True) (okp := fun _ => True) rfl (fun _ hk => hk) trivial (of_decide_eq_true (by first | (with_reducible assumption) | assumption)) (Nat.le_trans (Nat.mul_le_mul_right _ (of_decide_eq_true (by first | (with_reducible assumption) | assumption) : ji27.toNat ≤ 281474976710656)) (by omega)) (Below.refl _ _) (Nat.le_refl _) ?_; intro v505 w44 ho45 hb hg_ hnew_; clear hg_ hnew_; (first | rw [← Ny504.out] at ho45 | (simp only [Int.reduceToNat] at ho45; rw [← Ny504.out] at ho45)); have n0_ := Aside0.mk (Kd.N_elder' (by (with_reducible repeat (first | apply Kd.N_alloc | apply Kd.N_drewN | apply Kd.N_drew)); exact HO_6.out) (Kd.R_base ho45) hb); have n1_ := Aside0.mk (Kd.R_lower ho45 (below_size (by repeat (first | (with_reducible first | exact HB.out | apply below_alloc | apply pw_below_drewN | apply below_drew1) | exact HB.out)))); have n2_ := Aside0.mk (below_step (by repeat (first | (with_reducible first | exact HB.out | apply below_alloc | apply pw_below_drewN | apply below_drew1) | exact HB.out)) hb); clear HO_6; clear HB; have HO_6 := n0_; have HO506 := n1_; have HB := n2_; clear n0_ n1_ n2_; clear hb ho45; have p31 : 0 ≤ (1 : Int) := (by omega); have q31 : (1 : Int) < ((y504.length : Int) : Int) := of_decide_eq_true (by first | (with_reducible assumption) | assumption); have qi31 : (1 < y504.length) = True := eq_true (by omega); obtain ⟨go31, co31, eo31, gb31, gl31, cl31, HG31⟩ := Kd.R_form HO506.out (by omega); (first | cases eo31 | (injection eo31 with ea_ en_ ec_; (first | subst ea_ | (injection ea_ with ea_; subst ea_)); subst ec_; clear en_)); have GB31 := Aside0.mk gb31; have GG31 := Aside0.mk HG31; clear gb31 gl31 HG31; obtain ⟨hx31_0, hf31_0⟩ := Kd.R_celln 0 HO506.out (1 : Int) p31 q31; (try rw [show ((1 : Int)).toNat = 1 from rfl] at hx31_0); (try simp only [Nat.reduceMul, Nat.zero_mul, Nat.zero_add, Nat.reduceAdd] at hx31_0); (try rw [show ((1 : Int)).toNat = 1 from rfl] at hf31_0); (try simp only [Nat.reduceMul, Nat.zero_mul, Nat.zero_add, Nat.reduceAdd] at hf31_0); replace p31 := eq_true p31; replace q31 := eq_true q31; obtain ⟨hy46_, hz46_⟩ := Kd.R_celln 0 HO506.out (1 : Int) (by omega) (of_decide_eq_true (by first | (with_reducible assumption) | assumption)); (try simp only [Int.reduceToNat, Int.toNat_zero, Int.toNat_ofNat, Nat.reduceMul, Nat.zero_mul, Nat.zero_add] at hy46_ hz46_); (try rw [show ((1 : Int)).toNat = 1 from rfl] at hy46_); (try rw [show ((1 : Int)).toNat = 1 from rfl] at hz46_); have HP46 := Kd.R_putg HO506.out (1 : Int) 1) | ((with_reducible refine gate_store (t := 30) (p := 73) rfl ?_); refine store_event (t := 30) (p := 73) (v := ?vo_w47) (w1 := (w44.setCell ⟨go31, (1 : Int).toNat, none⟩ (.int .i8 1))) ?hg ?ho ?hn ?hr ?_; (case ho => rfl); (case hg => rfl); (case hn => rfl); (case hr => first | (go_simp; done) | (go_simp; rfl)); intro w47 hw; have hg : w44.grownBy w47 (some go31) := (by rw [hw]; exact HP46.2); have hp_ : Kd.R (Kd.int .i8) 30 w47 w.heap.size (fun _ => True) (.slice (some ⟨go31, 0, none⟩) y504.length co31) y507 := (by rw [hw, Ny507.out]; exact HP46.1); clear HP46; have n0_ := Aside0.mk (Kd.N_afterv (v := (.slice (some ⟨go31, 0, none⟩) y504.length co31)) (v1 := (.slice (some ⟨go31, 0, none⟩) y504.length co31)) (ok := (fun _ => True)) (by (with_reducible repeat (first | apply Kd.N_alloc | apply Kd.N_drewN | apply Kd.N_drew)); exact HO_6.out) hg (.inl rfl)); have n1_ := Aside0.mk (hp_); have n2_ := Aside0.mk ((by rw [hw]; exact below_set (HB.out) GB31.out : Below w.heap.size w w47)); clear HO_6; clear HO506; clear HB; have HO_6 := n0_; have HO506 := n1_; have HB := n2_; clear n0_ n1_ n2_; clear hg hw hp_) | ((with_reducible refine gate_dst (N := 76) rfl ?_); (try (refine gate_guard (by rfl) ?_; dsimp only)); refine Kd.R_make (Kd.int .i8) _ 30 rfl (N := 76) rfl 23 _ _ rfl ji27 rfl rfl Try.underlying23 (.int .i8 0) 1 info30 rfl (by decide) (by omega) 0 (ok := fun _ => True) (okp := fun _ => True) rfl (fun _ hk => hk) trivial (of_decide_eq_true (by first | (with_reducible assumption) | assumption)) (Nat.le_trans (Nat.mul_le_mul_right _ (of_decide_eq_true (by first | (with_reducible assumption) | assumption) : ji27.toNat ≤ 281474976710656)) (by omega)) (Below.refl _ _) (Nat.le_refl _) ?_; intro v509 w48 ho49 hb hg_ hnew_; clear hg_ hnew_; (first | rw [← Ny508.out] at ho49 | (simp only [Int.reduceToNat] at ho49; rw [← Ny508.out] at ho49)); have n0_ := Aside0.mk (Kd.N_elder' (by (with_reducible repeat (first | apply Kd.N_alloc | apply Kd.N_drewN | apply Kd.N_drew)); exact HO_6.out) (Kd.R_base ho49) hb); have n1_ := Aside0.mk (Kd.R_elder' (by (with_reducible repeat (first | apply Kd.R_alloc | apply Kd.R_drewN | apply Kd.R_drew)); exact HO506.out) (Kd.R_base ho49) hb); have n2_ := Aside0.mk (Kd.R_lower (Kd.R_new' ho49 (Kd.R_lt (by (with_reducible repeat (first | apply Kd.R_alloc | apply Kd.R_drewN | apply Kd.R_drew)); exact HO506.out))) (below_size (by repeat (first | (with_reducible first | exact HB.out | apply below_alloc | apply pw_below_drewN | apply below_drew1) | exact HB.out)))); have n3_ := Aside0.mk (below_step (by repeat (first | (with_reducible first | exact HB.out | apply below_alloc | apply pw_below_drewN | apply below_drew1) | exact HB.out)) hb); clear HO_6; clear HO506; clear HB; have HO_6 := n0_; have HO506 := n1_; have HO510 := n2_; have HB := n3_; clear n0_ n1_ n2_ n3_; clear hb ho49; have p35 : 0 ≤ ((ji32) : Int) := of_decide_eq_true (by first | (with_reducible assumption) | assumption); have q35 : ((ji32) : Int) < ((y508.length : Int) : Int) := of_decide_eq_true (by first | (with_reducible assumption) | assumption); obtain ⟨go35, co35, eo35, gb35, gl35, cl35, HG35⟩ := Kd.R_form HO510.out (by omega); (first | cases eo35 | (injection eo35 with ea_ en_ ec_; (first | subst ea_ | (injection ea_ with ea_; subst ea_)); subst ec_; clear en_)); have GB35 := Aside0.mk gb35; have GG35 := Aside0.mk HG35; clear gb35 gl35 HG35; obtain ⟨hx35_0, hf35_0⟩ := Kd.R_celln 0 HO510.out ((ji32) : Int) p35 q35; replace p35 := eq_true p35; replace q35 := eq_true q35; have n_ := Aside0.mk (Kd.R_mono (ok' := (fun k_ => some k_ ≠ (.slice (some ⟨go31, 0, none⟩) y504.length co31 : Value).ownBlock)) HO510.out (fun k_ hk => hk.2)); clear HO510; have HO510 := n_; clear n_; obtain ⟨hy50_, hz50_⟩ := Kd.R_celln 0 HO510.out ((ji32) : Int) (of_decide_eq_true (by first | (with_reducible assumption) | assumption)) (of_decide_eq_true (by first | (with_reducible assumption) | assumption)); have HP50 := Kd.R_putg HO510.out ((ji32) : Int) (-1)) | ((with_reducible refine gate_store (t := 30) (p := 79) rfl ?_); refine store_event (t := 30) (p := 79) (v := ?vo_w51) (w1 := (w48.setCell ⟨go35, ((ji32) : Int).toNat, none⟩ (.int .i8 (-1)))) ?hg ?ho ?hn ?hr ?_; (case ho => rfl); (case hg => rfl); (case hn => rfl); (case hr => first | (go_simp; done) | (go_simp; rfl)); intro w51 hw; have hg : w48.grownBy w51 (some go35) := (by rw [hw]; exact HP50.2); have hp_ : Kd.R (Kd.int .i8) 30 w51 w.heap.size (fun k_ => some k_ ≠ (.slice (some ⟨go31, 0, none⟩) y504.length co31 : Value).ownBlock) (.slice (some ⟨go35, 0, none⟩) y508.length co35) y511 := (by rw [hw, Ny511.out]; exact HP50.1); clear HP50; have n0_ := Aside0.mk (Kd.N_afterv (v := (.slice (some ⟨go35, 0, none⟩) y508.length co35)) (v1 := (.slice (some ⟨go35, 0, none⟩) y508.length co35)) (ok := (fun k_ => some k_ ≠ (.slice (some ⟨go31, 0, none⟩) y504.length co31 : Value).ownBlock)) (by (with_reducible repeat (first | apply Kd.N_alloc | apply Kd.N_drewN | apply Kd.N_drew)); exact Kd.N_mono HO_6.out (fun _ hk => ⟨hk.1.2, hk.2⟩)) hg (.inl rfl)); have n1_ := Aside0.mk (Kd.R_after (v := (.slice (some ⟨go35, 0, none⟩) y508.length co35)) (v1 := (.slice (some ⟨go35, 0, none⟩) y508.length co35)) (ok := (fun _ => True)) (by (with_reducible repeat (first | apply Kd.R_alloc | apply Kd.R_drewN | apply Kd.R_drew)); exact HO506.out) hg (.inl rfl)); have n2_ := Aside0.mk (hp_); have n3_ := Aside0.mk ((by rw [hw]; exact below_set (HB.out) GB35.out : Below w.heap.size w w51)); clear HO_6; clear HO506; clear HO510; clear HB; have HO_6 := n0_; have HO506 := n1_; have HO510 := n2_; have HB := n3_; clear n0_ n1_ n2_ n3_; clear hg hw hp_) | ((with_reducible refine gate_dst (N := 82) rfl ?_); (try (refine gate_guard (by rfl) ?_; dsimp only)); refine Kd.R_make (Kd.int .i8) _ 30 rfl (N := 82) rfl 23 _ _ rfl ji27 rfl rfl Try.underlying23 (.int .i8 0) 1 info30 rfl (by decide) (by omega) 0 (ok := fun _ => True) (okp := fun _ => True) rfl (fun _ hk => hk) trivial (of_decide_eq_true (by first | (with_reducible assumption) | assumption)) (Nat.le_trans (Nat.mul_le_mul_right _ (of_decide_eq_true (by first | (with_reducible assumption) | assumption) : ji27.toNat ≤ 281474976710656)) (by omega)) (Below.refl _ _) (Nat.le_refl _) ?_; intro v513 w52 ho53 hb hg_ hnew_; clear hg_ hnew_; (first | rw [← Ny512.out] at ho53 | (simp only [Int.reduceToNat] at ho53; rw [← Ny512.out] at ho53)); have n0_ := Aside0.mk (Kd.N_elder' (by (with_reducible repeat (first | apply Kd.N_alloc | apply Kd.N_drewN | apply Kd.N_drew)); exact HO_6.out) (Kd.R_base ho53) hb); have n1_ := Aside0.mk (Kd.R_elder' (by (with_reducible repeat (first | apply Kd.R_alloc | apply Kd.R_drewN | apply Kd.R_drew)); exact HO506.out) (Kd.R_base ho53) hb); have n2_ := Aside0.mk (Kd.R_elder' (by (with_reducible repeat (first | apply Kd.R_alloc | apply Kd.R_drewN | apply Kd.R_drew)); exact HO510.out) (Kd.R_base ho53) hb); have n3_ := Aside0.mk (Kd.R_lower (Kd.R_new' (Kd.R_new' ho53 (Kd.R_lt (by (with_reducible repeat (first | apply Kd.R_alloc | apply Kd.R_drewN | apply Kd.R_drew)); exact HO506.out))) (Kd.R_lt (by (with_reducible repeat (first | apply Kd.R_alloc | apply Kd.R_drewN | apply Kd.R_drew)); exact HO510.out))) (below_size (by repeat (first | (with_reducible first | exact HB.out | apply below_alloc | apply pw_below_drewN | apply below_drew1) | exact HB.out)))); have n4_ := Aside0.mk (below_step (by repeat (first | (with_reducible first | exact HB.out | apply below_alloc | apply pw_below_drewN | apply below_drew1) | exact HB.out)) hb); clear HO_6; clear HO506; clear HO510; clear HB; have HO_6 := n0_; have HO506 := n1_; have HO510 := n2_; have HO514 := n3_; have HB := n4_; clear n0_ n1_ n2_ n3_ n4_; clear hb ho53; have p37 : 0 ≤ (1 : Int) := (by omega); have q37 : (1 : Int) < ((y512.length : Int) : Int) := of_decide_eq_true (by first | (with_reducible assumption) | assumption); have qi37 : (1 < y512.length) = True := eq_true (by omega); obtain ⟨go37, co37, eo37, gb37, gl37, cl37, HG37⟩ := Kd.R_form HO514.out (by omega); (first | cases eo37 | (injection eo37 with ea_ en_ ec_; (first | subst ea_ | (injection ea_ with ea_; subst ea_)); subst ec_; clear en_)); have GB37 := Aside0.mk gb37; have GG37 := Aside0.mk HG37; clear gb37 gl37 HG37; obtain ⟨hx37_0, hf37_0⟩ := Kd.R_celln 0 HO514.out (1 : Int) p37 q37; (try rw [show ((1 : Int)).toNat = 1 from rfl] at hx37_0); (try simp only [Nat.reduceMul, Nat.zero_mul, Nat.zero_add, Nat.reduceAdd] at hx37_0); (try rw [show ((1 : Int)).toNat = 1 from rfl] at hf37_0); (try simp only [Nat.reduceMul, Nat.zero_mul, Nat.zero_add, Nat.reduceAdd] at hf37_0); replace p37 := eq_true p37; replace q37 := eq_true q37; have n_ := Aside0.mk (Kd.R_mono (ok' := (fun k_ => some k_ ≠ (.slice (some ⟨go31, 0, none⟩) y504.length co31 : Value).ownBlock ∧ some k_ ≠ (.slice (some ⟨go35, 0, none⟩) y508.length co35 : Value).ownBlock)) HO514.out (fun k_ hk => ⟨hk.1.2, hk.2⟩)); clear HO514; have HO514 := n_; clear n_; obtain ⟨hy54_, hz54_⟩ := Kd.R_celln 0 HO514.out (1 : Int) (by omega) (of_decide_eq_true (by first | (with_reducible assumption) | assumption)); (try simp only [Int.reduceToNat, Int.toNat_zero, Int.toNat_ofNat, Nat.reduceMul, Nat.zero_mul, Nat.zero_add] at hy54_ hz54_); (try rw [show ((1 : Int)).toNat = 1 from rfl] at hy54_); (try rw [show ((1 : Int)).toNat = 1 from rfl] at hz54_); have HP54 := Kd.R_putg HO514.out (1 : Int) 1) | ((with_reducible refine gate_store (t := 30) (p := 84) rfl ?_); refine store_event (t := 30) (p := 84) (v := ?vo_w55) (w1 := (w52.setCell ⟨go37, (1 : Int).toNat, none⟩ (.int .i8 1))) ?hg ?ho ?hn ?hr ?_; (case ho => rfl); (case hg => rfl); (case hn => rfl); (case hr => first | (go_simp; done) | (go_simp; rfl)); intro w55 hw; have hg : w52.grownBy w55 (some go37) := (by rw [hw]; exact HP54.2); have hp_ : Kd.R (Kd.int .i8) 30 w55 w.heap.size (fun k_ => some k_ ≠ (.slice (some ⟨go31, 0, none⟩) y504.length co31 : Value).ownBlock ∧ some k_ ≠ (.slice (some ⟨go35, 0, none⟩) y508.length co35 : Value).ownBlock) (.slice (some ⟨go37, 0, none⟩) y512.length co37) y515 := (by rw [hw, Ny515.out]; exact HP54.1); clear HP54; have n0_ := Aside0.mk (Kd.N_afterv (v := (.slice (some ⟨go37, 0, none⟩) y512.length co37)) (v1 := (.slice (some ⟨go37, 0, none⟩) y512.length co37)) (ok := (fun k_ => some k_ ≠ (.slice (some ⟨go31, 0, none⟩) y504.length co31 : Value).ownBlock ∧ some k_ ≠ (.slice (some ⟨go35, 0, none⟩) y508.length co35 : Value).ownBlock)) (by (with_reducible repeat (first | apply Kd.N_alloc | apply Kd.N_drewN | apply Kd.N_drew)); exact HO_6.out) hg (.inl rfl)); have n1_ := Aside0.mk (Kd.R_after (v := (.slice (some ⟨go37, 0, none⟩) y512.length co37)) (v1 := (.slice (some ⟨go37, 0, none⟩) y512.length co37)) (ok := (fun k_ => some k_ ≠ (.slice (some ⟨go35, 0, none⟩) y508.length co35 : Value).ownBlock)) (by (with_reducible repeat (first | apply Kd.R_alloc | apply Kd.R_drewN | apply Kd.R_drew)); exact Kd.R_mono HO506.out (fun _ hk => ⟨hk.1.2, hk.2⟩)) hg (.inl rfl)); have n2_ := Aside0.mk (Kd.R_after (v := (.slice (some ⟨go37, 0, none⟩) y512.length co37)) (v1 := (.slice (some ⟨go37, 0, none⟩) y512.length co37)) (ok := (fun k_ => some k_ ≠ (.slice (some ⟨go31, 0, none⟩) y504.length co31 : Value).ownBlock)) (by (with_reducible repeat (first | apply Kd.R_alloc | apply Kd.R_drewN | apply Kd.R_drew)); exact HO510.out) hg (.inl rfl)); have n3_ := Aside0.mk (hp_); have n4_ := Aside0.mk ((by rw [hw]; exact below_set (HB.out) GB37.out : Below w.heap.size w w55)); clear HO_6; clear HO506; clear HO510; clear HO514; clear HB; have HO_6 := n0_; have HO506 := n1_; have HO510 := n2_; have HO514 := n3_; have HB := n4_; clear n0_ n1_ n2_ n3_ n4_; clear hg hw hp_; have p39 : 0 ≤ ((ji32) : Int) := of_decide_eq_true (by first | (with_reducible assumption) | assumption); have q39 : ((ji32) : Int) < ((y512.length : Int) : Int) := of_decide_eq_true (by first | (with_reducible assumption) | assumption); obtain ⟨hx39_0, hf39_0⟩ := Kd.R_celln 0 HO514.out ((ji32) : Int) p39 q39; replace p39 := eq_true p39; replace q39 := eq_true q39; obtain ⟨hy56_, hz56_⟩ := Kd.R_celln 0 HO514.out ((ji32) : Int) (of_decide_eq_true (by first | (with_reducible assumption) | assumption)) (of_decide_eq_true (by first | (with_reducible assumption) | assumption)); have HP56 := Kd.R_putg HO514.out ((ji32) : Int) (-1)) | ((with_reducible refine gate_store (t := 30) (p := 87) rfl ?_); refine store_event (t := 30) (p := 87) (v := ?vo_w57) (w1 := (w55.setCell ⟨go37, ((ji32) : Int).toNat, none⟩ (.int .i8 (-1)))) ?hg ?ho ?hn ?hr ?_; (case ho => rfl); (case hg => rfl); (case hn => rfl); (case hr => first | (go_simp; done) | (go_simp; rfl)); intro w57 hw; have hg : w55.grownBy w57 (some go37) := (by rw [hw]; exact HP56.2); have hp_ : Kd.R (Kd.int .i8) 30 w57 w.heap.size (fun k_ => some k_ ≠ (.slice (some ⟨go31, 0, none⟩) y504.length co31 : Value).ownBlock ∧ some k_ ≠ (.slice (some ⟨go35, 0, none⟩) y508.length co35 : Value).ownBlock) (.slice (some ⟨go37, 0, none⟩) y512.length co37) y516 := (by rw [hw, Ny516.out]; exact HP56.1); clear HP56; have n0_ := Aside0.mk (Kd.N_afterv (v := (.slice (some ⟨go37, 0, none⟩) y512.length co37)) (v1 := (.slice (some ⟨go37, 0, none⟩) y512.length co37)) (ok := (fun k_ => some k_ ≠ (.slice (some ⟨go31, 0, none⟩) y504.length co31 : Value).ownBlock ∧ some k_ ≠ (.slice (some ⟨go35, 0, none⟩) y508.length co35 : Value).ownBlock)) (by (with_reducible repeat (first | apply Kd.N_alloc | apply Kd.N_drewN | apply Kd.N_drew)); exact HO_6.out) hg (.inl rfl)); have n1_ := Aside0.mk (Kd.R_after (v := (.slice (some ⟨go37, 0, none⟩) y512.length co37)) (v1 := (.slice (some ⟨go37, 0, none⟩) y512.length co37)) (ok := (fun k_ => some k_ ≠ (.slice (some ⟨go35, 0, none⟩) y508.length co35 : Value).ownBlock)) (by (with_reducible repeat (first | apply Kd.R_alloc | apply Kd.R_drewN | apply Kd.R_drew)); exact HO506.out) hg (.inl rfl)); have n2_ := Aside0.mk (Kd.R_after (v := (.slice (some ⟨go37, 0, none⟩) y512.length co37)) (v1 := (.slice (some ⟨go37, 0, none⟩) y512.length co37)) (ok := (fun k_ => some k_ ≠ (.slice (some ⟨go31, 0, none⟩) y504.length co31 : Value).ownBlock)) (by (with_reducible repeat (first | apply Kd.R_alloc | apply Kd.R_drewN | apply Kd.R_drew)); exact HO510.out) hg (.inl rfl)); have n3_ := Aside0.mk (hp_); have n4_ := Aside0.mk ((by rw [hw]; exact below_set (HB.out) GB37.out : Below w.heap.size w w57)); clear HO_6; clear HO506; clear HO510; clear HO514; clear HB; have HO_6 := n0_; have HO506 := n1_; have HO510 := n2_; have HO514 := n3_; have HB := n4_; clear n0_ n1_ n2_ n3_ n4_; clear hg hw hp_; obtain ⟨Ao58, co58, eo58⟩ := Kd.N_slice HO_6.out; subst eo58) | ((with_reducible refine gate_callee (f := 14) rfl ?_); refine goesL_ (some 91) rfl rfl Try.func14 (by kernel_rfl) rfl #[.slice Ao58 x6_10.length co58, .slice (some ⟨go31, 0, none⟩) y507.length co31] rfl (by (try simp only [List.map_toArray, List.map_cons, List.map_nil]); first | done | (rw [show y507.length = y504.length from (Kd.R_reads' HO506.out).1.symm] <;> rfl) | rfl | (simp only [List.length_drop, List.length_take]; rfl)) ?_; (with_reducible refine (prop_Unit.calls kj10 _ _ x6_10 _ _ y507 t517 t518 _ ?side1 ?side2 ?side3 ?side4 A40.out).mono ?_); (case side1 => repeat (first | exact (Kd.N_reads' HO_6.out).2.2 | (with_reducible refine Kd.C_alloc ?_ _) | (with_reducible refine Kd.C_drewN ?_ _) | (with_reducible refine Kd.C_drew ?_))); (case side2 => exact (Kd.N_reads' HO_6.out).2.1); (case side3 => repeat (first | exact (Kd.R_reads' HO506.out).2.2 | (with_reducible refine Kd.C_alloc ?_ _) | (with_reducible refine Kd.C_drewN ?_ _) | (with_reducible refine Kd.C_drew ?_))); (case side4 => rw [show y507.length = y504.length from (Kd.R_reads' HO506.out).1.symm]; exact (Kd.R_reads' HO506.out).2.1); rintro e w59 ⟨v519, rfl, ho0, hb⟩; refine ⟨_, rfl, ?_⟩; have n0_ := Aside0.mk (Kd.N_elder' (by (with_reducible repeat (first | apply Kd.N_alloc | apply Kd.N_drewN | apply Kd.N_drew)); exact HO_6.out) (Kd.R_base ho0) hb); have n1_ := Aside0.mk (Kd.R_elder' (by (with_reducible repeat (first | apply Kd.R_alloc | apply Kd.R_drewN | apply Kd.R_drew)); exact HO506.out) (Kd.R_base ho0) hb); have n2_ := Aside0.mk (Kd.R_elder' (by (with_reducible repeat (first | apply Kd.R_alloc | apply Kd.R_drewN | apply Kd.R_drew)); exact HO510.out) (Kd.R_base ho0) hb); have n3_ := Aside0.mk (Kd.R_elder' (by (with_reducible repeat (first | apply Kd.R_alloc | apply Kd.R_drewN | apply Kd.R_drew)); exact HO514.out) (Kd.R_base ho0) hb); have n4_ := Aside0.mk (Kd.R_lower (Kd.R_new' (Kd.R_new' (Kd.R_new' ho0 (Kd.R_lt (by (with_reducible repeat (first | apply Kd.R_alloc | apply Kd.R_drewN | apply Kd.R_drew)); exact HO506.out))) (Kd.R_lt (by (with_reducible repeat (first | apply Kd.R_alloc | apply Kd.R_drewN | apply Kd.R_drew)); exact HO510.out))) (Kd.R_lt (by (with_reducible repeat (first | apply Kd.R_alloc | apply Kd.R_drewN | apply Kd.R_drew)); exact HO514.out))) (below_size (by repeat (first | (with_reducible first | exact HB.out | apply below_alloc | apply pw_below_drewN | apply below_drew1) | exact HB.out)))); have n5_ := Aside0.mk (below_step (by repeat (first | (with_reducible first | exact HB.out | apply below_alloc | apply pw_below_drewN | apply below_drew1) | exact HB.out)) hb); clear HO_6; clear HO506; clear HO510; clear HO514; clear HB; have HO_6 := n0_; have HO506 := n1_; have HO510 := n2_; have HO514 := n3_; have HO520 := n4_; have HB := n5_; clear n0_ n1_ n2_ n3_ n4_ n5_; (try clear hb); (try clear hb2); (try clear hk); (try clear hi); (try clear ho0)) | ((with_reducible refine gate_callee (f := 14) rfl ?_); refine goesL_ (some 97) rfl rfl Try.func14 (by kernel_rfl) rfl #[.slice Ao58 x6_10.length co58, .slice (some ⟨go35, 0, none⟩) y511.length co35] rfl (by (try simp only [List.map_toArray, List.map_cons, List.map_nil]); first | done | (rw [show y511.length = y508.length from (Kd.R_reads' HO510.out).1.symm] <;> rfl) | rfl | (simp only [List.length_drop, List.length_take]; rfl)) ?_; (with_reducible refine (prop_Unit.calls kj10 _ _ x6_10 _ _ y511 t521 t522 _ ?side1 ?side2 ?side3 ?side4 A41.out).mono ?_); (case side1 => repeat (first | exact (Kd.N_reads' HO_6.out).2.2 | (with_reducible refine Kd.C_alloc ?_ _) | (with_reducible refine Kd.C_drewN ?_ _) | (with_reducible refine Kd.C_drew ?_))); (case side2 => exact (Kd.N_reads' HO_6.out).2.1); (case side3 => repeat (first | exact (Kd.R_reads' HO510.out).2.2 | (with_reducible refine Kd.C_alloc ?_ _) | (with_reducible refine Kd.C_drewN ?_ _) | (with_reducible refine Kd.C_drew ?_))); (case side4 => rw [show y511.length = y508.length from (Kd.R_reads' HO510.out).1.symm]; exact (Kd.R_reads' HO510.out).2.1); rintro e w60 ⟨v523, rfl, ho0, hb⟩; refine ⟨_, rfl, ?_⟩; have n0_ := Aside0.mk (Kd.N_elder' (by (with_reducible repeat (first | apply Kd.N_alloc | apply Kd.N_drewN | apply Kd.N_drew)); exact HO_6.out) (Kd.R_base ho0) hb); have n1_ := Aside0.mk (Kd.R_elder' (by (with_reducible repeat (first | apply Kd.R_alloc | apply Kd.R_drewN | apply Kd.R_drew)); exact HO506.out) (Kd.R_base ho0) hb); have n2_ := Aside0.mk (Kd.R_elder' (by (with_reducible repeat (first | apply Kd.R_alloc | apply Kd.R_drewN | apply Kd.R_drew)); exact HO510.out) (Kd.R_base ho0) hb); have n3_ := Aside0.mk (Kd.R_elder' (by (with_reducible repeat (first | apply Kd.R_alloc | apply Kd.R_drewN | apply Kd.R_drew)); exact HO514.out) (Kd.R_base ho0) hb); have n4_ := Aside0.mk (Kd.R_elder' (by (with_reducible repeat (first | apply Kd.R_alloc | apply Kd.R_drewN | apply Kd.R_drew)); exact HO520.out) (Kd.R_base ho0) hb); have n5_ := Aside0.mk (Kd.R_lower (Kd.R_new' (Kd.R_new' (Kd.R_new' (Kd.R_new' ho0 (Kd.R_lt (by (with_reducible repeat (first | apply Kd.R_alloc | apply Kd.R_drewN | apply Kd.R_drew)); exact HO506.out))) (Kd.R_lt (by (with_reducible repeat (first | apply Kd.R_alloc | apply Kd.R_drewN | apply Kd.R_drew)); exact HO510.out))) (Kd.R_lt (by (with_reducible repeat (first | apply Kd.R_alloc | apply Kd.R_drewN | apply Kd.R_drew)); exact HO514.out))) (Kd.R_lt (by (with_reducible repeat (first | apply Kd.R_alloc | apply Kd.R_drewN | apply Kd.R_drew)); exact HO520.out))) (below_size (by repeat (first | (with_reducible first | exact HB.out | apply below_alloc | apply pw_below_drewN | apply below_drew1) | exact HB.out)))); have n6_ := Aside0.mk (below_step (by repeat (first | (with_reducible first | exact HB.out | apply below_alloc | apply pw_below_drewN | apply below_drew1) | exact HB.out)) hb); clear HO_6; clear HO506; clear HO510; clear HO514; clear HO520; clear HB; have HO_6 := n0_; have HO506 := n1_; have HO510 := n2_; have HO514 := n3_; have HO520 := n4_; have HO524 := n5_; have HB := n6_; clear n0_ n1_ n2_ n3_ n4_ n5_ n6_; (try clear hb); (try clear hb2); (try clear hk); (try clear hi); (try clear ho0)) | ((with_reducible refine gate_callee (f := 14) rfl ?_); refine goesL_ (some 103) rfl rfl Try.func14 (by kernel_rfl) rfl #[.slice Ao58 x6_10.length co58, .slice (some ⟨go37, 0, none⟩) y516.length co37] rfl (by (try simp only [List.map_toArray, List.map_cons, List.map_nil]); first | done | (rw [show y516.length = y512.length from (Kd.R_reads' HO514.out).1.symm] <;> rfl) | rfl | (simp only [List.length_drop, List.length_take]; rfl)) ?_; (with_reducible refine (prop_Unit.calls kj10 _ _ x6_10 _ _ y516 t525 t526 _ ?side1 ?side2 ?side3 ?side4 A42.out).mono ?_); (case side1 => repeat (first | exact (Kd.N_reads' HO_6.out).2.2 | (with_reducible refine Kd.C_alloc ?_ _) | (with_reducible refine Kd.C_drewN ?_ _) | (with_reducible refine Kd.C_drew ?_))); (case side2 => exact (Kd.N_reads' HO_6.out).2.1); (case side3 => repeat (first | exact (Kd.R_reads' HO514.out).2.2 | (with_reducible refine Kd.C_alloc ?_ _) | (with_reducible refine Kd.C_drewN ?_ _) | (with_reducible refine Kd.C_drew ?_))); (case side4 => rw [show y516.length = y512.length from (Kd.R_reads' HO514.out).1.symm]; exact (Kd.R_reads' HO514.out).2.1); rintro e w61 ⟨v527, rfl, ho0, hb⟩; refine ⟨_, rfl, ?_⟩; have n0_ := Aside0.mk (Kd.N_elder' (by (with_reducible repeat (first | apply Kd.N_alloc | apply Kd.N_drewN | apply Kd.N_drew)); exact HO_6.out) (Kd.R_base ho0) hb); have n1_ := Aside0.mk (Kd.R_elder' (by (with_reducible repeat (first | apply Kd.R_alloc | apply Kd.R_drewN | apply Kd.R_drew)); exact HO506.out) (Kd.R_base ho0) hb); have n2_ := Aside0.mk (Kd.R_elder' (by (with_reducible repeat (first | apply Kd.R_alloc | apply Kd.R_drewN | apply Kd.R_drew)); exact HO510.out) (Kd.R_base ho0) hb); have n3_ := Aside0.mk (Kd.R_elder' (by (with_reducible repeat (first | apply Kd.R_alloc | apply Kd.R_drewN | apply Kd.R_drew)); exact HO514.out) (Kd.R_base ho0) hb); have n4_ := Aside0.mk (Kd.R_elder' (by (with_reducible repeat (first | apply Kd.R_alloc | apply Kd.R_drewN | apply Kd.R_drew)); exact HO520.out) (Kd.R_base ho0) hb); have n5_ := Aside0.mk (Kd.R_elder' (by (with_reducible repeat (first | apply Kd.R_alloc | apply Kd.R_drewN | apply Kd.R_drew)); exact HO524.out) (Kd.R_base ho0) hb); have n6_ := Aside0.mk (Kd.R_lower (Kd.R_new' (Kd.R_new' (Kd.R_new' (Kd.R_new' (Kd.R_new' ho0 (Kd.R_lt (by (with_reducible repeat (first | apply Kd.R_alloc | apply Kd.R_drewN | apply Kd.R_drew)); exact HO506.out))) (Kd.R_lt (by (with_reducible repeat (first | apply Kd.R_alloc | apply Kd.R_drewN | apply Kd.R_drew)); exact HO510.out))) (Kd.R_lt (by (with_reducible repeat (first | apply Kd.R_alloc | apply Kd.R_drewN | apply Kd.R_drew)); exact HO514.out))) (Kd.R_lt (by (with_reducible repeat (first | apply Kd.R_alloc | apply Kd.R_drewN | apply Kd.R_drew)); exact HO520.out))) (Kd.R_lt (by (with_reducible repeat (first | apply Kd.R_alloc | apply Kd.R_drewN | apply Kd.R_drew)); exact HO524.out))) (below_size (by repeat (first | (with_reducible first | exact HB.out | apply below_alloc | apply pw_below_drewN | apply below_drew1) | exact HB.out)))); have n7_ := Aside0.mk (below_step (by repeat (first | (with_reducible first | exact HB.out | apply below_alloc | apply pw_below_drewN | apply below_drew1) | exact HB.out)) hb); clear HO_6; clear HO506; clear HO510; clear HO514; clear HO520; clear HO524; clear HB; have HO_6 := n0_; have HO506 := n1_; have HO510 := n2_; have HO514 := n3_; have HO520 := n4_; have HO524 := n5_; have HO528 := n6_; have HB := n7_; clear n0_ n1_ n2_ n3_ n4_ n5_ n6_ n7_; (try clear hb); (try clear hb2); (try clear hk); (try clear hi); (try clear ho0)))
                          (try simp only [Act.put, List.setIfInBounds_toArray, List.set_cons_zero, List.set_cons_succ])
                          go_cut [115] (fun v115 wc => ∃ (kq : Nat) (x115_42 : Bool), v115 = .bool x115_42 ∧ Aside0 (ashlarlaw08_PropChain.j3 kq (ji32) t493 t517 t518 t521 t522 t526 x115_42 = some r) ∧ Aside0 (kq ≤ kj10) ∧ Aside0 (Kd.R (Kd.int .i8) 30 wc w.heap.size (fun k_ => some k_ ≠ (v523 : Value).ownBlock) v519 t517) ∧ Aside0 (Kd.R (Kd.int .i8) 30 wc w.heap.size (fun k_ => some k_ ≠ (v519 : Value).ownBlock) v523 t521) ∧ Aside0 (Below w.heap.size w wc))
                          case first =>
                            have H := HC43.out
                            clear HC43
                            by_cases c62 : (t517.length : Int) ≤ (ji32)
                            · rw [if_pos c62] at H
                              have c62b0 : decide ((t517.length : Int) ≤ (ji32)) = true := decide_eq_true c62
                              clear c62
                              (first | rw [c62b0] | (simp only [i64_w, i32_w]; rw [c62b0]) | skip)
                              have H' := Aside0.mk H
                              clear H
                              obtain ⟨Ao63, co63, eo63⟩ := Kd.R_slice HO520.out
                              subst eo63
                              go_wp2
                              go_meet
                              case rel => exact ⟨_, (true), (by first | rfl | (simp; done) | (simp [*]; done)), H', ⟨by have := HK1.out; have := HJ10.out; first | omega | exact Nat.le_refl _⟩, ⟨by (with_reducible repeat (first | apply Kd.R_alloc | apply Kd.R_drewN | apply Kd.R_drew)); exact Kd.R_mono HO520.out (fun _ hk => hk.1.2)⟩, ⟨by (with_reducible repeat (first | apply Kd.R_alloc | apply Kd.R_drewN | apply Kd.R_drew)); exact Kd.R_mono HO524.out (fun _ hk => hk.1.2)⟩, ⟨by repeat (first | (with_reducible first | exact HB.out | apply below_alloc | apply pw_below_drewN | apply below_drew1) | exact HB.out)⟩⟩
                            · rw [if_neg c62] at H
                              have c62b0 : decide ((t517.length : Int) ≤ (ji32)) = false := decide_eq_false c62
                              clear c62
                              (first | rw [c62b0] | (simp only [i64_w, i32_w]; rw [c62b0]) | skip)
                              have H' := Aside0.mk H
                              clear H
                              obtain ⟨Ao64, co64, eo64⟩ := Kd.R_slice HO520.out
                              subst eo64
                              obtain ⟨Ao65, co65, eo65⟩ := Kd.R_slice HO524.out
                              subst eo65
                              go_wp2
                              go_meet
                              case rel => exact ⟨_, (decide ((t521.length : Int) ≤ (ji32))), (by first | rfl | (simp; done) | (simp only [← hji32] <;> (first | rfl | simp)) | (simp [*]; done)), H', ⟨by have := HK1.out; have := HJ10.out; first | omega | exact Nat.le_refl _⟩, ⟨by (with_reducible repeat (first | apply Kd.R_alloc | apply Kd.R_drewN | apply Kd.R_drew)); exact Kd.R_mono HO520.out (fun _ hk => hk.1.2)⟩, ⟨by (with_reducible repeat (first | apply Kd.R_alloc | apply Kd.R_drewN | apply Kd.R_drew)); exact Kd.R_mono HO524.out (fun _ hk => hk.1.2)⟩, ⟨by repeat (first | (with_reducible first | exact HB.out | apply below_alloc | apply pw_below_drewN | apply below_drew1) | exact HB.out)⟩⟩
                          case rest =>
                            clear HC43
                            try clear c1
                            try clear p1
                            try clear q1
                            try clear hx1
                            try clear c2
                            try clear p2
                            try clear q2
                            try clear hx2
                            try clear hf2
                            try clear c3
                            try clear p3
                            try clear q3
                            try clear hx3
                            try clear qi3
                            try clear hf3
                            try clear c5
                            try clear c5b0
                            try clear p5
                            try clear q5
                            try clear hx5
                            try clear c6
                            try clear p6
                            try clear c10
                            try clear c12
                            try clear c13
                            try clear c13b0
                            try clear c14
                            try clear c14b0
                            try clear c15
                            try clear c15b0
                            try clear c17
                            try clear c17b0
                            try clear c18
                            try clear c18b0
                            try clear c19
                            try clear p19
                            try clear q19
                            try clear hx19
                            try clear hf19
                            try clear c20
                            try clear p20
                            try clear q20
                            try clear hx20
                            try clear hf20
                            try clear c22
                            try clear hx22
                            try clear hf22
                            try clear c24
                            try clear hx24
                            try clear hf24
                            try clear c28
                            try clear c28b0
                            try clear c28b1
                            try clear c29
                            try clear c29b0
                            try clear c29b1
                            try clear c30
                            try clear c30b0
                            try clear c30b1
                            try clear p31
                            try clear q31
                            try clear hx31
                            try clear qi31
                            try clear hf31
                            try clear c33
                            try clear c33b0
                            try clear c34
                            try clear c34b0
                            try clear p35
                            try clear q35
                            try clear hx35
                            try clear hf35
                            try clear c36
                            try clear c36b0
                            try clear c36b1
                            try clear p37
                            try clear q37
                            try clear hx37
                            try clear qi37
                            try clear hf37
                            try clear c38
                            try clear c38b0
                            try clear p39
                            try clear q39
                            try clear hx39
                            try clear hf39
                            try clear c50
                            try clear p50
                            try clear q50
                            try clear hx50
                            try clear c62
                            try clear c62b0
                            try clear p64
                            try clear hx19_0
                            try clear hx20_0
                            try clear hx22_0
                            try clear hx24_0
                            try clear hx31_0
                            try clear hx35_0
                            try clear hx37_0
                            try clear hx39_0
                            try clear hx500_0
                            try clear hx501_0
                            try clear p1
                            try clear p19
                            try clear p2
                            try clear p20
                            try clear p31
                            try clear p35
                            try clear p37
                            try clear p39
                            try clear p5
                            try clear p500
                            try clear p501
                            try clear p6
                            try clear q1
                            try clear q19
                            try clear q2
                            try clear q20
                            try clear q31
                            try clear q35
                            try clear q37
                            try clear q39
                            try clear q5
                            try clear q500
                            try clear q501
                            obtain ⟨kq, x115_42, rfl, HA, HJ42, HO_13, HO_15, HB⟩ := hcut
                            cases kq with
                            | zero => exact absurd HA.out (by simp [ashlarlaw08_PropChain.j3])
                            | succ kj42 =>
                              have H := HA.out
                              clear HA
                              simp only [ashlarlaw08_PropChain.j3] at H
                              by_cases c66 : x115_42 = true
                              · subst c66
                                have H1 : (some false) = some r := by rw [if_pos rfl] at H; exact H
                                clear H
                                have H := H1
                                clear H1
                                obtain rfl := Option.some.inj H
                                go_wp2
                                go_ret
                                exact ⟨by first | rfl | (simp [errW_none, errW_some] <;> rfl) | (simp only [← hji27, ← hji32]; first | rfl | (simp [errW_none, errW_some] <;> rfl)) | (simp [*, errW_none, errW_some] <;> rfl), by repeat (first | (with_reducible first | exact HB.out | apply below_alloc | apply pw_below_drewN | apply below_drew1) | exact HB.out)⟩
                              · replace c66 := Bool.eq_false_iff.mpr c66
                                subst c66
                                have H1 : (ashlarlaw08_PropChain.l2 kj42 (ji32) t493 t517 t518 t521 t522 t526 1) = some r := by rw [if_neg (show ¬ (false = true) by decide)] at H; exact H
                                clear H
                                have H := H1
                                clear H1
                                have H' := Aside0.mk H
                                clear H
                                go_wp2
                                go_loopg [19] kj42 (fun kq v19 w' => ∃ (x19_4 : Int), v19 = .int .i64 x19_4 ∧ Aside0 (ashlarlaw08_PropChain.l2 kq (ji32) t493 t517 t518 t521 t522 t526 x19_4 = some r) ∧ Aside0 (kq ≤ kj42) ∧ Aside0 (Kd.R (Kd.int .i8) 30 w' w.heap.size (fun k_ => some k_ ≠ (v523 : Value).ownBlock) v519 t517) ∧ Aside0 (Kd.R (Kd.int .i8) 30 w' w.heap.size (fun k_ => some k_ ≠ (v519 : Value).ownBlock) v523 t521) ∧ Aside0 (Below w.heap.size w w'))
                                case atStart => exact ⟨(1), (by first | rfl | (simp; done) | (simp [*]; done)), H', ⟨Nat.le_refl _⟩, ⟨by (with_reducible repeat (first | apply Kd.R_alloc | apply Kd.R_drewN | apply Kd.R_drew)); exact HO_13.out⟩, ⟨by (with_reducible repeat (first | apply Kd.R_alloc | apply Kd.R_drewN | apply Kd.R_drew)); exact HO_15.out⟩, ⟨by repeat (first | (with_reducible first | exact HB.out | apply below_alloc | apply pw_below_drewN | apply below_drew1) | exact HB.out)⟩⟩
                                case round =>
                                  clear H'
                                  try clear c1
                                  try clear p1
                                  try clear q1
                                  try clear hx1
                                  try clear c2
                                  try clear p2
                                  try clear q2
                                  try clear hx2
                                  try clear hf2
                                  try clear c3
                                  try clear p3
                                  try clear q3
                                  try clear hx3
                                  try clear qi3
                                  try clear hf3
                                  try clear c5
                                  try clear c5b0
                                  try clear p5
                                  try clear q5
                                  try clear hx5
                                  try clear c6
                                  try clear p6
                                  try clear c10
                                  try clear c12
                                  try clear c13
                                  try clear c13b0
                                  try clear c14
                                  try clear c14b0
                                  try clear c15
                                  try clear c15b0
                                  try clear c17
                                  try clear c17b0
                                  try clear c18
                                  try clear c18b0
                                  try clear c19
                                  try clear p19
                                  try clear q19
                                  try clear hx19
                                  try clear hf19
                                  try clear c20
                                  try clear p20
                                  try clear q20
                                  try clear hx20
                                  try clear hf20
                                  try clear c22
                                  try clear hx22
                                  try clear hf22
                                  try clear c24
                                  try clear hx24
                                  try clear hf24
                                  try clear c28
                                  try clear c28b0
                                  try clear c28b1
                                  try clear c29
                                  try clear c29b0
                                  try clear c29b1
                                  try clear c30
                                  try clear c30b0
                                  try clear c30b1
                                  try clear p31
                                  try clear q31
                                  try clear hx31
                                  try clear qi31
                                  try clear hf31
                                  try clear c33
                                  try clear c33b0
                                  try clear c34
                                  try clear c34b0
                                  try clear p35
                                  try clear q35
                                  try clear hx35
                                  try clear hf35
                                  try clear c36
                                  try clear c36b0
                                  try clear c36b1
                                  try clear p37
                                  try clear q37
                                  try clear hx37
                                  try clear qi37
                                  try clear hf37
                                  try clear c38
                                  try clear c38b0
                                  try clear p39
                                  try clear q39
                                  try clear hx39
                                  try clear hf39
                                  try clear c50
                                  try clear p50
                                  try clear q50
                                  try clear hx50
                                  try clear c62
                                  try clear c62b0
                                  try clear p64
                                  try clear c66
                                  try clear hx19_0
                                  try clear hx20_0
                                  try clear hx22_0
                                  try clear hx24_0
                                  try clear hx31_0
                                  try clear hx35_0
                                  try clear hx37_0
                                  try clear hx39_0
                                  try clear hx500_0
                                  try clear hx501_0
                                  try clear p1
                                  try clear p19
                                  try clear p2
                                  try clear p20
                                  try clear p3
                                  try clear p31
                                  try clear p35
                                  try clear p37
                                  try clear p39
                                  try clear p5
                                  try clear p50
                                  try clear p500
                                  try clear p501
                                  try clear p6
                                  try clear p64
                                  try clear q1
                                  try clear q19
                                  try clear q2
                                  try clear q20
                                  try clear q3
                                  try clear q31
                                  try clear q35
                                  try clear q37
                                  try clear q39
                                  try clear q5
                                  try clear q50
                                  try clear q500
                                  try clear q501
                                  obtain ⟨x19_4, rfl, HA, HK4, HO_13, HO_15, HB⟩ := hrel
                                  cases gk with
                                  | zero => exact absurd HA.out (by simp [ashlarlaw08_PropChain.l2])
                                  | succ k4 =>
                                    have H := HA.out
                                    clear HA
                                    simp only [ashlarlaw08_PropChain.l2] at H
                                    by_cases c67 : x19_4 ≤ (ji32)
                                    · rw [if_pos c67] at H
                                      have c67b0 : decide (x19_4 ≤ (ji32)) = true := decide_eq_true c67
                                      clear c67
                                      by_cases c68 : 0 ≤ x19_4
                                      · rw [if_pos c68] at H
                                        have c68b0 : decide (0 ≤ x19_4) = true := decide_eq_true c68
                                        clear c68
                                        by_cases c69 : x19_4 < (t517.length : Int)
                                        · rw [if_pos c69] at H
                                          have c69b0 : decide (x19_4 < (t517.length : Int)) = true := decide_eq_true c69
                                          clear c69
                                          by_cases c70 : (rd t517 x19_4) = 1
                                          · rw [if_pos c70] at H
                                            have c70b0 : ((rd t517 x19_4) == 1) = true := beq_iff_eq.mpr c70
                                            have c70b1 : ((rd t517 x19_4) != 1) = false := bne_eq_false_iff_eq.mpr c70
                                            clear c70
                                            by_cases c71 : x19_4 < (t521.length : Int)
                                            · rw [if_pos c71] at H
                                              have c71b0 : decide (x19_4 < (t521.length : Int)) = true := decide_eq_true c71
                                              clear c71
                                              by_cases c72 : (rd t521 x19_4) = (-1)
                                              · rw [if_pos c72] at H
                                                have c72b0 : ((rd t521 x19_4) == (-1)) = true := beq_iff_eq.mpr c72
                                                have c72b1 : ((rd t521 x19_4) != (-1)) = false := bne_eq_false_iff_eq.mpr c72
                                                clear c72
                                                have H' := Aside0.mk H
                                                clear H
                                                obtain ⟨Ao73, co73, eo73⟩ := Kd.R_slice HO_13.out
                                                subst eo73
                                                have p529 : 0 ≤ (x19_4 : Int) := of_decide_eq_true (by first | (with_reducible assumption) | assumption)
                                                have q529 : x19_4 < (t517.length : Int) := of_decide_eq_true (by first | (with_reducible assumption) | assumption)
                                                obtain ⟨ad529, e529, hx529_0⟩ := Kd.at_int (Kd.R_reads' HO_13.out).2.2 x19_4 p529 q529
                                                cases e529
                                                replace p529 := eq_true p529
                                                replace q529 := eq_true q529
                                                obtain ⟨Ao74, co74, eo74⟩ := Kd.R_slice HO_15.out
                                                subst eo74
                                                have p530 : 0 ≤ (x19_4 : Int) := of_decide_eq_true (by first | (with_reducible assumption) | assumption)
                                                have q530 : x19_4 < (t521.length : Int) := of_decide_eq_true (by first | (with_reducible assumption) | assumption)
                                                obtain ⟨ad530, e530, hx530_0⟩ := Kd.at_int (Kd.R_reads' HO_15.out).2.2 x19_4 p530 q530
                                                cases e530
                                                replace p530 := eq_true p530
                                                replace q530 := eq_true q530
                                                go_wp2
                                                go_roundg k4
                                                case measure => have := HK1.out; have := HJ10.out; have := HJ42.out; have := HK4.out; omega
                                                case rel => exact ⟨(wrap64 (x19_4 + 1)), (by first | rfl | (simp; done) | (simp [*]; done)), H', ⟨by have := HK1.out; have := HJ10.out; have := HJ42.out; have := HK4.out; omega⟩, ⟨by (with_reducible repeat (first | apply Kd.R_alloc | apply Kd.R_drewN | apply Kd.R_drew)); exact HO_13.out⟩, ⟨by (with_reducible repeat (first | apply Kd.R_alloc | apply Kd.R_drewN | apply Kd.R_drew)); exact HO_15.out⟩, ⟨by repeat (first | (with_reducible first | exact HB.out | apply below_alloc | apply pw_below_drewN | apply below_drew1) | exact HB.out)⟩⟩
                                              · rw [if_neg c72] at H
                                                have c72b0 : ((rd t521 x19_4) == (-1)) = false := beq_eq_false_iff_ne.mpr c72
                                                have c72b1 : ((rd t521 x19_4) != (-1)) = true := bne_iff_ne.mpr c72
                                                obtain rfl := Option.some.inj H
                                                obtain ⟨Ao75, co75, eo75⟩ := Kd.R_slice HO_13.out
                                                subst eo75
                                                have p529 : 0 ≤ (x19_4 : Int) := of_decide_eq_true (by first | (with_reducible assumption) | assumption)
                                                have q529 : x19_4 < (t517.length : Int) := of_decide_eq_true (by first | (with_reducible assumption) | assumption)
                                                obtain ⟨ad529, e529, hx529_0⟩ := Kd.at_int (Kd.R_reads' HO_13.out).2.2 x19_4 p529 q529
                                                cases e529
                                                replace p529 := eq_true p529
                                                replace q529 := eq_true q529
                                                obtain ⟨Ao76, co76, eo76⟩ := Kd.R_slice HO_15.out
                                                subst eo76
                                                have p530 : 0 ≤ (x19_4 : Int) := of_decide_eq_true (by first | (with_reducible assumption) | assumption)
                                                have q530 : x19_4 < (t521.length : Int) := of_decide_eq_true (by first | (with_reducible assumption) | assumption)
                                                obtain ⟨ad530, e530, hx530_0⟩ := Kd.at_int (Kd.R_reads' HO_15.out).2.2 x19_4 p530 q530
                                                cases e530
                                                replace p530 := eq_true p530
                                                replace q530 := eq_true q530
                                                go_wp2
                                                go_ret
                                                exact ⟨by first | rfl | (simp [errW_none, errW_some] <;> rfl) | (simp only [← hji27, ← hji32]; first | rfl | (simp [errW_none, errW_some] <;> rfl)) | (simp [*, errW_none, errW_some] <;> rfl), by repeat (first | (with_reducible first | exact HB.out | apply below_alloc | apply pw_below_drewN | apply below_drew1) | exact HB.out)⟩
                                            · rw [if_neg c71] at H
                                              exact absurd H (by simp)
                                          · rw [if_neg c70] at H
                                            have c70b0 : ((rd t517 x19_4) == 1) = false := beq_eq_false_iff_ne.mpr c70
                                            have c70b1 : ((rd t517 x19_4) != 1) = true := bne_iff_ne.mpr c70
                                            obtain rfl := Option.some.inj H
                                            obtain ⟨Ao77, co77, eo77⟩ := Kd.R_slice HO_13.out
                                            subst eo77
                                            have p529 : 0 ≤ (x19_4 : Int) := of_decide_eq_true (by first | (with_reducible assumption) | assumption)
                                            have q529 : x19_4 < (t517.length : Int) := of_decide_eq_true (by first | (with_reducible assumption) | assumption)
                                            obtain ⟨ad529, e529, hx529_0⟩ := Kd.at_int (Kd.R_reads' HO_13.out).2.2 x19_4 p529 q529
                                            cases e529
                                            replace p529 := eq_true p529
                                            replace q529 := eq_true q529
                                            go_wp2
                                            go_ret
                                            exact ⟨by first | rfl | (simp [errW_none, errW_some] <;> rfl) | (simp only [← hji27, ← hji32]; first | rfl | (simp [errW_none, errW_some] <;> rfl)) | (simp [*, errW_none, errW_some] <;> rfl), by repeat (first | (with_reducible first | exact HB.out | apply below_alloc | apply pw_below_drewN | apply below_drew1) | exact HB.out)⟩
                                        · rw [if_neg c69] at H
                                          exact absurd H (by simp)
                                      · rw [if_neg c68] at H
                                        exact absurd H (by simp)
                                    · rw [if_neg c67] at H
                                      have c67b0 : decide (x19_4 ≤ (ji32)) = false := decide_eq_false c67
                                      clear c67
                                      by_cases c78 : t493 = true
                                      · subst c78
                                        have H1 : (if t518 = true then (some false) else (if t522 = true then (some false) else (some t526))) = some r := by rw [if_pos rfl] at H; exact H
                                        clear H
                                        have H := H1
                                        clear H1
                                        by_cases c79 : t518 = true
                                        · subst c79
                                          have H1 : (some false) = some r := by rw [if_pos rfl] at H; exact H
                                          clear H
                                          have H := H1
                                          clear H1
                                          obtain rfl := Option.some.inj H
                                          go_wp2
                                          go_ret
                                          exact ⟨by first | rfl | (simp [errW_none, errW_some] <;> rfl) | (simp only [← hji27, ← hji32]; first | rfl | (simp [errW_none, errW_some] <;> rfl)) | (simp [*, errW_none, errW_some] <;> rfl), by repeat (first | (with_reducible first | exact HB.out | apply below_alloc | apply pw_below_drewN | apply below_drew1) | exact HB.out)⟩
                                        · replace c79 := Bool.eq_false_iff.mpr c79
                                          subst c79
                                          have H1 : (if t522 = true then (some false) else (some t526)) = some r := by rw [if_neg (show ¬ (false = true) by decide)] at H; exact H
                                          clear H
                                          have H := H1
                                          clear H1
                                          by_cases c80 : t522 = true
                                          · subst c80
                                            have H1 : (some false) = some r := by rw [if_pos rfl] at H; exact H
                                            clear H
                                            have H := H1
                                            clear H1
                                            obtain rfl := Option.some.inj H
                                            go_wp2
                                            go_ret
                                            exact ⟨by first | rfl | (simp [errW_none, errW_some] <;> rfl) | (simp only [← hji27, ← hji32]; first | rfl | (simp [errW_none, errW_some] <;> rfl)) | (simp [*, errW_none, errW_some] <;> rfl), by repeat (first | (with_reducible first | exact HB.out | apply below_alloc | apply pw_below_drewN | apply below_drew1) | exact HB.out)⟩
                                          · replace c80 := Bool.eq_false_iff.mpr c80
                                            subst c80
                                            have H1 : (some t526) = some r := by rw [if_neg (show ¬ (false = true) by decide)] at H; exact H
                                            clear H
                                            have H := H1
                                            clear H1
                                            obtain rfl := Option.some.inj H
                                            go_wp2
                                            go_ret
                                            exact ⟨by first | rfl | (simp [errW_none, errW_some] <;> rfl) | (simp only [← hji27, ← hji32]; first | rfl | (simp [errW_none, errW_some] <;> rfl)) | (simp [*, errW_none, errW_some] <;> rfl), by repeat (first | (with_reducible first | exact HB.out | apply below_alloc | apply pw_below_drewN | apply below_drew1) | exact HB.out)⟩
                                      · replace c78 := Bool.eq_false_iff.mpr c78
                                        subst c78
                                        have H1 : (some false) = some r := by rw [if_neg (show ¬ (false = true) by decide)] at H; exact H
                                        clear H
                                        have H := H1
                                        clear H1
                                        obtain rfl := Option.some.inj H
                                        go_wp2
                                        go_ret
                                        exact ⟨by first | rfl | (simp [errW_none, errW_some] <;> rfl) | (simp only [← hji27, ← hji32]; first | rfl | (simp [errW_none, errW_some] <;> rfl)) | (simp [*, errW_none, errW_some] <;> rfl), by repeat (first | (with_reducible first | exact HB.out | apply below_alloc | apply pw_below_drewN | apply below_drew1) | exact HB.out)⟩
                        · rw [if_neg c38] at H
                          exact absurd H (by simp)
                      · rw [if_neg c36] at H
                        exact absurd H (by simp)
                    · rw [if_neg c34] at H
                      exact absurd H (by simp)
                  · rw [if_neg c33] at H
                    exact absurd H (by simp)
                · rw [if_neg c30] at H
                  exact absurd H (by simp)
              · rw [if_neg c29] at H
                exact absurd H (by simp)
            · rw [if_neg c28] at H
              exact absurd H (by simp)

/-- THE ONE PURE STATEMENT of ashlarlaw08_PropChain: yours. -/
def ashlarlaw08_PropChain.Pure : Prop := ∀ (a0 : Int) (a1 : Bool), (Lit.int .i64 a0).wf = true → ∃ k, ashlarlaw08_PropChain.f k a0 a1 = some true
theorem ashlarlaw08_PropChain.walk (P : ashlarlaw08_PropChain.Pure) (a0 : Int) (a1 : Bool) (w : World) (w0 : (Lit.int .i64 a0).wf = true) :
    Calls Try.prog 10 #[.int .i64 a0, .bool a1] w fun e w' => e = .returned (.bool true) ∧ Below w.heap.size w w' := by
  obtain ⟨k, h⟩ := P a0 a1 w0
  refine (ashlarlaw08_PropChain.calls k a0 a1 true w h).mono ?_
  rintro e w' ⟨rfl, hd⟩
  exact ⟨rfl, hd⟩

end Go.Proofs.Ytbgjmeiphmfniaa.Q
