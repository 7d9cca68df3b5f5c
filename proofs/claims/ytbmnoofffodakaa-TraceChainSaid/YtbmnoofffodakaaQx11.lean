/- written by a program of this session (wip/tools/printx.py, over the kit's printing program) out of the translation -/
import Derived.Test.YtbmnoofffodakaaQx0
import Derived.Test.YtbmnoofffodakaaQx3
import Derived.Test.YtbmnoofffodakaaQx4
namespace Go.Proofs.Ytbmnoofffodakaa.Q
open Go.RowKit Go.Proofs.YtbmnoofffodakaaW.PrintWords Go.Proofs.YtbmnoofffodakaaW.PrintLast Go.Proofs.YtbmnoofffodakaaW.PrintMore
attribute [local go_sem] max2_int min2_int max_two min_two max_three min_three max_four min_four   -- for this text's walks alone
set_option linter.unusedVariables false
set_option linter.unusedSimpArgs false

/-! ### ashlarlaw10_TraceChain: function 9 -/
def ashlarlaw10_TraceChain.l0 : Nat → Int → Int → Bool → List (List Int) → Int → Option (Bool)
  | 0, _, _, _, _, _ => none
  | k + 1, x0, x1, x5, x6, x7 => if x7 < x0 then (if x6.length < 5864062014805 then (ashlarlaw10_TraceChain.l0 k x0 x1 x5 (x6 ++ [(([wrap64 (x7 + 1), wrap64 (-x7)] : List Int))]) (wrap64 (x7 + 1))) else (none)) else (if (x6.length : Int) = 0 then (none) else ((some (([] : List (List Int)) : List (List Int))).bind fun y396 => (if 0 ≤ (Int.tmod (Go.bits .and .i64 x1 65535) (x6.length : Int)) then (if (Int.tmod (Go.bits .and .i64 x1 65535) (x6.length : Int)) ≤ (x6.length : Int) then ((some (x6.take ((Int.tmod (Go.bits .and .i64 x1 65535) (x6.length : Int)) : Int).toNat : List (List Int))).bind fun y399 => (if y396.length + y399.length < 5864062014805 then ((some (y396 ++ y399 : List (List Int))).bind fun y404 => (if 0 ≤ (wrap64 ((Int.tmod (Go.bits .and .i64 x1 65535) (x6.length : Int)) + 1)) then (if (wrap64 ((Int.tmod (Go.bits .and .i64 x1 65535) (x6.length : Int)) + 1)) ≤ (x6.length : Int) then ((some (x6.drop ((wrap64 ((Int.tmod (Go.bits .and .i64 x1 65535) (x6.length : Int)) + 1)) : Int).toNat : List (List Int))).bind fun y407 => (if y404.length + y407.length < 5864062014805 then ((some (([(([] : List Int))] : List (List Int)) : List (List Int))).bind fun y418 => (if x5 = true then ((trace_Check.f k x6 y418).bind fun t421 => (if t421 = true then ((trace_Check.f k (y404 ++ y407) y418).bind fun t422 => (some (!t422))) else (some false))) else (some false))) else (none))) else (none)) else (none))) else (none))) else (none)) else (none))))
def ashlarlaw10_TraceChain.f (k : Nat) (a0 : Int) (a1 : Int) : Option (Bool) := (ashlarlaw10_shown.f k).bind fun t380 => (ashlarlaw10_TraceChain.l0 k (wrap64 (2 + (Int.tmod (Go.bits .and .i64 a0 65535) 39))) a1 t380 (([(([1] : List Int)), (([wrap64 (-(wrap64 (2 + (Int.tmod (Go.bits .and .i64 a0 65535) 39))))] : List Int))] : List (List Int))) 1)
theorem ashlarlaw10_TraceChain.mono_l : ∀ k, (∀ y0 y1 y2 y3 y4, LeO (ashlarlaw10_TraceChain.l0 k y0 y1 y2 y3 y4) (ashlarlaw10_TraceChain.l0 (k + 1) y0 y1 y2 y3 y4))
  | 0 => fun _ _ _ _ _ r h => by simp [ashlarlaw10_TraceChain.l0] at h
  | k + 1 => by
    have ih0 := ashlarlaw10_TraceChain.mono_l k
    · intro y0 y1 y2 y3 y4
      unfold ashlarlaw10_TraceChain.l0
      repeat' first
      | (with_reducible exact ih0 _ _ _ _ _)
      | (with_reducible exact ashlarlaw10_shown.mono _)
      | (with_reducible exact trace_Check.mono _ _ _)
      | (with_reducible exact LeO.refl _)
      | (with_reducible exact LeO.none _)
      | (with_reducible refine LeO.ite ?_ ?_)
      | (with_reducible refine LeO.bind ?_ (fun _ => ?_))
      | exact ih0 _ _ _ _ _
      | exact ashlarlaw10_shown.mono _
      | exact trace_Check.mono _ _ _
      | exact LeO.none _
      | refine LeO.ite ?_ ?_
      | refine LeO.bind ?_ (fun _ => ?_)
theorem ashlarlaw10_TraceChain.mono : ∀ a0 a1 k, LeO (ashlarlaw10_TraceChain.f k a0 a1) (ashlarlaw10_TraceChain.f (k + 1) a0 a1) := by
  intro a0 a1 k
  have ih0 := ashlarlaw10_TraceChain.mono_l k
  unfold ashlarlaw10_TraceChain.f
  repeat' first
      | (with_reducible exact ih0 _ _ _ _ _)
      | (with_reducible exact ashlarlaw10_shown.mono _)
      | (with_reducible exact trace_Check.mono _ _ _)
      | (with_reducible exact LeO.refl _)
      | (with_reducible exact LeO.none _)
      | (with_reducible refine LeO.ite ?_ ?_)
      | (with_reducible refine LeO.bind ?_ (fun _ => ?_))
      | exact ih0 _ _ _ _ _
      | exact ashlarlaw10_shown.mono _
      | exact trace_Check.mono _ _ _
      | exact LeO.none _
      | refine LeO.ite ?_ ?_
      | refine LeO.bind ?_ (fun _ => ?_)
def ashlarlaw10_TraceChain.T9 : Bool × List (List Nat × List Nat) := (true, [([], []), ([], []), ([], []), ([1, 2], [1, 2]), ([0, 3], [0, 3]), ([], []), ([], []), ([6], [6]), ([5, 7], [5, 7]), ([4, 8, 4], [4, 8]), ([9, 9, 0, 1, 2, 3, 4, 5, 6, 7, 8, 9], [9])])
def ashlarlaw10_TraceChain.B9 : List Nat := [0, 0, 0, 6, 15, 0, 0, 64, 224, 511, 1023]
theorem ashlarlaw10_TraceChain.tab9 : rtab .any (opsOf Try.f9 9) = ashlarlaw10_TraceChain.T9 := by kernel_rfl
theorem ashlarlaw10_TraceChain.bits9 : waitsOk ashlarlaw10_TraceChain.T9.2 ashlarlaw10_TraceChain.B9 = true := by kernel_rfl
set_option maxHeartbeats 8000000 in
set_option maxRecDepth 100000 in
theorem ashlarlaw10_TraceChain.calls (k : Nat) (a0 : Int) (a1 : Int) (r : Bool) (w : World) (h : ashlarlaw10_TraceChain.f k a0 a1 = some r) :
    Calls Try.prog 9 #[.int .i64 a0, .int .i64 a1] w fun e w' => e = .returned (.bool r) ∧ Below w.heap.size w w' := by
  have HB := Aside0.mk (Below.refl w.heap.size w)
  have H : ((ashlarlaw10_shown.f k).bind fun t380 => (ashlarlaw10_TraceChain.l0 k (wrap64 (2 + (Int.tmod (Go.bits .and .i64 a0 65535) 39))) a1 t380 (([(([1] : List Int)), (([wrap64 (-(wrap64 (2 + (Int.tmod (Go.bits .and .i64 a0 65535) 39))))] : List Int))] : List (List Int))) 1)) = some r := h
  clear h
  replace H := Option.bind_eq_some_iff.mp H
  obtain ⟨t380, A30, H⟩ := H
  replace H : (ashlarlaw10_TraceChain.l0 k (wrap64 (2 + (Int.tmod (Go.bits .and .i64 a0 65535) 39))) a1 t380 (([(([1] : List Int)), (([wrap64 (-(wrap64 (2 + (Int.tmod (Go.bits .and .i64 a0 65535) 39))))] : List Int))] : List (List Int))) 1) = some r := H
  have A3 := Aside0.mk A30
  clear A30
  obtain ⟨y381, hy381⟩ : ∃ y_ : List Int, y_ = (([1] : List Int)) := ⟨_, rfl⟩
  replace H : (ashlarlaw10_TraceChain.l0 k (wrap64 (2 + (Int.tmod (Go.bits .and .i64 a0 65535) 39))) a1 t380 (([y381, (([wrap64 (-(wrap64 (2 + (Int.tmod (Go.bits .and .i64 a0 65535) 39))))] : List Int))] : List (List Int))) 1) = some r := by first | (rw [hy381]; with_reducible exact H) | (have H2_ := (Option.bind_some _ _).symm.trans H; rw [hy381]; with_reducible exact H2_) | (have H2_ := (Option.bind_some _ _).symm.trans H; with_reducible exact H2_) | with_reducible exact H | (rw [hy381]; exact H) | exact H
  have Ny381 := Aside0.mk hy381
  clear hy381
  obtain ⟨y384, hy384⟩ : ∃ y_ : List Int, y_ = (([wrap64 (-(wrap64 (2 + (Int.tmod (Go.bits .and .i64 a0 65535) 39))))] : List Int)) := ⟨_, rfl⟩
  replace H : (ashlarlaw10_TraceChain.l0 k (wrap64 (2 + (Int.tmod (Go.bits .and .i64 a0 65535) 39))) a1 t380 (([y381, y384] : List (List Int))) 1) = some r := by first | (rw [hy384]; with_reducible exact H) | (have H2_ := (Option.bind_some _ _).symm.trans H; rw [hy384]; with_reducible exact H2_) | (have H2_ := (Option.bind_some _ _).symm.trans H; with_reducible exact H2_) | with_reducible exact H | (rw [hy384]; exact H) | exact H
  have Ny384 := Aside0.mk hy384
  clear hy384
  obtain ⟨y387, hy387⟩ : ∃ y_ : List (List Int), y_ = (([y381, y384] : List (List Int))) := ⟨_, rfl⟩
  replace H : (ashlarlaw10_TraceChain.l0 k (wrap64 (2 + (Int.tmod (Go.bits .and .i64 a0 65535) 39))) a1 t380 y387 1) = some r := by first | (rw [hy387]; with_reducible exact H) | (have H2_ := (Option.bind_some _ _).symm.trans H; rw [hy387]; with_reducible exact H2_) | (have H2_ := (Option.bind_some _ _).symm.trans H; with_reducible exact H2_) | with_reducible exact H | (rw [hy387]; exact H) | exact H
  have Ny387 := Aside0.mk hy387
  clear hy387
  have H' := Aside0.mk H
  clear H
  go_enter Try.func9, Try.ntmps9
  go_wp2_with (first | ((with_reducible refine gate_callee (f := 10) rfl ?_); refine goesL_ (some 11) rfl rfl Try.func10 (by kernel_rfl) rfl #[] rfl (by (try simp only [List.map_toArray, List.map_cons, List.map_nil]); first | done | rfl | (simp only [List.length_drop, List.length_take]; rfl)) ?_; (with_reducible refine (ashlarlaw10_shown.calls k  t380 _ A3.out).mono ?_); rintro e w4 ⟨rfl, hb⟩; refine ⟨_, rfl, ?_⟩; have n0_ := Aside0.mk (below_step (by repeat (first | (with_reducible first | exact HB.out | apply below_alloc | apply pw_below_drewN | apply below_drew1) | exact HB.out)) hb); clear HB; have HB := n0_; clear n0_; (try clear hb); (try clear hb2); (try clear hk); (try clear hi)) | ((with_reducible refine gate_dst (N := 16) rfl ?_); refine Kd.R_lit (Kd.int .i64) _ 3 ?hg (N := 16) ?hd (xs := ([1] : List Int)) (inner := [.int .i64 1]) (ok := fun _ => True) (okp := fun _ => True) ?hr ?hp (fun _ hk => hk) trivial (Below.refl _ _) (Nat.le_refl _) (by simp) ?_; (case hd => rfl); (case hg => rfl); (case hr => first | (go_simp; done) | (go_simp; rfl)); (case hp => exact (Reps.one (show Kd.M (Kd.int .i64) _ _ _ 1 [.int .i64 1] from rfl) (Reps.none _ _))); intro v382 w5 ho6 hb hg_ hnew_; clear hg_ hnew_; (first | rw [← Ny381.out] at ho6 | (simp only [Int.reduceToNat] at ho6; rw [← Ny381.out] at ho6)); have n0_ := Aside0.mk (Kd.R_lower ho6 (below_size (by repeat (first | (with_reducible first | exact HB.out | apply below_alloc | apply pw_below_drewN | apply below_drew1) | exact HB.out)))); have n1_ := Aside0.mk (below_step (by repeat (first | (with_reducible first | exact HB.out | apply below_alloc | apply pw_below_drewN | apply below_drew1) | exact HB.out)) hb); clear HB; have HO383 := n0_; have HB := n1_; clear n0_ n1_; clear hb ho6) | ((with_reducible refine gate_dst (N := 19) rfl ?_); refine Kd.R_lit (Kd.int .i64) _ 3 ?hg (N := 19) ?hd (xs := ([wrap64 (-(wrap64 (2 + (Int.tmod (Go.bits .and .i64 a0 65535) 39))))] : List Int)) (inner := [.int .i64 (wrap64 (-(wrap64 (2 + (Int.tmod (Go.bits .and .i64 a0 65535) 39)))))]) (ok := fun _ => True) (okp := fun _ => True) ?hr ?hp (fun _ hk => hk) trivial (Below.refl _ _) (Nat.le_refl _) (by simp) ?_; (case hd => rfl); (case hg => rfl); (case hr => first | (go_simp; done) | (go_simp; rfl)); (case hp => exact (Reps.one (show Kd.M (Kd.int .i64) _ _ _ (wrap64 (-(wrap64 (2 + (Int.tmod (Go.bits .and .i64 a0 65535) 39))))) [.int .i64 (wrap64 (-(wrap64 (2 + (Int.tmod (Go.bits .and .i64 a0 65535) 39)))))] from rfl) (Reps.none _ _))); intro v385 w7 ho8 hb hg_ hnew_; clear hg_ hnew_; (first | rw [← Ny384.out] at ho8 | (simp only [Int.reduceToNat] at ho8; rw [← Ny384.out] at ho8)); have n0_ := Aside0.mk (Kd.R_elder' (by (with_reducible repeat (first | apply Kd.R_alloc | apply Kd.R_drewN | apply Kd.R_drew)); exact HO383.out) (Kd.R_base ho8) hb); have n1_ := Aside0.mk (Kd.R_lower (Kd.R_new' ho8 (Kd.R_lt (by (with_reducible repeat (first | apply Kd.R_alloc | apply Kd.R_drewN | apply Kd.R_drew)); exact HO383.out))) (below_size (by repeat (first | (with_reducible first | exact HB.out | apply below_alloc | apply pw_below_drewN | apply below_drew1) | exact HB.out)))); have n2_ := Aside0.mk (below_step (by repeat (first | (with_reducible first | exact HB.out | apply below_alloc | apply pw_below_drewN | apply below_drew1) | exact HB.out)) hb); clear HO383; clear HB; have HO383 := n0_; have HO386 := n1_; have HB := n2_; clear n0_ n1_ n2_; clear hb ho8; obtain ⟨Ao9, co9, eo9⟩ := Kd.R_slice HO383.out; subst eo9; obtain ⟨Ao10, co10, eo10⟩ := Kd.R_slice HO386.out; subst eo10) | ((with_reducible refine gate_dst (N := 20) rfl ?_); refine Kd.N_lit (Kd.slice 3 (Kd.int .i64)) _ 26 ?hg (N' := 20) ?hd (xs := ([y381, y384] : List (List Int))) (inner := [.slice Ao9 y381.length co9, .slice Ao10 y384.length co10]) (ok := (fun _ => True)) (okp := (fun _ => True)) ?hr ?hp (fun _ hk => hk) ((show ∀ k_, w7.heap.size ≤ k_ → (fun _ => True) k_ from fun k_ hk => trivial) _ (Nat.le_refl _)) (Below.refl _ _) (Nat.le_refl _) (by simp) ?_; (case hd => rfl); (case hg => rfl); (case hr => first | (go_simp; done) | (go_simp; rfl)); (case hp => exact (Reps.one (show Kd.FK (Kd.slice 3 (Kd.int .i64)) _ _ y381 [.slice Ao9 y381.length co9] from (Kd.FK_slice_mk (Kd.R_reads' (Kd.R_mono (ok' := (fun _ => True)) (HO383.out) (fun k_ hk => trivial))).2.1 (Kd.R_F (Kd.R_mono (ok' := (fun _ => True)) (HO383.out) (fun k_ hk => trivial))))) (Reps.one (show Kd.FK (Kd.slice 3 (Kd.int .i64)) _ _ y384 [.slice Ao10 y384.length co10] from (Kd.FK_slice_mk (Kd.R_reads' (Kd.R_mono (ok' := (fun _ => True)) (HO386.out) (fun k_ hk => trivial))).2.1 (Kd.R_F (Kd.R_mono (ok' := (fun _ => True)) (HO386.out) (fun k_ hk => trivial))))) (Reps.none _ _)))); intro v388 w11 ho12 hb hg_ hnew_; clear hg_ hnew_; (first | rw [← Ny387.out] at ho12 | (simp only [Int.reduceToNat] at ho12; rw [← Ny387.out] at ho12)); have n0_ := Aside0.mk (Kd.N_lower ho12 (below_size (by repeat (first | (with_reducible first | exact HB.out | apply below_alloc | apply pw_below_drewN | apply below_drew1) | exact HB.out)))); have n1_ := Aside0.mk (below_step (by repeat (first | (with_reducible first | exact HB.out | apply below_alloc | apply pw_below_drewN | apply below_drew1) | exact HB.out)) hb); clear HB; clear HO383; clear HO386; have HO389 := n0_; have HB := n1_; clear n0_ n1_; clear hb ho12))
  go_loopg [6, 7] k (fun kq v6 v7 w' => ∃ (x6_1 : List (List Int)) (x7_1 : Int), v7 = .int .i64 x7_1 ∧ Aside0 (ashlarlaw10_TraceChain.l0 kq (wrap64 (2 + (Int.tmod (Go.bits .and .i64 a0 65535) 39))) a1 t380 x6_1 x7_1 = some r) ∧ Aside0 (kq ≤ k) ∧ Aside0 (Kd.N (Kd.slice 3 (Kd.int .i64)) 26 w' w.heap.size (fun _ => True) v6 x6_1) ∧ Aside0 (Below w.heap.size w w'))
  case atStart => exact ⟨(y387), (1), (by first | rfl | (simp; done) | (simp [*]; done)), H', ⟨Nat.le_refl _⟩, ⟨by (with_reducible repeat (first | apply Kd.N_alloc | apply Kd.N_drewN | apply Kd.N_drew)); exact HO389.out⟩, ⟨by repeat (first | (with_reducible first | exact HB.out | apply below_alloc | apply pw_below_drewN | apply below_drew1) | exact HB.out)⟩⟩
  case round =>
    clear H'
    try clear c1
    try clear p2
    try clear p6
    try clear c9
    try clear c10
    obtain ⟨x6_1, x7_1, rfl, HA, HK1, HO_6, HB⟩ := hrel
    cases gk with
    | zero => exact absurd HA.out (by simp [ashlarlaw10_TraceChain.l0])
    | succ k1 =>
      have H := HA.out
      clear HA
      simp only [ashlarlaw10_TraceChain.l0] at H
      by_cases c13 : x7_1 < (wrap64 (2 + (Int.tmod (Go.bits .and .i64 a0 65535) 39)))
      · rw [if_pos c13] at H
        have c13b0 : decide (x7_1 < (wrap64 (2 + (Int.tmod (Go.bits .and .i64 a0 65535) 39)))) = true := decide_eq_true c13
        clear c13
        obtain ⟨y390, hy390⟩ : ∃ y_ : List Int, y_ = (([wrap64 (x7_1 + 1), wrap64 (-x7_1)] : List Int)) := ⟨_, rfl⟩
        replace H : (if x6_1.length < 5864062014805 then (ashlarlaw10_TraceChain.l0 k1 (wrap64 (2 + (Int.tmod (Go.bits .and .i64 a0 65535) 39))) a1 t380 (x6_1 ++ [y390]) (wrap64 (x7_1 + 1))) else (none)) = some r := by first | (rw [hy390]; with_reducible exact H) | (have H2_ := (Option.bind_some _ _).symm.trans H; rw [hy390]; with_reducible exact H2_) | (have H2_ := (Option.bind_some _ _).symm.trans H; with_reducible exact H2_) | with_reducible exact H | (rw [hy390]; exact H) | exact H
        have Ny390 := Aside0.mk hy390
        clear hy390
        by_cases c14 : x6_1.length < 5864062014805
        · rw [if_pos c14] at H
          have LMc14 := Aside0.mk c14
          clear c14
          obtain ⟨y393, hy393⟩ : ∃ y_ : List (List Int), y_ = (x6_1 ++ [y390]) := ⟨_, rfl⟩
          replace H : (ashlarlaw10_TraceChain.l0 k1 (wrap64 (2 + (Int.tmod (Go.bits .and .i64 a0 65535) 39))) a1 t380 y393 (wrap64 (x7_1 + 1))) = some r := by first | (rw [hy393]; with_reducible exact H) | (have H2_ := (Option.bind_some _ _).symm.trans H; rw [hy393]; with_reducible exact H2_) | (have H2_ := (Option.bind_some _ _).symm.trans H; with_reducible exact H2_) | with_reducible exact H | (rw [hy393]; exact H) | exact H
          have Ny393 := Aside0.mk hy393
          clear hy393
          have H' := Aside0.mk H
          clear H
          go_wp2_with (first | ((with_reducible refine gate_dst (N := 31) rfl ?_); refine Kd.R_lit (Kd.int .i64) _ 3 ?hg (N := 31) ?hd (xs := ([wrap64 (x7_1 + 1), wrap64 (-x7_1)] : List Int)) (inner := [.int .i64 (wrap64 (x7_1 + 1)), .int .i64 (wrap64 (-x7_1))]) (ok := fun _ => True) (okp := fun _ => True) ?hr ?hp (fun _ hk => hk) trivial (Below.refl _ _) (Nat.le_refl _) (by simp) ?_; (case hd => rfl); (case hg => rfl); (case hr => first | (go_simp; done) | (go_simp; rfl)); (case hp => exact (Reps.one (show Kd.M (Kd.int .i64) _ _ _ (wrap64 (x7_1 + 1)) [.int .i64 (wrap64 (x7_1 + 1))] from rfl) (Reps.one (show Kd.M (Kd.int .i64) _ _ _ (wrap64 (-x7_1)) [.int .i64 (wrap64 (-x7_1))] from rfl) (Reps.none _ _)))); intro v391 w15 ho16 hb hg_ hnew_; clear hg_ hnew_; (first | rw [← Ny390.out] at ho16 | (simp only [Int.reduceToNat] at ho16; rw [← Ny390.out] at ho16)); have n0_ := Aside0.mk (Kd.N_elder' (by (with_reducible repeat (first | apply Kd.N_alloc | apply Kd.N_drewN | apply Kd.N_drew)); exact HO_6.out) (Kd.R_base ho16) hb); have n1_ := Aside0.mk (Kd.R_lower ho16 (below_size (by repeat (first | (with_reducible first | exact HB.out | apply below_alloc | apply pw_below_drewN | apply below_drew1) | exact HB.out)))); have n2_ := Aside0.mk (below_step (by repeat (first | (with_reducible first | exact HB.out | apply below_alloc | apply pw_below_drewN | apply below_drew1) | exact HB.out)) hb); clear HO_6; clear HB; have HO_6 := n0_; have HO392 := n1_; have HB := n2_; clear n0_ n1_ n2_; clear hb ho16; obtain ⟨Ao18, co18, eo18⟩ := Kd.R_slice HO392.out; subst eo18) | ((with_reducible refine gate_builtin (b := .append) (xs := #[.tmp 26, .tmp 32]) rfl ?_); at_builtin; refine Kd.N_append (Kd.slice 3 (Kd.int .i64)) (w0 := w) w.heap.size rfl (.tmp 26) (.tmp 32) 22 26 (.slice none 0 0) 24 rfl Try.underlying22 info26 rfl (by decide) (by omega) u6 x6_1 y390 [.slice Ao18 y390.length co18] (fun _ => True) (fun k_ => ((fun _ => True)) k_ ∧ some k_ ≠ (u6 : Value).ownBlock) rfl rfl ?aP (fun _ hk => hk) ?aF ?aO ?aB ?aS ?aL ?_; (case aP => exact (Kd.FK_slice_mk (Kd.R_reads' (Kd.R_mono (ok' := (fun k_ => ((fun _ => True)) k_ ∧ some k_ ≠ (u6 : Value).ownBlock)) (Kd.R_apart' (HO392.out) (Kd.N_typed HO_6.out) (by decide)) (fun k_ hk => ⟨trivial, hk.2⟩))).2.1 (Kd.R_F (Kd.R_mono (ok' := (fun k_ => ((fun _ => True)) k_ ∧ some k_ ≠ (u6 : Value).ownBlock)) (Kd.R_apart' (HO392.out) (Kd.N_typed HO_6.out) (by decide)) (fun k_ hk => ⟨trivial, hk.2⟩))))); (case aB => exact (by repeat (first | (with_reducible first | exact HB.out | apply below_alloc | apply pw_below_drewN | apply below_drew1) | exact HB.out))); (case aF => exact (fun _ _ => trivial)); (case aO => exact (by (with_reducible repeat (first | apply Kd.N_alloc | apply Kd.N_drewN | apply Kd.N_drew)); exact Kd.N_mono HO_6.out (fun _ hk => trivial))); (case aS => exact (below_size (by repeat (first | (with_reducible first | exact HB.out | apply below_alloc | apply pw_below_drewN | apply below_drew1) | exact HB.out)))); (case aL => have := LMc14.out; omega); intro v394 w17 ho hb hg hat; rw [← Ny393.out] at ho; have n0_ := Aside0.mk (hb); have n1_ := Aside0.mk (ho); clear HB; clear HO_6; clear HO392; have HB := n0_; have HO395 := n1_; clear n0_ n1_; clear ho hb hg hat))
          go_roundg k1
          case measure => have := HK1.out; omega
          case rel => exact ⟨(y393), (wrap64 (x7_1 + 1)), (by first | rfl | (simp; done) | (simp [*]; done)), H', ⟨by have := HK1.out; omega⟩, ⟨by (with_reducible repeat (first | apply Kd.N_alloc | apply Kd.N_drewN | apply Kd.N_drew)); exact HO395.out⟩, ⟨by repeat (first | (with_reducible first | exact HB.out | apply below_alloc | apply pw_below_drewN | apply below_drew1) | exact HB.out)⟩⟩
        · rw [if_neg c14] at H
          exact absurd H (by simp)
      · rw [if_neg c13] at H
        have c13b0 : decide (x7_1 < (wrap64 (2 + (Int.tmod (Go.bits .and .i64 a0 65535) 39)))) = false := decide_eq_false c13
        clear c13
        by_cases c19 : (x6_1.length : Int) = 0
        · rw [if_pos c19] at H
          exact absurd H (by simp)
        · rw [if_neg c19] at H
          have c19b0 : ((x6_1.length : Int) == 0) = false := beq_eq_false_iff_ne.mpr c19
          have c19b1 : ((x6_1.length : Int) != 0) = true := bne_iff_ne.mpr c19
          have c19b2 : ¬ (x6_1 = []) := fun h_ => c19 (by rw [h_]; rfl)
          obtain ⟨y396, hy396⟩ : ∃ y_ : List (List Int), y_ = (([] : List (List Int))) := ⟨_, rfl⟩
          replace H : (if 0 ≤ (Int.tmod (Go.bits .and .i64 a1 65535) (x6_1.length : Int)) then (if (Int.tmod (Go.bits .and .i64 a1 65535) (x6_1.length : Int)) ≤ (x6_1.length : Int) then ((some (x6_1.take ((Int.tmod (Go.bits .and .i64 a1 65535) (x6_1.length : Int)) : Int).toNat : List (List Int))).bind fun y399 => (if y396.length + y399.length < 5864062014805 then ((some (y396 ++ y399 : List (List Int))).bind fun y404 => (if 0 ≤ (wrap64 ((Int.tmod (Go.bits .and .i64 a1 65535) (x6_1.length : Int)) + 1)) then (if (wrap64 ((Int.tmod (Go.bits .and .i64 a1 65535) (x6_1.length : Int)) + 1)) ≤ (x6_1.length : Int) then ((some (x6_1.drop ((wrap64 ((Int.tmod (Go.bits .and .i64 a1 65535) (x6_1.length : Int)) + 1)) : Int).toNat : List (List Int))).bind fun y407 => (if y404.length + y407.length < 5864062014805 then ((some (([(([] : List Int))] : List (List Int)) : List (List Int))).bind fun y418 => (if t380 = true then ((trace_Check.f k1 x6_1 y418).bind fun t421 => (if t421 = true then ((trace_Check.f k1 (y404 ++ y407) y418).bind fun t422 => (some (!t422))) else (some false))) else (some false))) else (none))) else (none)) else (none))) else (none))) else (none)) else (none)) = some r := by first | (rw [hy396]; with_reducible exact H) | (have H2_ := (Option.bind_some _ _).symm.trans H; rw [hy396]; with_reducible exact H2_) | (have H2_ := (Option.bind_some _ _).symm.trans H; with_reducible exact H2_) | with_reducible exact H | (rw [hy396]; exact H) | exact H
          have Ny396 := Aside0.mk hy396
          clear hy396
          obtain ⟨ji20, hji20⟩ : ∃ j_ : Int, (Int.tmod (Go.bits .and .i64 a1 65535) (x6_1.length : Int)) = j_ := ⟨_, rfl⟩
          replace H : (if 0 ≤ (ji20) then (if (ji20) ≤ (x6_1.length : Int) then ((some (x6_1.take ((ji20) : Int).toNat : List (List Int))).bind fun y399 => (if y396.length + y399.length < 5864062014805 then ((some (y396 ++ y399 : List (List Int))).bind fun y404 => (if 0 ≤ (wrap64 ((ji20) + 1)) then (if (wrap64 ((ji20) + 1)) ≤ (x6_1.length : Int) then ((some (x6_1.drop ((wrap64 ((ji20) + 1)) : Int).toNat : List (List Int))).bind fun y407 => (if y404.length + y407.length < 5864062014805 then ((some (([(([] : List Int))] : List (List Int)) : List (List Int))).bind fun y418 => (if t380 = true then ((trace_Check.f k1 x6_1 y418).bind fun t421 => (if t421 = true then ((trace_Check.f k1 (y404 ++ y407) y418).bind fun t422 => (some (!t422))) else (some false))) else (some false))) else (none))) else (none)) else (none))) else (none))) else (none)) else (none)) = some r := by first | (rw [hji20] at H; exact H) | (simp only [hji20] at H ⊢; exact H)
          by_cases c21 : 0 ≤ (ji20)
          · rw [if_pos c21] at H
            have c21b0 := eq_true c21
            have c21b1 : decide (0 ≤ (ji20)) = true := decide_eq_true c21
            clear c21
            by_cases c22 : (ji20) ≤ (x6_1.length : Int)
            · rw [if_pos c22] at H
              have c22b0 := eq_true c22
              have c22b1 : decide ((ji20) ≤ (x6_1.length : Int)) = true := decide_eq_true c22
              clear c22
              obtain ⟨y399, hy399⟩ : ∃ y_ : List (List Int), y_ = (x6_1.take ((ji20) : Int).toNat) := ⟨_, rfl⟩
              replace H : (if y396.length + y399.length < 5864062014805 then ((some (y396 ++ y399 : List (List Int))).bind fun y404 => (if 0 ≤ (wrap64 ((ji20) + 1)) then (if (wrap64 ((ji20) + 1)) ≤ (x6_1.length : Int) then ((some (x6_1.drop ((wrap64 ((ji20) + 1)) : Int).toNat : List (List Int))).bind fun y407 => (if y404.length + y407.length < 5864062014805 then ((some (([(([] : List Int))] : List (List Int)) : List (List Int))).bind fun y418 => (if t380 = true then ((trace_Check.f k1 x6_1 y418).bind fun t421 => (if t421 = true then ((trace_Check.f k1 (y404 ++ y407) y418).bind fun t422 => (some (!t422))) else (some false))) else (some false))) else (none))) else (none)) else (none))) else (none)) = some r := by first | (rw [hy399]; with_reducible exact H) | (have H2_ := (Option.bind_some _ _).symm.trans H; rw [hy399]; with_reducible exact H2_) | (have H2_ := (Option.bind_some _ _).symm.trans H; with_reducible exact H2_) | with_reducible exact H | (rw [hy399]; exact H) | exact H
              have Ny399 := Aside0.mk hy399
              clear hy399
              by_cases c23 : y396.length + y399.length < 5864062014805
              · rw [if_pos c23] at H
                have LMc23 := Aside0.mk c23
                clear c23
                obtain ⟨y404, hy404⟩ : ∃ y_ : List (List Int), y_ = (y396 ++ y399) := ⟨_, rfl⟩
                replace H : (if 0 ≤ (wrap64 ((ji20) + 1)) then (if (wrap64 ((ji20) + 1)) ≤ (x6_1.length : Int) then ((some (x6_1.drop ((wrap64 ((ji20) + 1)) : Int).toNat : List (List Int))).bind fun y407 => (if y404.length + y407.length < 5864062014805 then ((some (([(([] : List Int))] : List (List Int)) : List (List Int))).bind fun y418 => (if t380 = true then ((trace_Check.f k1 x6_1 y418).bind fun t421 => (if t421 = true then ((trace_Check.f k1 (y404 ++ y407) y418).bind fun t422 => (some (!t422))) else (some false))) else (some false))) else (none))) else (none)) else (none)) = some r := by first | (rw [hy404]; with_reducible exact H) | (have H2_ := (Option.bind_some _ _).symm.trans H; rw [hy404]; with_reducible exact H2_) | (have H2_ := (Option.bind_some _ _).symm.trans H; with_reducible exact H2_) | with_reducible exact H | (rw [hy404]; exact H) | exact H
                have Ny404 := Aside0.mk hy404
                clear hy404
                obtain ⟨ji24, hji24⟩ : ∃ j_ : Int, (wrap64 ((ji20) + 1)) = j_ := ⟨_, rfl⟩
                replace H : (if 0 ≤ (ji24) then (if (ji24) ≤ (x6_1.length : Int) then ((some (x6_1.drop ((ji24) : Int).toNat : List (List Int))).bind fun y407 => (if y404.length + y407.length < 5864062014805 then ((some (([(([] : List Int))] : List (List Int)) : List (List Int))).bind fun y418 => (if t380 = true then ((trace_Check.f k1 x6_1 y418).bind fun t421 => (if t421 = true then ((trace_Check.f k1 (y404 ++ y407) y418).bind fun t422 => (some (!t422))) else (some false))) else (some false))) else (none))) else (none)) else (none)) = some r := by first | (rw [hji24] at H; exact H) | (simp only [hji24] at H ⊢; exact H)
                have hji24w : (IntKind.i64.wrap ((ji20) + 1)) = ji24 := (i64_w _).trans hji24
                by_cases c25 : 0 ≤ (ji24)
                · rw [if_pos c25] at H
                  have c25b0 := eq_true c25
                  have c25b1 : decide (0 ≤ (ji24)) = true := decide_eq_true c25
                  clear c25
                  by_cases c26 : (ji24) ≤ (x6_1.length : Int)
                  · rw [if_pos c26] at H
                    have c26b0 := eq_true c26
                    have c26b1 : decide ((ji24) ≤ (x6_1.length : Int)) = true := decide_eq_true c26
                    clear c26
                    obtain ⟨y407, hy407⟩ : ∃ y_ : List (List Int), y_ = (x6_1.drop ((ji24) : Int).toNat) := ⟨_, rfl⟩
                    replace H : (if y404.length + y407.length < 5864062014805 then ((some (([(([] : List Int))] : List (List Int)) : List (List Int))).bind fun y418 => (if t380 = true then ((trace_Check.f k1 x6_1 y418).bind fun t421 => (if t421 = true then ((trace_Check.f k1 (y404 ++ y407) y418).bind fun t422 => (some (!t422))) else (some false))) else (some false))) else (none)) = some r := by first | (rw [hy407]; with_reducible exact H) | (have H2_ := (Option.bind_some _ _).symm.trans H; rw [hy407]; with_reducible exact H2_) | (have H2_ := (Option.bind_some _ _).symm.trans H; with_reducible exact H2_) | with_reducible exact H | (rw [hy407]; exact H) | exact H
                    have Ny407 := Aside0.mk hy407
                    clear hy407
                    by_cases c27 : y404.length + y407.length < 5864062014805
                    · rw [if_pos c27] at H
                      have LMc27 := Aside0.mk c27
                      clear c27
                      obtain ⟨y412, hy412⟩ : ∃ y_ : List (List Int), y_ = (y404 ++ y407) := ⟨_, rfl⟩
                      replace H : ((some (([(([] : List Int))] : List (List Int)) : List (List Int))).bind fun y418 => (if t380 = true then ((trace_Check.f k1 x6_1 y418).bind fun t421 => (if t421 = true then ((trace_Check.f k1 y412 y418).bind fun t422 => (some (!t422))) else (some false))) else (some false))) = some r := by first | (rw [hy412]; with_reducible exact H) | (have H2_ := (Option.bind_some _ _).symm.trans H; rw [hy412]; with_reducible exact H2_) | (have H2_ := (Option.bind_some _ _).symm.trans H; with_reducible exact H2_) | with_reducible exact H | (rw [hy412]; exact H) | exact H
                      have Ny412 := Aside0.mk hy412
                      clear hy412
                      obtain ⟨y415, hy415⟩ : ∃ y_ : List Int, y_ = (([] : List Int)) := ⟨_, rfl⟩
                      replace H : ((some (([y415] : List (List Int)) : List (List Int))).bind fun y418 => (if t380 = true then ((trace_Check.f k1 x6_1 y418).bind fun t421 => (if t421 = true then ((trace_Check.f k1 y412 y418).bind fun t422 => (some (!t422))) else (some false))) else (some false))) = some r := by first | (rw [hy415]; with_reducible exact H) | (have H2_ := (Option.bind_some _ _).symm.trans H; rw [hy415]; with_reducible exact H2_) | (have H2_ := (Option.bind_some _ _).symm.trans H; with_reducible exact H2_) | with_reducible exact H | (rw [hy415]; exact H) | exact H
                      have Ny415 := Aside0.mk hy415
                      clear hy415
                      obtain ⟨y418, hy418⟩ : ∃ y_ : List (List Int), y_ = (([y415] : List (List Int))) := ⟨_, rfl⟩
                      replace H : (if t380 = true then ((trace_Check.f k1 x6_1 y418).bind fun t421 => (if t421 = true then ((trace_Check.f k1 y412 y418).bind fun t422 => (some (!t422))) else (some false))) else (some false)) = some r := by first | (rw [hy418]; with_reducible exact H) | (have H2_ := (Option.bind_some _ _).symm.trans H; rw [hy418]; with_reducible exact H2_) | (have H2_ := (Option.bind_some _ _).symm.trans H; with_reducible exact H2_) | with_reducible exact H | (rw [hy418]; exact H) | exact H
                      have Ny418 := Aside0.mk hy418
                      clear hy418
                      by_cases c28 : t380 = true
                      · subst c28
                        have H1 : ((trace_Check.f k1 x6_1 y418).bind fun t421 => (if t421 = true then ((trace_Check.f k1 y412 y418).bind fun t422 => (some (!t422))) else (some false))) = some r := by rw [if_pos rfl] at H; exact H
                        clear H
                        have H := H1
                        clear H1
                        replace H := Option.bind_eq_some_iff.mp H
                        obtain ⟨t421, A290, H⟩ := H
                        replace H : (if t421 = true then ((trace_Check.f k1 y412 y418).bind fun t422 => (some (!t422))) else (some false)) = some r := H
                        have A29 := Aside0.mk A290
                        clear A290
                        by_cases c30 : t421 = true
                        · subst c30
                          have H1 : ((trace_Check.f k1 y412 y418).bind fun t422 => (some (!t422))) = some r := by rw [if_pos rfl] at H; exact H
                          clear H
                          have H := H1
                          clear H1
                          replace H := Option.bind_eq_some_iff.mp H
                          obtain ⟨t422, A310, H⟩ := H
                          replace H : (some (!t422)) = some r := H
                          have A31 := Aside0.mk A310
                          clear A310
                          obtain rfl := Option.some.inj H
                          obtain ⟨Ao32, co32, eo32⟩ := Kd.N_slice HO_6.out
                          subst eo32
                          try go_wp2
                          have n0_ := Aside0.mk (Kd.N_drew HO_6.out)
                          have n1_ := Aside0.mk (below_drew1 HB.out)
                          clear HO_6
                          clear HB
                          have HO_6 := n0_
                          have HB := n1_
                          clear n0_ n1_
                          have q34 : ((ji20) : Int) ≤ ((x6_1.length : Int) : Int) := of_decide_eq_true (by first | (with_reducible assumption) | assumption)
                          obtain ⟨i034, hi034, _, hsz34, _⟩ := info_parts info26
                          have hroom34 : x6_1.length ≤ co32 := (Kd.N_reads' HO_6.out).2.1
                          have hC34 : Kd.F (Kd.slice 3 (Kd.int .i64)) _ _ Ao32 x6_1.length x6_1 := (Kd.V_at (base := w.heap.size) (Kd.N_V HO_6.out)).2.2
                          have hcut34 := cut_to (P := Try.prog) 22 26 .i64 Try.underlying22 hi034 Ao32 x6_1.length co32 (ji20) (of_decide_eq_true (by first | (with_reducible assumption) | assumption)) q34 hroom34
                          have hr34 := Kd.F_take (m := ((ji20) : Int).toNat) hC34 (by omega)
                          have hy34 : y399.length = ((ji20) : Int).toNat := (by rw [Ny399.out, List.length_take]; omega)
                          rw [← Ny399.out] at hr34
                          rw [← hy34] at hcut34
                          have HO403 := Aside0.mk (show Kd.V (Kd.slice 3 (Kd.int .i64)) 26 _ w.heap.size _ (.slice Ao32 y399.length co32) y399 from Kd.V_mk (by omega) hr34)
                          have HC403 := Aside0.mk (show y399.length ≤ co32 from by omega)
                          clear hr34 hC34 hroom34 hi034 hsz34
                          have KY34 := Aside0.mk hy34
                          clear hy34
                          replace q34 := eq_true q34
                          have q35 : ((ji24) : Int) ≤ ((x6_1.length : Int) : Int) := of_decide_eq_true (by first | (with_reducible assumption) | assumption)
                          obtain ⟨i035, hi035, _, hsz35, _⟩ := info_parts info26
                          have hroom35 : x6_1.length ≤ co32 := (Kd.N_reads' HO_6.out).2.1
                          have hC35 : Kd.F (Kd.slice 3 (Kd.int .i64)) _ _ Ao32 x6_1.length x6_1 := (Kd.V_at (base := w.heap.size) (Kd.N_V HO_6.out)).2.2
                          have q035 : (0 : Int) ≤ ((ji24) : Int) := of_decide_eq_true (by first | (with_reducible assumption) | assumption)
                          have hcut35 := cut_from (P := Try.prog) 22 26 .i64 Try.underlying22 hi035 1 hsz35 Ao32 x6_1.length co32 (ji24) q035 q35
                          have hr35 := Kd.F_cut (m := ((ji24) : Int).toNat) (c := co32) hC35 (by omega) hroom35
                          obtain ⟨A35, hA35⟩ : ∃ A1, A1 = (if co32 = ((ji24) : Int).toNat then Ao32 else (Ao32 : Option Addr).map (·.add (((ji24) : Int).toNat * 1))) := ⟨_, rfl⟩
                          obtain ⟨c35, hc35⟩ : ∃ c1, c1 = co32 - ((ji24) : Int).toNat := ⟨_, rfl⟩
                          have hy35 : y407.length = x6_1.length - ((ji24) : Int).toNat := (by rw [Ny407.out, List.length_drop] <;> omega)
                          rw [show (x6_1).drop ((ji24) : Int).toNat = y407 from Ny407.out.symm] at hr35
                          replace hr35 : Kd.F (Kd.slice 3 (Kd.int .i64)) _ _ A35 y407.length y407 := (by rw [hA35]; exact hr35)
                          rw [← hy35, ← hA35, ← hc35] at hcut35
                          have HO411 := Aside0.mk (show Kd.V (Kd.slice 3 (Kd.int .i64)) 26 _ w.heap.size _ (.slice A35 y407.length c35) y407 from Kd.V_mk (by rw [hy35, hc35]; exact Nat.sub_le_sub_right hroom35 _) hr35)
                          have HC411 := Aside0.mk (show y407.length ≤ c35 from by rw [hy35, hc35]; exact Nat.sub_le_sub_right hroom35 _)
                          clear hr35 hC35 hroom35 hi035 hsz35 hc35
                          have KY35 := Aside0.mk hy35
                          have KA35 := Aside0.mk hA35
                          clear hy35 hA35
                          replace q35 := eq_true q35
                          refine start_ (n := 11) (S := fun w' => True) (ds := []) #[false, false, false, false, false, false, false, false, false, false, false] (by kernel_rfl) rfl rfl trivial (fun hHeld => ?_); refine with_tabW ashlarlaw10_TraceChain.tab9 ashlarlaw10_TraceChain.bits9 (fun HT_ HW_ => ?_)
                          generalize wr.drew = w33 at HO_6 HB HO403 HO411 hHeld ⊢
                          refine pure_ (i := 1) (N := some 40) (v := ?_) (a' := ?_) #[false, true, false, false, false, false, false, false, false, false, false] rfl rfl (any_of HT_.out (by kernel_rfl)) (fun _ _ _ h => h) (Or.inl ⟨by rfl, ?_⟩) ?_ ?_
                          rotate_left
                          · intro w'
                            go_simp
                            with_reducible rfl
                          rotate_left
                          · simp only [Act.put, List.setIfInBounds_toArray, List.set_cons_zero, List.set_cons_succ, i64_w, i32_w]
                            rfl
                          refine pure_ (i := 2) (N := some 41) (v := ?_) (a' := ?_) #[false, true, true, false, false, false, false, false, false, false, false] rfl rfl (any_of HT_.out (by kernel_rfl)) (fun _ _ _ h => h) (Or.inl ⟨by rfl, ?_⟩) ?_ ?_
                          rotate_left
                          · intro w'
                            go_simp
                            with_reducible rfl
                          rotate_left
                          · simp only [Act.put, List.setIfInBounds_toArray, List.set_cons_zero, List.set_cons_succ, i64_w, i32_w]
                            rfl
                          refine pure_ (i := 3) (N := some 42) (v := ?_) (a' := ?_) #[false, true, true, true, false, false, false, false, false, false, false] rfl rfl (any_of HT_.out (by kernel_rfl)) (fun _ _ _ h => h) (Or.inl ⟨by rfl, ?_⟩) ?_ ?_
                          rotate_left
                          · intro w'
                            go_simp
                            with_reducible rfl
                          rotate_left
                          · simp only [Act.put, List.setIfInBounds_toArray, List.set_cons_zero, List.set_cons_succ, i64_w, i32_w]
                            rfl
                          refine pure_ (i := 5) (N := some 44) (v := ?_) (a' := ?_) #[false, true, true, true, false, true, false, false, false, false, false] rfl rfl (any_of HT_.out (by kernel_rfl)) (fun _ _ _ h => h) (Or.inl ⟨by rfl, ?_⟩) ?_ ?_
                          rotate_left
                          · intro w'
                            go_simp
                            with_reducible rfl
                          rotate_left
                          · simp only [Act.put, List.setIfInBounds_toArray, List.set_cons_zero, List.set_cons_succ, i64_w, i32_w]
                            rfl
                          refine pure_ (i := 6) (N := some 45) (v := ?_) (a' := ?_) #[false, true, true, true, false, true, true, false, false, false, false] rfl rfl (any_of HT_.out (by kernel_rfl)) (fun _ _ _ h => h) (Or.inl ⟨by rfl, ?_⟩) ?_ ?_
                          rotate_left
                          · intro w'
                            go_simp
                            with_reducible rfl
                          rotate_left
                          · simp only [Act.put, List.setIfInBounds_toArray, List.set_cons_zero, List.set_cons_succ, i64_w, i32_w]
                            rfl
                          refine pure_ (i := 7) (N := some 46) (v := ?_) (a' := ?_) #[false, true, true, true, false, true, true, true, false, false, false] rfl rfl (any_of HT_.out (by kernel_rfl)) (fun _ _ _ h => h) (Or.inl ⟨by rfl, ?_⟩) ?_ ?_
                          rotate_left
                          · intro w'
                            go_simp
                            with_reducible rfl
                          rotate_left
                          · simp only [Act.put, List.setIfInBounds_toArray, List.set_cons_zero, List.set_cons_succ, i64_w, i32_w]
                            rfl
                          refine pure_ (i := 8) (N := some 47) (v := ?_) (a' := ?_) #[false, true, true, true, false, true, true, true, true, false, false] rfl rfl (any_of HT_.out (by kernel_rfl)) (fun _ _ _ h => h) (Or.inl ⟨by rfl, ?_⟩) ?_ ?_
                          rotate_left
                          · intro w'
                            go_simp
                            with_reducible rfl
                          rotate_left
                          · simp only [Act.put, List.setIfInBounds_toArray, List.set_cons_zero, List.set_cons_succ, i64_w, i32_w]
                            rfl
                          refine one_ (i := 0) (N := some 39) #[true, true, true, true, false, true, true, true, true, false, false] rfl rfl (one_of HT_.out (by kernel_rfl)) (by decide) (fun K hK => ?_)
                          refine Kd.N_lit_step (Kd.slice 3 (Kd.int .i64)) _ 26 ?hg (N' := 39) ?hd (xs := ([] : List (List Int))) (inner := []) (ok := (fun k_ => some k_ ≠ (.slice Ao32 x6_1.length co32 : Value).ownBlock)) (okp := (fun k_ => some k_ ≠ (.slice Ao32 x6_1.length co32 : Value).ownBlock)) ?hr ?hp (fun _ hk => hk) ((show ∀ k_, w33.heap.size ≤ k_ → (fun k_ => some k_ ≠ (.slice Ao32 x6_1.length co32 : Value).ownBlock) k_ from fun k_ hk => Kd.fresh' (Kd.N_lt (by (with_reducible repeat (first | apply Kd.N_alloc | apply Kd.N_drewN | apply Kd.N_drew)); exact HO_6.out)) k_ hk) _ (Nat.le_refl _)) (Below.refl _ _) (Nat.le_refl _) (by simp) ?_; (case hd => rfl); (case hg => rfl); (case hr => first | (go_simp; done) | (go_simp; rfl)); (case hp => exact (Reps.none _ _))
                          intro v397 w36 ho37 hb hg_ hnew_
                          clear hg_ hnew_
                          (first | rw [← Ny396.out] at ho37 | (simp only [Int.reduceToNat] at ho37; rw [← Ny396.out] at ho37))
                          have n0_ := Aside0.mk (Kd.N_elder' (by (with_reducible repeat (first | apply Kd.N_alloc | apply Kd.N_drewN | apply Kd.N_drew)); exact HO_6.out) (Kd.N_base ho37) hb)
                          have n1_ := Aside0.mk (Kd.V_elder' (by (with_reducible repeat (first | apply Kd.V_alloc | apply Kd.V_drewN | apply Kd.V_drew)); exact HO403.out) (Kd.N_base ho37) hb)
                          have n2_ := Aside0.mk (Kd.V_elder' (by (with_reducible repeat (first | apply Kd.V_alloc | apply Kd.V_drewN | apply Kd.V_drew)); exact HO411.out) (Kd.N_base ho37) hb)
                          have n3_ := Aside0.mk (Kd.N_lower ho37 (below_size (by repeat (first | (with_reducible first | exact HB.out | apply below_alloc | apply pw_below_drewN | apply below_drew1) | exact HB.out))))
                          have n4_ := Aside0.mk (below_step (by repeat (first | (with_reducible first | exact HB.out | apply below_alloc | apply pw_below_drewN | apply below_drew1) | exact HB.out)) hb)
                          clear HO_6
                          clear HO403
                          clear HO411
                          clear HB
                          have HO_6 := n0_
                          have HO403 := n1_
                          have HO411 := n2_
                          have HO398 := n3_
                          have HB := n4_
                          clear n0_ n1_ n2_ n3_ n4_
                          clear hb ho37
                          refine hK.out _ _ trivial (fun hHeld => ?_)
                          clear hK K
                          refine norm_ (a' := ?_) ?_ ?_
                          rotate_left
                          · show Act.put _ (some 39) _ = _
                            simp only [Act.put, List.setIfInBounds_toArray, List.set_cons_zero, List.set_cons_succ, i64_w, i32_w]
                            rfl
                          refine one_ (i := 4) (N := some 43) #[true, true, true, true, true, true, true, true, true, false, false] rfl rfl (one_of HT_.out (by kernel_rfl)) (by decide) (fun K hK => ?_)
                          refine Kd.N_append_rows_step (Kd.slice 3 (Kd.int .i64)) (w0 := w) w.heap.size (by rfl) (.tmp 39) (.tmp 42) 22 26 (.slice none 0 0) 24 rfl Try.underlying22 info26 rfl (by decide) (by omega) v397 y396 y399 _ _ _ (fun _ => True) (fun k_ => ((fun _ => True)) k_ ∧ some k_ ≠ (v397 : Value).ownBlock) rfl rfl ?aO ?aR (fun _ hk => hk) ?aF ?aB ?aS ?aL ?_
                          (case aR => exact (by skip; exact Kd.V_F (Kd.V_mono (ok' := (fun k_ => ((fun _ => True)) k_ ∧ some k_ ≠ (v397 : Value).ownBlock)) (HO403.out) (fun k_ hk => ⟨trivial, hk.2⟩))))
                          (case aB => exact (by repeat (first | (with_reducible first | exact HB.out | apply below_alloc | apply pw_below_drewN | apply below_drew1) | exact HB.out)))
                          (case aF => exact (fun _ _ => trivial))
                          (case aO => exact (by (with_reducible repeat (first | apply Kd.N_alloc | apply Kd.N_drewN | apply Kd.N_drew)); exact Kd.N_mono HO398.out (fun _ hk => trivial)))
                          (case aS => exact (below_size (by repeat (first | (with_reducible first | exact HB.out | apply below_alloc | apply pw_below_drewN | apply below_drew1) | exact HB.out))))
                          (case aL => have := LMc23.out; omega)
                          intro v405 w38 ho hb hg hat
                          rw [← Ny404.out] at ho
                          have n0_ := Aside0.mk (Kd.N_afterv (ok := (fun _ => True)) (by (with_reducible repeat (first | apply Kd.N_alloc | apply Kd.N_drewN | apply Kd.N_drew)); exact HO_6.out) hg hat)
                          have n1_ := Aside0.mk (Kd.V_afterv (ok := (fun _ => True)) (by (with_reducible repeat (first | apply Kd.V_alloc | apply Kd.V_drewN | apply Kd.V_drew)); exact HO403.out) hg hat)
                          have n2_ := Aside0.mk (Kd.V_afterv (ok := (fun _ => True)) (by (with_reducible repeat (first | apply Kd.V_alloc | apply Kd.V_drewN | apply Kd.V_drew)); exact HO411.out) hg hat)
                          have n3_ := Aside0.mk (hb)
                          have n4_ := Aside0.mk (ho)
                          clear HO_6
                          clear HO403
                          clear HO411
                          clear HB
                          clear HO398
                          have HO_6 := n0_
                          have HO403 := n1_
                          have HO411 := n2_
                          have HB := n3_
                          have HO406 := n4_
                          clear n0_ n1_ n2_ n3_ n4_
                          clear ho hb hg hat
                          refine hK.out _ _ trivial (fun hHeld => ?_)
                          clear hK K
                          refine norm_ (a' := ?_) ?_ ?_
                          rotate_left
                          · show Act.put _ (some 43) _ = _
                            simp only [Act.put, List.setIfInBounds_toArray, List.set_cons_zero, List.set_cons_succ, i64_w, i32_w]
                            rfl
                          refine one_ (i := 9) (N := some 48) #[true, true, true, true, true, true, true, true, true, true, false] rfl rfl (one_of HT_.out (by kernel_rfl)) (by decide) (fun K hK => ?_)
                          refine Kd.N_append_rows_step (Kd.slice 3 (Kd.int .i64)) (w0 := w) w.heap.size (by rfl) (.tmp 43) (.tmp 47) 22 26 (.slice none 0 0) 24 rfl Try.underlying22 info26 rfl (by decide) (by omega) v405 y404 y407 _ _ _ (fun _ => True) (fun k_ => ((fun _ => True)) k_ ∧ some k_ ≠ (v405 : Value).ownBlock) rfl rfl ?aO ?aR (fun _ hk => hk) ?aF ?aB ?aS ?aL ?_
                          (case aR => exact (by skip; exact Kd.V_F (Kd.V_mono (ok' := (fun k_ => ((fun _ => True)) k_ ∧ some k_ ≠ (v405 : Value).ownBlock)) (HO411.out) (fun k_ hk => ⟨trivial, hk.2⟩))))
                          (case aB => exact (by repeat (first | (with_reducible first | exact HB.out | apply below_alloc | apply pw_below_drewN | apply below_drew1) | exact HB.out)))
                          (case aF => exact (fun _ _ => trivial))
                          (case aO => exact (by (with_reducible repeat (first | apply Kd.N_alloc | apply Kd.N_drewN | apply Kd.N_drew)); exact HO406.out))
                          (case aS => exact (below_size (by repeat (first | (with_reducible first | exact HB.out | apply below_alloc | apply pw_below_drewN | apply below_drew1) | exact HB.out))))
                          (case aL => have := LMc27.out; omega)
                          intro v413 w39 ho hb hg hat
                          rw [← Ny412.out] at ho
                          have n0_ := Aside0.mk (Kd.N_afterv (ok := (fun _ => True)) (by (with_reducible repeat (first | apply Kd.N_alloc | apply Kd.N_drewN | apply Kd.N_drew)); exact HO_6.out) hg hat)
                          have n1_ := Aside0.mk (Kd.V_afterv (ok := (fun _ => True)) (by (with_reducible repeat (first | apply Kd.V_alloc | apply Kd.V_drewN | apply Kd.V_drew)); exact HO403.out) hg hat)
                          have n2_ := Aside0.mk (Kd.V_afterv (ok := (fun _ => True)) (by (with_reducible repeat (first | apply Kd.V_alloc | apply Kd.V_drewN | apply Kd.V_drew)); exact HO411.out) hg hat)
                          have n3_ := Aside0.mk (hb)
                          have n4_ := Aside0.mk (ho)
                          clear HO_6
                          clear HO403
                          clear HO411
                          clear HB
                          clear HO406
                          have HO_6 := n0_
                          have HO403 := n1_
                          have HO411 := n2_
                          have HB := n3_
                          have HO414 := n4_
                          clear n0_ n1_ n2_ n3_ n4_
                          clear ho hb hg hat
                          refine hK.out _ _ trivial (fun hHeld => ?_)
                          clear hK K
                          refine norm_ (a' := ?_) ?_ ?_
                          rotate_left
                          · show Act.put _ (some 48) _ = _
                            simp only [Act.put, List.setIfInBounds_toArray, List.set_cons_zero, List.set_cons_succ, i64_w, i32_w]
                            rfl
                          refine pure_ (i := 10) (N := some 9) (v := ?_) (a' := ?_) #[true, true, true, true, true, true, true, true, true, true, true] rfl rfl (any_of HT_.out (by kernel_rfl)) (fun _ _ _ h => h) (Or.inl ⟨by rfl, ?_⟩) ?_ ?_
                          rotate_left
                          · intro w'
                            go_simp
                            with_reducible rfl
                          rotate_left
                          · simp only [Act.put, List.setIfInBounds_toArray, List.set_cons_zero, List.set_cons_succ, i64_w, i32_w]
                            rfl
                          refine done_ (done_of HT_.out (by kernel_rfl)) ?_
                          try go_wp2_with (first | ((with_reducible refine gate_dst (N := 49) rfl ?_); refine Kd.R_lit (Kd.int .i64) _ 3 ?hg (N := 49) ?hd (xs := ([] : List Int)) (inner := []) (ok := fun _ => True) (okp := fun _ => True) ?hr ?hp (fun _ hk => hk) trivial (Below.refl _ _) (Nat.le_refl _) (by simp) ?_; (case hd => rfl); (case hg => rfl); (case hr => first | (go_simp; done) | (go_simp; rfl)); (case hp => exact (Reps.none _ _)); intro v416 w40 ho41 hb hg_ hnew_; clear hg_ hnew_; (first | rw [← Ny415.out] at ho41 | (simp only [Int.reduceToNat] at ho41; rw [← Ny415.out] at ho41)); have n0_ := Aside0.mk (Kd.N_elder' (by (with_reducible repeat (first | apply Kd.N_alloc | apply Kd.N_drewN | apply Kd.N_drew)); exact HO_6.out) (Kd.R_base ho41) hb); have n1_ := Aside0.mk (Kd.V_elder' (by (with_reducible repeat (first | apply Kd.V_alloc | apply Kd.V_drewN | apply Kd.V_drew)); exact HO403.out) (Kd.R_base ho41) hb); have n2_ := Aside0.mk (Kd.V_elder' (by (with_reducible repeat (first | apply Kd.V_alloc | apply Kd.V_drewN | apply Kd.V_drew)); exact HO411.out) (Kd.R_base ho41) hb); have n3_ := Aside0.mk (Kd.N_elder' (by (with_reducible repeat (first | apply Kd.N_alloc | apply Kd.N_drewN | apply Kd.N_drew)); exact HO414.out) (Kd.R_base ho41) hb); have n4_ := Aside0.mk (Kd.R_lower ho41 (below_size (by repeat (first | (with_reducible first | exact HB.out | apply below_alloc | apply pw_below_drewN | apply below_drew1) | exact HB.out)))); have n5_ := Aside0.mk (below_step (by repeat (first | (with_reducible first | exact HB.out | apply below_alloc | apply pw_below_drewN | apply below_drew1) | exact HB.out)) hb); clear HO_6; clear HO403; clear HO411; clear HO414; clear HB; have HO_6 := n0_; have HO403 := n1_; have HO411 := n2_; have HO414 := n3_; have HO417 := n4_; have HB := n5_; clear n0_ n1_ n2_ n3_ n4_ n5_; clear hb ho41; obtain ⟨Ao42, co42, eo42⟩ := Kd.R_slice HO417.out; subst eo42) | ((with_reducible refine gate_dst (N := 50) rfl ?_); refine Kd.N_lit (Kd.slice 3 (Kd.int .i64)) _ 26 ?hg (N' := 50) ?hd (xs := ([y415] : List (List Int))) (inner := [.slice Ao42 y415.length co42]) (ok := (fun k_ => some k_ ≠ (.slice Ao32 x6_1.length co32 : Value).ownBlock ∧ some k_ ≠ (v413 : Value).ownBlock)) (okp := (fun k_ => some k_ ≠ (.slice Ao32 x6_1.length co32 : Value).ownBlock ∧ some k_ ≠ (v413 : Value).ownBlock)) ?hr ?hp (fun _ hk => hk) ((show ∀ k_, w40.heap.size ≤ k_ → (fun k_ => some k_ ≠ (.slice Ao32 x6_1.length co32 : Value).ownBlock ∧ some k_ ≠ (v413 : Value).ownBlock) k_ from fun k_ hk => ⟨Kd.fresh' (Kd.N_lt (by (with_reducible repeat (first | apply Kd.N_alloc | apply Kd.N_drewN | apply Kd.N_drew)); exact HO_6.out)) k_ hk, Kd.fresh' (Kd.N_lt (by (with_reducible repeat (first | apply Kd.N_alloc | apply Kd.N_drewN | apply Kd.N_drew)); exact HO414.out)) k_ hk⟩) _ (Nat.le_refl _)) (Below.refl _ _) (Nat.le_refl _) (by simp) ?_; (case hd => rfl); (case hg => rfl); (case hr => first | (go_simp; done) | (go_simp; rfl)); (case hp => exact (Reps.one (show Kd.FK (Kd.slice 3 (Kd.int .i64)) _ _ y415 [.slice Ao42 y415.length co42] from (Kd.FK_slice_mk (Kd.R_reads' (Kd.R_mono (ok' := (fun k_ => some k_ ≠ (.slice Ao32 x6_1.length co32 : Value).ownBlock ∧ some k_ ≠ (v413 : Value).ownBlock)) (Kd.R_apart' (Kd.R_apart' (HO417.out) (Kd.N_typed HO_6.out) (by decide)) (Kd.N_typed HO414.out) (by decide)) (fun k_ hk => ⟨hk.1.2, hk.2⟩))).2.1 (Kd.R_F (Kd.R_mono (ok' := (fun k_ => some k_ ≠ (.slice Ao32 x6_1.length co32 : Value).ownBlock ∧ some k_ ≠ (v413 : Value).ownBlock)) (Kd.R_apart' (Kd.R_apart' (HO417.out) (Kd.N_typed HO_6.out) (by decide)) (Kd.N_typed HO414.out) (by decide)) (fun k_ hk => ⟨hk.1.2, hk.2⟩))))) (Reps.none _ _))); intro v419 w43 ho44 hb hg_ hnew_; clear hg_ hnew_; (first | rw [← Ny418.out] at ho44 | (simp only [Int.reduceToNat] at ho44; rw [← Ny418.out] at ho44)); have n0_ := Aside0.mk (Kd.N_elder' (by (with_reducible repeat (first | apply Kd.N_alloc | apply Kd.N_drewN | apply Kd.N_drew)); exact HO_6.out) (Kd.N_base ho44) hb); have n1_ := Aside0.mk (Kd.V_elder' (by (with_reducible repeat (first | apply Kd.V_alloc | apply Kd.V_drewN | apply Kd.V_drew)); exact HO403.out) (Kd.N_base ho44) hb); have n2_ := Aside0.mk (Kd.V_elder' (by (with_reducible repeat (first | apply Kd.V_alloc | apply Kd.V_drewN | apply Kd.V_drew)); exact HO411.out) (Kd.N_base ho44) hb); have n3_ := Aside0.mk (Kd.N_elder' (by (with_reducible repeat (first | apply Kd.N_alloc | apply Kd.N_drewN | apply Kd.N_drew)); exact HO414.out) (Kd.N_base ho44) hb); have n4_ := Aside0.mk (Kd.N_lower ho44 (below_size (by repeat (first | (with_reducible first | exact HB.out | apply below_alloc | apply pw_below_drewN | apply below_drew1) | exact HB.out)))); have n5_ := Aside0.mk (below_step (by repeat (first | (with_reducible first | exact HB.out | apply below_alloc | apply pw_below_drewN | apply below_drew1) | exact HB.out)) hb); clear HO_6; clear HO403; clear HO411; clear HO414; clear HB; clear HO417; have HO_6 := n0_; have HO403 := n1_; have HO411 := n2_; have HO414 := n3_; have HO420 := n4_; have HB := n5_; clear n0_ n1_ n2_ n3_ n4_ n5_; clear hb ho44; obtain ⟨Ao45, co45, eo45⟩ := Kd.N_slice HO420.out; subst eo45) | (go_at_call 12; (with_reducible refine (trace_Check.calls k1 _ _ x6_1 _ _ y418 true _ ?side1 ?side2 ?side3 ?side4 A29.out).mono ?_); (case side1 => repeat (first | exact (Kd.N_reads' HO_6.out).2.2 | (with_reducible refine Kd.C_alloc ?_ _) | (with_reducible refine Kd.C_drewN ?_ _) | (with_reducible refine Kd.C_drew ?_))); (case side2 => exact (Kd.N_reads' HO_6.out).2.1); (case side3 => repeat (first | exact (Kd.N_reads' HO420.out).2.2 | (with_reducible refine Kd.C_alloc ?_ _) | (with_reducible refine Kd.C_drewN ?_ _) | (with_reducible refine Kd.C_drew ?_))); (case side4 => exact (Kd.N_reads' HO420.out).2.1); rintro e w46 ⟨rfl, hb⟩; have n0_ := Aside0.mk (Kd.N_below (by (with_reducible repeat (first | apply Kd.N_alloc | apply Kd.N_drewN | apply Kd.N_drew)); exact HO_6.out) hb); have n1_ := Aside0.mk (Kd.V_below (by (with_reducible repeat (first | apply Kd.V_alloc | apply Kd.V_drewN | apply Kd.V_drew)); exact HO403.out) hb); have n2_ := Aside0.mk (Kd.V_below (by (with_reducible repeat (first | apply Kd.V_alloc | apply Kd.V_drewN | apply Kd.V_drew)); exact HO411.out) hb); have n3_ := Aside0.mk (Kd.N_below (by (with_reducible repeat (first | apply Kd.N_alloc | apply Kd.N_drewN | apply Kd.N_drew)); exact HO414.out) hb); have n4_ := Aside0.mk (Kd.N_below (by (with_reducible repeat (first | apply Kd.N_alloc | apply Kd.N_drewN | apply Kd.N_drew)); exact HO420.out) hb); have n5_ := Aside0.mk (below_step (by repeat (first | (with_reducible first | exact HB.out | apply below_alloc | apply pw_below_drewN | apply below_drew1) | exact HB.out)) hb); clear HO_6; clear HO403; clear HO411; clear HO414; clear HO420; clear HB; have HO_6 := n0_; have HO403 := n1_; have HO411 := n2_; have HO414 := n3_; have HO420 := n4_; have HB := n5_; clear n0_ n1_ n2_ n3_ n4_ n5_; (try clear hb); (try clear hb2); (try clear hk); (try clear hi); obtain ⟨Ao47, co47, eo47⟩ := Kd.N_slice HO414.out; subst eo47) | (go_at_call 12; (with_reducible refine (trace_Check.calls k1 _ _ y412 _ _ y418 t422 _ ?side1 ?side2 ?side3 ?side4 A31.out).mono ?_); (case side1 => repeat (first | exact (Kd.N_reads' HO414.out).2.2 | (with_reducible refine Kd.C_alloc ?_ _) | (with_reducible refine Kd.C_drewN ?_ _) | (with_reducible refine Kd.C_drew ?_))); (case side2 => exact (Kd.N_reads' HO414.out).2.1); (case side3 => repeat (first | exact (Kd.N_reads' HO420.out).2.2 | (with_reducible refine Kd.C_alloc ?_ _) | (with_reducible refine Kd.C_drewN ?_ _) | (with_reducible refine Kd.C_drew ?_))); (case side4 => exact (Kd.N_reads' HO420.out).2.1); rintro e w48 ⟨rfl, hb⟩; have n0_ := Aside0.mk (Kd.N_below (by (with_reducible repeat (first | apply Kd.N_alloc | apply Kd.N_drewN | apply Kd.N_drew)); exact HO_6.out) hb); have n1_ := Aside0.mk (Kd.V_below (by (with_reducible repeat (first | apply Kd.V_alloc | apply Kd.V_drewN | apply Kd.V_drew)); exact HO403.out) hb); have n2_ := Aside0.mk (Kd.V_below (by (with_reducible repeat (first | apply Kd.V_alloc | apply Kd.V_drewN | apply Kd.V_drew)); exact HO411.out) hb); have n3_ := Aside0.mk (Kd.N_below (by (with_reducible repeat (first | apply Kd.N_alloc | apply Kd.N_drewN | apply Kd.N_drew)); exact HO414.out) hb); have n4_ := Aside0.mk (Kd.N_below (by (with_reducible repeat (first | apply Kd.N_alloc | apply Kd.N_drewN | apply Kd.N_drew)); exact HO420.out) hb); have n5_ := Aside0.mk (below_step (by repeat (first | (with_reducible first | exact HB.out | apply below_alloc | apply pw_below_drewN | apply below_drew1) | exact HB.out)) hb); clear HO_6; clear HO403; clear HO411; clear HO414; clear HO420; clear HB; have HO_6 := n0_; have HO403 := n1_; have HO411 := n2_; have HO414 := n3_; have HO420 := n4_; have HB := n5_; clear n0_ n1_ n2_ n3_ n4_ n5_; (try clear hb); (try clear hb2); (try clear hk); (try clear hi)))
                          go_ret
                          exact ⟨by first | rfl | (simp [errW_none, errW_some] <;> rfl) | (simp only [← hji20, ← hji24]; first | rfl | (simp [errW_none, errW_some] <;> rfl)) | (simp [*, errW_none, errW_some] <;> rfl), by repeat (first | (with_reducible first | exact HB.out | apply below_alloc | apply pw_below_drewN | apply below_drew1) | exact HB.out)⟩
                        · replace c30 := Bool.eq_false_iff.mpr c30
                          subst c30
                          have H1 : (some false) = some r := by rw [if_neg (show ¬ (false = true) by decide)] at H; exact H
                          clear H
                          have H := H1
                          clear H1
                          obtain rfl := Option.some.inj H
                          obtain ⟨Ao49, co49, eo49⟩ := Kd.N_slice HO_6.out
                          subst eo49
                          try go_wp2
                          have n0_ := Aside0.mk (Kd.N_drew HO_6.out)
                          have n1_ := Aside0.mk (below_drew1 HB.out)
                          clear HO_6
                          clear HB
                          have HO_6 := n0_
                          have HB := n1_
                          clear n0_ n1_
                          have q51 : ((ji20) : Int) ≤ ((x6_1.length : Int) : Int) := of_decide_eq_true (by first | (with_reducible assumption) | assumption)
                          obtain ⟨i051, hi051, _, hsz51, _⟩ := info_parts info26
                          have hroom51 : x6_1.length ≤ co49 := (Kd.N_reads' HO_6.out).2.1
                          have hC51 : Kd.F (Kd.slice 3 (Kd.int .i64)) _ _ Ao49 x6_1.length x6_1 := (Kd.V_at (base := w.heap.size) (Kd.N_V HO_6.out)).2.2
                          have hcut51 := cut_to (P := Try.prog) 22 26 .i64 Try.underlying22 hi051 Ao49 x6_1.length co49 (ji20) (of_decide_eq_true (by first | (with_reducible assumption) | assumption)) q51 hroom51
                          have hr51 := Kd.F_take (m := ((ji20) : Int).toNat) hC51 (by omega)
                          have hy51 : y399.length = ((ji20) : Int).toNat := (by rw [Ny399.out, List.length_take]; omega)
                          rw [← Ny399.out] at hr51
                          rw [← hy51] at hcut51
                          have HO403 := Aside0.mk (show Kd.V (Kd.slice 3 (Kd.int .i64)) 26 _ w.heap.size _ (.slice Ao49 y399.length co49) y399 from Kd.V_mk (by omega) hr51)
                          have HC403 := Aside0.mk (show y399.length ≤ co49 from by omega)
                          clear hr51 hC51 hroom51 hi051 hsz51
                          have KY51 := Aside0.mk hy51
                          clear hy51
                          replace q51 := eq_true q51
                          have q52 : ((ji24) : Int) ≤ ((x6_1.length : Int) : Int) := of_decide_eq_true (by first | (with_reducible assumption) | assumption)
                          obtain ⟨i052, hi052, _, hsz52, _⟩ := info_parts info26
                          have hroom52 : x6_1.length ≤ co49 := (Kd.N_reads' HO_6.out).2.1
                          have hC52 : Kd.F (Kd.slice 3 (Kd.int .i64)) _ _ Ao49 x6_1.length x6_1 := (Kd.V_at (base := w.heap.size) (Kd.N_V HO_6.out)).2.2
                          have q052 : (0 : Int) ≤ ((ji24) : Int) := of_decide_eq_true (by first | (with_reducible assumption) | assumption)
                          have hcut52 := cut_from (P := Try.prog) 22 26 .i64 Try.underlying22 hi052 1 hsz52 Ao49 x6_1.length co49 (ji24) q052 q52
                          have hr52 := Kd.F_cut (m := ((ji24) : Int).toNat) (c := co49) hC52 (by omega) hroom52
                          obtain ⟨A52, hA52⟩ : ∃ A1, A1 = (if co49 = ((ji24) : Int).toNat then Ao49 else (Ao49 : Option Addr).map (·.add (((ji24) : Int).toNat * 1))) := ⟨_, rfl⟩
                          obtain ⟨c52, hc52⟩ : ∃ c1, c1 = co49 - ((ji24) : Int).toNat := ⟨_, rfl⟩
                          have hy52 : y407.length = x6_1.length - ((ji24) : Int).toNat := (by rw [Ny407.out, List.length_drop] <;> omega)
                          rw [show (x6_1).drop ((ji24) : Int).toNat = y407 from Ny407.out.symm] at hr52
                          replace hr52 : Kd.F (Kd.slice 3 (Kd.int .i64)) _ _ A52 y407.length y407 := (by rw [hA52]; exact hr52)
                          rw [← hy52, ← hA52, ← hc52] at hcut52
                          have HO411 := Aside0.mk (show Kd.V (Kd.slice 3 (Kd.int .i64)) 26 _ w.heap.size _ (.slice A52 y407.length c52) y407 from Kd.V_mk (by rw [hy52, hc52]; exact Nat.sub_le_sub_right hroom52 _) hr52)
                          have HC411 := Aside0.mk (show y407.length ≤ c52 from by rw [hy52, hc52]; exact Nat.sub_le_sub_right hroom52 _)
                          clear hr52 hC52 hroom52 hi052 hsz52 hc52
                          have KY52 := Aside0.mk hy52
                          have KA52 := Aside0.mk hA52
                          clear hy52 hA52
                          replace q52 := eq_true q52
                          refine start_ (n := 11) (S := fun w' => True) (ds := []) #[false, false, false, false, false, false, false, false, false, false, false] (by kernel_rfl) rfl rfl trivial (fun hHeld => ?_); refine with_tabW ashlarlaw10_TraceChain.tab9 ashlarlaw10_TraceChain.bits9 (fun HT_ HW_ => ?_)
                          generalize wr.drew = w50 at HO_6 HB HO403 HO411 hHeld ⊢
                          refine pure_ (i := 1) (N := some 40) (v := ?_) (a' := ?_) #[false, true, false, false, false, false, false, false, false, false, false] rfl rfl (any_of HT_.out (by kernel_rfl)) (fun _ _ _ h => h) (Or.inl ⟨by rfl, ?_⟩) ?_ ?_
                          rotate_left
                          · intro w'
                            go_simp
                            with_reducible rfl
                          rotate_left
                          · simp only [Act.put, List.setIfInBounds_toArray, List.set_cons_zero, List.set_cons_succ, i64_w, i32_w]
                            rfl
                          refine pure_ (i := 2) (N := some 41) (v := ?_) (a' := ?_) #[false, true, true, false, false, false, false, false, false, false, false] rfl rfl (any_of HT_.out (by kernel_rfl)) (fun _ _ _ h => h) (Or.inl ⟨by rfl, ?_⟩) ?_ ?_
                          rotate_left
                          · intro w'
                            go_simp
                            with_reducible rfl
                          rotate_left
                          · simp only [Act.put, List.setIfInBounds_toArray, List.set_cons_zero, List.set_cons_succ, i64_w, i32_w]
                            rfl
                          refine pure_ (i := 3) (N := some 42) (v := ?_) (a' := ?_) #[false, true, true, true, false, false, false, false, false, false, false] rfl rfl (any_of HT_.out (by kernel_rfl)) (fun _ _ _ h => h) (Or.inl ⟨by rfl, ?_⟩) ?_ ?_
                          rotate_left
                          · intro w'
                            go_simp
                            with_reducible rfl
                          rotate_left
                          · simp only [Act.put, List.setIfInBounds_toArray, List.set_cons_zero, List.set_cons_succ, i64_w, i32_w]
                            rfl
                          refine pure_ (i := 5) (N := some 44) (v := ?_) (a' := ?_) #[false, true, true, true, false, true, false, false, false, false, false] rfl rfl (any_of HT_.out (by kernel_rfl)) (fun _ _ _ h => h) (Or.inl ⟨by rfl, ?_⟩) ?_ ?_
                          rotate_left
                          · intro w'
                            go_simp
                            with_reducible rfl
                          rotate_left
                          · simp only [Act.put, List.setIfInBounds_toArray, List.set_cons_zero, List.set_cons_succ, i64_w, i32_w]
                            rfl
                          refine pure_ (i := 6) (N := some 45) (v := ?_) (a' := ?_) #[false, true, true, true, false, true, true, false, false, false, false] rfl rfl (any_of HT_.out (by kernel_rfl)) (fun _ _ _ h => h) (Or.inl ⟨by rfl, ?_⟩) ?_ ?_
                          rotate_left
                          · intro w'
                            go_simp
                            with_reducible rfl
                          rotate_left
                          · simp only [Act.put, List.setIfInBounds_toArray, List.set_cons_zero, List.set_cons_succ, i64_w, i32_w]
                            rfl
                          refine pure_ (i := 7) (N := some 46) (v := ?_) (a' := ?_) #[false, true, true, true, false, true, true, true, false, false, false] rfl rfl (any_of HT_.out (by kernel_rfl)) (fun _ _ _ h => h) (Or.inl ⟨by rfl, ?_⟩) ?_ ?_
                          rotate_left
                          · intro w'
                            go_simp
                            with_reducible rfl
                          rotate_left
                          · simp only [Act.put, List.setIfInBounds_toArray, List.set_cons_zero, List.set_cons_succ, i64_w, i32_w]
                            rfl
                          refine pure_ (i := 8) (N := some 47) (v := ?_) (a' := ?_) #[false, true, true, true, false, true, true, true, true, false, false] rfl rfl (any_of HT_.out (by kernel_rfl)) (fun _ _ _ h => h) (Or.inl ⟨by rfl, ?_⟩) ?_ ?_
                          rotate_left
                          · intro w'
                            go_simp
                            with_reducible rfl
                          rotate_left
                          · simp only [Act.put, List.setIfInBounds_toArray, List.set_cons_zero, List.set_cons_succ, i64_w, i32_w]
                            rfl
                          refine one_ (i := 0) (N := some 39) #[true, true, true, true, false, true, true, true, true, false, false] rfl rfl (one_of HT_.out (by kernel_rfl)) (by decide) (fun K hK => ?_)
                          refine Kd.N_lit_step (Kd.slice 3 (Kd.int .i64)) _ 26 ?hg (N' := 39) ?hd (xs := ([] : List (List Int))) (inner := []) (ok := (fun k_ => some k_ ≠ (.slice Ao49 x6_1.length co49 : Value).ownBlock)) (okp := (fun k_ => some k_ ≠ (.slice Ao49 x6_1.length co49 : Value).ownBlock)) ?hr ?hp (fun _ hk => hk) ((show ∀ k_, w50.heap.size ≤ k_ → (fun k_ => some k_ ≠ (.slice Ao49 x6_1.length co49 : Value).ownBlock) k_ from fun k_ hk => Kd.fresh' (Kd.N_lt (by (with_reducible repeat (first | apply Kd.N_alloc | apply Kd.N_drewN | apply Kd.N_drew)); exact HO_6.out)) k_ hk) _ (Nat.le_refl _)) (Below.refl _ _) (Nat.le_refl _) (by simp) ?_; (case hd => rfl); (case hg => rfl); (case hr => first | (go_simp; done) | (go_simp; rfl)); (case hp => exact (Reps.none _ _))
                          intro v397 w53 ho54 hb hg_ hnew_
                          clear hg_ hnew_
                          (first | rw [← Ny396.out] at ho54 | (simp only [Int.reduceToNat] at ho54; rw [← Ny396.out] at ho54))
                          have n0_ := Aside0.mk (Kd.N_elder' (by (with_reducible repeat (first | apply Kd.N_alloc | apply Kd.N_drewN | apply Kd.N_drew)); exact HO_6.out) (Kd.N_base ho54) hb)
                          have n1_ := Aside0.mk (Kd.V_elder' (by (with_reducible repeat (first | apply Kd.V_alloc | apply Kd.V_drewN | apply Kd.V_drew)); exact HO403.out) (Kd.N_base ho54) hb)
                          have n2_ := Aside0.mk (Kd.V_elder' (by (with_reducible repeat (first | apply Kd.V_alloc | apply Kd.V_drewN | apply Kd.V_drew)); exact HO411.out) (Kd.N_base ho54) hb)
                          have n3_ := Aside0.mk (Kd.N_lower ho54 (below_size (by repeat (first | (with_reducible first | exact HB.out | apply below_alloc | apply pw_below_drewN | apply below_drew1) | exact HB.out))))
                          have n4_ := Aside0.mk (below_step (by repeat (first | (with_reducible first | exact HB.out | apply below_alloc | apply pw_below_drewN | apply below_drew1) | exact HB.out)) hb)
                          clear HO_6
                          clear HO403
                          clear HO411
                          clear HB
                          have HO_6 := n0_
                          have HO403 := n1_
                          have HO411 := n2_
                          have HO398 := n3_
                          have HB := n4_
                          clear n0_ n1_ n2_ n3_ n4_
                          clear hb ho54
                          refine hK.out _ _ trivial (fun hHeld => ?_)
                          clear hK K
                          refine norm_ (a' := ?_) ?_ ?_
                          rotate_left
                          · show Act.put _ (some 39) _ = _
                            simp only [Act.put, List.setIfInBounds_toArray, List.set_cons_zero, List.set_cons_succ, i64_w, i32_w]
                            rfl
                          refine one_ (i := 4) (N := some 43) #[true, true, true, true, true, true, true, true, true, false, false] rfl rfl (one_of HT_.out (by kernel_rfl)) (by decide) (fun K hK => ?_)
                          refine Kd.N_append_rows_step (Kd.slice 3 (Kd.int .i64)) (w0 := w) w.heap.size (by rfl) (.tmp 39) (.tmp 42) 22 26 (.slice none 0 0) 24 rfl Try.underlying22 info26 rfl (by decide) (by omega) v397 y396 y399 _ _ _ (fun _ => True) (fun k_ => ((fun _ => True)) k_ ∧ some k_ ≠ (v397 : Value).ownBlock) rfl rfl ?aO ?aR (fun _ hk => hk) ?aF ?aB ?aS ?aL ?_
                          (case aR => exact (by skip; exact Kd.V_F (Kd.V_mono (ok' := (fun k_ => ((fun _ => True)) k_ ∧ some k_ ≠ (v397 : Value).ownBlock)) (HO403.out) (fun k_ hk => ⟨trivial, hk.2⟩))))
                          (case aB => exact (by repeat (first | (with_reducible first | exact HB.out | apply below_alloc | apply pw_below_drewN | apply below_drew1) | exact HB.out)))
                          (case aF => exact (fun _ _ => trivial))
                          (case aO => exact (by (with_reducible repeat (first | apply Kd.N_alloc | apply Kd.N_drewN | apply Kd.N_drew)); exact Kd.N_mono HO398.out (fun _ hk => trivial)))
                          (case aS => exact (below_size (by repeat (first | (with_reducible first | exact HB.out | apply below_alloc | apply pw_below_drewN | apply below_drew1) | exact HB.out))))
                          (case aL => have := LMc23.out; omega)
                          intro v405 w55 ho hb hg hat
                          rw [← Ny404.out] at ho
                          have n0_ := Aside0.mk (Kd.N_afterv (ok := (fun _ => True)) (by (with_reducible repeat (first | apply Kd.N_alloc | apply Kd.N_drewN | apply Kd.N_drew)); exact HO_6.out) hg hat)
                          have n1_ := Aside0.mk (Kd.V_afterv (ok := (fun _ => True)) (by (with_reducible repeat (first | apply Kd.V_alloc | apply Kd.V_drewN | apply Kd.V_drew)); exact HO403.out) hg hat)
                          have n2_ := Aside0.mk (Kd.V_afterv (ok := (fun _ => True)) (by (with_reducible repeat (first | apply Kd.V_alloc | apply Kd.V_drewN | apply Kd.V_drew)); exact HO411.out) hg hat)
                          have n3_ := Aside0.mk (hb)
                          have n4_ := Aside0.mk (ho)
                          clear HO_6
                          clear HO403
                          clear HO411
                          clear HB
                          clear HO398
                          have HO_6 := n0_
                          have HO403 := n1_
                          have HO411 := n2_
                          have HB := n3_
                          have HO406 := n4_
                          clear n0_ n1_ n2_ n3_ n4_
                          clear ho hb hg hat
                          refine hK.out _ _ trivial (fun hHeld => ?_)
                          clear hK K
                          refine norm_ (a' := ?_) ?_ ?_
                          rotate_left
                          · show Act.put _ (some 43) _ = _
                            simp only [Act.put, List.setIfInBounds_toArray, List.set_cons_zero, List.set_cons_succ, i64_w, i32_w]
                            rfl
                          refine one_ (i := 9) (N := some 48) #[true, true, true, true, true, true, true, true, true, true, false] rfl rfl (one_of HT_.out (by kernel_rfl)) (by decide) (fun K hK => ?_)
                          refine Kd.N_append_rows_step (Kd.slice 3 (Kd.int .i64)) (w0 := w) w.heap.size (by rfl) (.tmp 43) (.tmp 47) 22 26 (.slice none 0 0) 24 rfl Try.underlying22 info26 rfl (by decide) (by omega) v405 y404 y407 _ _ _ (fun _ => True) (fun k_ => ((fun _ => True)) k_ ∧ some k_ ≠ (v405 : Value).ownBlock) rfl rfl ?aO ?aR (fun _ hk => hk) ?aF ?aB ?aS ?aL ?_
                          (case aR => exact (by skip; exact Kd.V_F (Kd.V_mono (ok' := (fun k_ => ((fun _ => True)) k_ ∧ some k_ ≠ (v405 : Value).ownBlock)) (HO411.out) (fun k_ hk => ⟨trivial, hk.2⟩))))
                          (case aB => exact (by repeat (first | (with_reducible first | exact HB.out | apply below_alloc | apply pw_below_drewN | apply below_drew1) | exact HB.out)))
                          (case aF => exact (fun _ _ => trivial))
                          (case aO => exact (by (with_reducible repeat (first | apply Kd.N_alloc | apply Kd.N_drewN | apply Kd.N_drew)); exact HO406.out))
                          (case aS => exact (below_size (by repeat (first | (with_reducible first | exact HB.out | apply below_alloc | apply pw_below_drewN | apply below_drew1) | exact HB.out))))
                          (case aL => have := LMc27.out; omega)
                          intro v413 w56 ho hb hg hat
                          rw [← Ny412.out] at ho
                          have n0_ := Aside0.mk (Kd.N_afterv (ok := (fun _ => True)) (by (with_reducible repeat (first | apply Kd.N_alloc | apply Kd.N_drewN | apply Kd.N_drew)); exact HO_6.out) hg hat)
                          have n1_ := Aside0.mk (Kd.V_afterv (ok := (fun _ => True)) (by (with_reducible repeat (first | apply Kd.V_alloc | apply Kd.V_drewN | apply Kd.V_drew)); exact HO403.out) hg hat)
                          have n2_ := Aside0.mk (Kd.V_afterv (ok := (fun _ => True)) (by (with_reducible repeat (first | apply Kd.V_alloc | apply Kd.V_drewN | apply Kd.V_drew)); exact HO411.out) hg hat)
                          have n3_ := Aside0.mk (hb)
                          have n4_ := Aside0.mk (ho)
                          clear HO_6
                          clear HO403
                          clear HO411
                          clear HB
                          clear HO406
                          have HO_6 := n0_
                          have HO403 := n1_
                          have HO411 := n2_
                          have HB := n3_
                          have HO414 := n4_
                          clear n0_ n1_ n2_ n3_ n4_
                          clear ho hb hg hat
                          refine hK.out _ _ trivial (fun hHeld => ?_)
                          clear hK K
                          refine norm_ (a' := ?_) ?_ ?_
                          rotate_left
                          · show Act.put _ (some 48) _ = _
                            simp only [Act.put, List.setIfInBounds_toArray, List.set_cons_zero, List.set_cons_succ, i64_w, i32_w]
                            rfl
                          refine pure_ (i := 10) (N := some 9) (v := ?_) (a' := ?_) #[true, true, true, true, true, true, true, true, true, true, true] rfl rfl (any_of HT_.out (by kernel_rfl)) (fun _ _ _ h => h) (Or.inl ⟨by rfl, ?_⟩) ?_ ?_
                          rotate_left
                          · intro w'
                            go_simp
                            with_reducible rfl
                          rotate_left
                          · simp only [Act.put, List.setIfInBounds_toArray, List.set_cons_zero, List.set_cons_succ, i64_w, i32_w]
                            rfl
                          refine done_ (done_of HT_.out (by kernel_rfl)) ?_
                          try go_wp2_with (first | ((with_reducible refine gate_dst (N := 49) rfl ?_); refine Kd.R_lit (Kd.int .i64) _ 3 ?hg (N := 49) ?hd (xs := ([] : List Int)) (inner := []) (ok := fun _ => True) (okp := fun _ => True) ?hr ?hp (fun _ hk => hk) trivial (Below.refl _ _) (Nat.le_refl _) (by simp) ?_; (case hd => rfl); (case hg => rfl); (case hr => first | (go_simp; done) | (go_simp; rfl)); (case hp => exact (Reps.none _ _)); intro v416 w57 ho58 hb hg_ hnew_; clear hg_ hnew_; (first | rw [← Ny415.out] at ho58 | (simp only [Int.reduceToNat] at ho58; rw [← Ny415.out] at ho58)); have n0_ := Aside0.mk (Kd.N_elder' (by (with_reducible repeat (first | apply Kd.N_alloc | apply Kd.N_drewN | apply Kd.N_drew)); exact HO_6.out) (Kd.R_base ho58) hb); have n1_ := Aside0.mk (Kd.V_elder' (by (with_reducible repeat (first | apply Kd.V_alloc | apply Kd.V_drewN | apply Kd.V_drew)); exact HO403.out) (Kd.R_base ho58) hb); have n2_ := Aside0.mk (Kd.V_elder' (by (with_reducible repeat (first | apply Kd.V_alloc | apply Kd.V_drewN | apply Kd.V_drew)); exact HO411.out) (Kd.R_base ho58) hb); have n3_ := Aside0.mk (Kd.N_elder' (by (with_reducible repeat (first | apply Kd.N_alloc | apply Kd.N_drewN | apply Kd.N_drew)); exact HO414.out) (Kd.R_base ho58) hb); have n4_ := Aside0.mk (Kd.R_lower ho58 (below_size (by repeat (first | (with_reducible first | exact HB.out | apply below_alloc | apply pw_below_drewN | apply below_drew1) | exact HB.out)))); have n5_ := Aside0.mk (below_step (by repeat (first | (with_reducible first | exact HB.out | apply below_alloc | apply pw_below_drewN | apply below_drew1) | exact HB.out)) hb); clear HO_6; clear HO403; clear HO411; clear HO414; clear HB; have HO_6 := n0_; have HO403 := n1_; have HO411 := n2_; have HO414 := n3_; have HO417 := n4_; have HB := n5_; clear n0_ n1_ n2_ n3_ n4_ n5_; clear hb ho58; obtain ⟨Ao59, co59, eo59⟩ := Kd.R_slice HO417.out; subst eo59) | ((with_reducible refine gate_dst (N := 50) rfl ?_); refine Kd.N_lit (Kd.slice 3 (Kd.int .i64)) _ 26 ?hg (N' := 50) ?hd (xs := ([y415] : List (List Int))) (inner := [.slice Ao59 y415.length co59]) (ok := (fun k_ => some k_ ≠ (.slice Ao49 x6_1.length co49 : Value).ownBlock ∧ some k_ ≠ (v413 : Value).ownBlock)) (okp := (fun k_ => some k_ ≠ (.slice Ao49 x6_1.length co49 : Value).ownBlock ∧ some k_ ≠ (v413 : Value).ownBlock)) ?hr ?hp (fun _ hk => hk) ((show ∀ k_, w57.heap.size ≤ k_ → (fun k_ => some k_ ≠ (.slice Ao49 x6_1.length co49 : Value).ownBlock ∧ some k_ ≠ (v413 : Value).ownBlock) k_ from fun k_ hk => ⟨Kd.fresh' (Kd.N_lt (by (with_reducible repeat (first | apply Kd.N_alloc | apply Kd.N_drewN | apply Kd.N_drew)); exact HO_6.out)) k_ hk, Kd.fresh' (Kd.N_lt (by (with_reducible repeat (first | apply Kd.N_alloc | apply Kd.N_drewN | apply Kd.N_drew)); exact HO414.out)) k_ hk⟩) _ (Nat.le_refl _)) (Below.refl _ _) (Nat.le_refl _) (by simp) ?_; (case hd => rfl); (case hg => rfl); (case hr => first | (go_simp; done) | (go_simp; rfl)); (case hp => exact (Reps.one (show Kd.FK (Kd.slice 3 (Kd.int .i64)) _ _ y415 [.slice Ao59 y415.length co59] from (Kd.FK_slice_mk (Kd.R_reads' (Kd.R_mono (ok' := (fun k_ => some k_ ≠ (.slice Ao49 x6_1.length co49 : Value).ownBlock ∧ some k_ ≠ (v413 : Value).ownBlock)) (Kd.R_apart' (Kd.R_apart' (HO417.out) (Kd.N_typed HO_6.out) (by decide)) (Kd.N_typed HO414.out) (by decide)) (fun k_ hk => ⟨hk.1.2, hk.2⟩))).2.1 (Kd.R_F (Kd.R_mono (ok' := (fun k_ => some k_ ≠ (.slice Ao49 x6_1.length co49 : Value).ownBlock ∧ some k_ ≠ (v413 : Value).ownBlock)) (Kd.R_apart' (Kd.R_apart' (HO417.out) (Kd.N_typed HO_6.out) (by decide)) (Kd.N_typed HO414.out) (by decide)) (fun k_ hk => ⟨hk.1.2, hk.2⟩))))) (Reps.none _ _))); intro v419 w60 ho61 hb hg_ hnew_; clear hg_ hnew_; (first | rw [← Ny418.out] at ho61 | (simp only [Int.reduceToNat] at ho61; rw [← Ny418.out] at ho61)); have n0_ := Aside0.mk (Kd.N_elder' (by (with_reducible repeat (first | apply Kd.N_alloc | apply Kd.N_drewN | apply Kd.N_drew)); exact HO_6.out) (Kd.N_base ho61) hb); have n1_ := Aside0.mk (Kd.V_elder' (by (with_reducible repeat (first | apply Kd.V_alloc | apply Kd.V_drewN | apply Kd.V_drew)); exact HO403.out) (Kd.N_base ho61) hb); have n2_ := Aside0.mk (Kd.V_elder' (by (with_reducible repeat (first | apply Kd.V_alloc | apply Kd.V_drewN | apply Kd.V_drew)); exact HO411.out) (Kd.N_base ho61) hb); have n3_ := Aside0.mk (Kd.N_elder' (by (with_reducible repeat (first | apply Kd.N_alloc | apply Kd.N_drewN | apply Kd.N_drew)); exact HO414.out) (Kd.N_base ho61) hb); have n4_ := Aside0.mk (Kd.N_lower ho61 (below_size (by repeat (first | (with_reducible first | exact HB.out | apply below_alloc | apply pw_below_drewN | apply below_drew1) | exact HB.out)))); have n5_ := Aside0.mk (below_step (by repeat (first | (with_reducible first | exact HB.out | apply below_alloc | apply pw_below_drewN | apply below_drew1) | exact HB.out)) hb); clear HO_6; clear HO403; clear HO411; clear HO414; clear HB; clear HO417; have HO_6 := n0_; have HO403 := n1_; have HO411 := n2_; have HO414 := n3_; have HO420 := n4_; have HB := n5_; clear n0_ n1_ n2_ n3_ n4_ n5_; clear hb ho61; obtain ⟨Ao62, co62, eo62⟩ := Kd.N_slice HO420.out; subst eo62) | (go_at_call 12; (with_reducible refine (trace_Check.calls k1 _ _ x6_1 _ _ y418 false _ ?side1 ?side2 ?side3 ?side4 A29.out).mono ?_); (case side1 => repeat (first | exact (Kd.N_reads' HO_6.out).2.2 | (with_reducible refine Kd.C_alloc ?_ _) | (with_reducible refine Kd.C_drewN ?_ _) | (with_reducible refine Kd.C_drew ?_))); (case side2 => exact (Kd.N_reads' HO_6.out).2.1); (case side3 => repeat (first | exact (Kd.N_reads' HO420.out).2.2 | (with_reducible refine Kd.C_alloc ?_ _) | (with_reducible refine Kd.C_drewN ?_ _) | (with_reducible refine Kd.C_drew ?_))); (case side4 => exact (Kd.N_reads' HO420.out).2.1); rintro e w63 ⟨rfl, hb⟩; have n0_ := Aside0.mk (Kd.N_below (by (with_reducible repeat (first | apply Kd.N_alloc | apply Kd.N_drewN | apply Kd.N_drew)); exact HO_6.out) hb); have n1_ := Aside0.mk (Kd.V_below (by (with_reducible repeat (first | apply Kd.V_alloc | apply Kd.V_drewN | apply Kd.V_drew)); exact HO403.out) hb); have n2_ := Aside0.mk (Kd.V_below (by (with_reducible repeat (first | apply Kd.V_alloc | apply Kd.V_drewN | apply Kd.V_drew)); exact HO411.out) hb); have n3_ := Aside0.mk (Kd.N_below (by (with_reducible repeat (first | apply Kd.N_alloc | apply Kd.N_drewN | apply Kd.N_drew)); exact HO414.out) hb); have n4_ := Aside0.mk (Kd.N_below (by (with_reducible repeat (first | apply Kd.N_alloc | apply Kd.N_drewN | apply Kd.N_drew)); exact HO420.out) hb); have n5_ := Aside0.mk (below_step (by repeat (first | (with_reducible first | exact HB.out | apply below_alloc | apply pw_below_drewN | apply below_drew1) | exact HB.out)) hb); clear HO_6; clear HO403; clear HO411; clear HO414; clear HO420; clear HB; have HO_6 := n0_; have HO403 := n1_; have HO411 := n2_; have HO414 := n3_; have HO420 := n4_; have HB := n5_; clear n0_ n1_ n2_ n3_ n4_ n5_; (try clear hb); (try clear hb2); (try clear hk); (try clear hi)))
                          go_ret
                          exact ⟨by first | rfl | (simp [errW_none, errW_some] <;> rfl) | (simp only [← hji20, ← hji24]; first | rfl | (simp [errW_none, errW_some] <;> rfl)) | (simp [*, errW_none, errW_some] <;> rfl), by repeat (first | (with_reducible first | exact HB.out | apply below_alloc | apply pw_below_drewN | apply below_drew1) | exact HB.out)⟩
                      · replace c28 := Bool.eq_false_iff.mpr c28
                        subst c28
                        have H1 : (some false) = some r := by rw [if_neg (show ¬ (false = true) by decide)] at H; exact H
                        clear H
                        have H := H1
                        clear H1
                        obtain rfl := Option.some.inj H
                        obtain ⟨Ao64, co64, eo64⟩ := Kd.N_slice HO_6.out
                        subst eo64
                        try go_wp2
                        have n0_ := Aside0.mk (Kd.N_drew HO_6.out)
                        have n1_ := Aside0.mk (below_drew1 HB.out)
                        clear HO_6
                        clear HB
                        have HO_6 := n0_
                        have HB := n1_
                        clear n0_ n1_
                        have q66 : ((ji20) : Int) ≤ ((x6_1.length : Int) : Int) := of_decide_eq_true (by first | (with_reducible assumption) | assumption)
                        obtain ⟨i066, hi066, _, hsz66, _⟩ := info_parts info26
                        have hroom66 : x6_1.length ≤ co64 := (Kd.N_reads' HO_6.out).2.1
                        have hC66 : Kd.F (Kd.slice 3 (Kd.int .i64)) _ _ Ao64 x6_1.length x6_1 := (Kd.V_at (base := w.heap.size) (Kd.N_V HO_6.out)).2.2
                        have hcut66 := cut_to (P := Try.prog) 22 26 .i64 Try.underlying22 hi066 Ao64 x6_1.length co64 (ji20) (of_decide_eq_true (by first | (with_reducible assumption) | assumption)) q66 hroom66
                        have hr66 := Kd.F_take (m := ((ji20) : Int).toNat) hC66 (by omega)
                        have hy66 : y399.length = ((ji20) : Int).toNat := (by rw [Ny399.out, List.length_take]; omega)
                        rw [← Ny399.out] at hr66
                        rw [← hy66] at hcut66
                        have HO403 := Aside0.mk (show Kd.V (Kd.slice 3 (Kd.int .i64)) 26 _ w.heap.size _ (.slice Ao64 y399.length co64) y399 from Kd.V_mk (by omega) hr66)
                        have HC403 := Aside0.mk (show y399.length ≤ co64 from by omega)
                        clear hr66 hC66 hroom66 hi066 hsz66
                        have KY66 := Aside0.mk hy66
                        clear hy66
                        replace q66 := eq_true q66
                        have q67 : ((ji24) : Int) ≤ ((x6_1.length : Int) : Int) := of_decide_eq_true (by first | (with_reducible assumption) | assumption)
                        obtain ⟨i067, hi067, _, hsz67, _⟩ := info_parts info26
                        have hroom67 : x6_1.length ≤ co64 := (Kd.N_reads' HO_6.out).2.1
                        have hC67 : Kd.F (Kd.slice 3 (Kd.int .i64)) _ _ Ao64 x6_1.length x6_1 := (Kd.V_at (base := w.heap.size) (Kd.N_V HO_6.out)).2.2
                        have q067 : (0 : Int) ≤ ((ji24) : Int) := of_decide_eq_true (by first | (with_reducible assumption) | assumption)
                        have hcut67 := cut_from (P := Try.prog) 22 26 .i64 Try.underlying22 hi067 1 hsz67 Ao64 x6_1.length co64 (ji24) q067 q67
                        have hr67 := Kd.F_cut (m := ((ji24) : Int).toNat) (c := co64) hC67 (by omega) hroom67
                        obtain ⟨A67, hA67⟩ : ∃ A1, A1 = (if co64 = ((ji24) : Int).toNat then Ao64 else (Ao64 : Option Addr).map (·.add (((ji24) : Int).toNat * 1))) := ⟨_, rfl⟩
                        obtain ⟨c67, hc67⟩ : ∃ c1, c1 = co64 - ((ji24) : Int).toNat := ⟨_, rfl⟩
                        have hy67 : y407.length = x6_1.length - ((ji24) : Int).toNat := (by rw [Ny407.out, List.length_drop] <;> omega)
                        rw [show (x6_1).drop ((ji24) : Int).toNat = y407 from Ny407.out.symm] at hr67
                        replace hr67 : Kd.F (Kd.slice 3 (Kd.int .i64)) _ _ A67 y407.length y407 := (by rw [hA67]; exact hr67)
                        rw [← hy67, ← hA67, ← hc67] at hcut67
                        have HO411 := Aside0.mk (show Kd.V (Kd.slice 3 (Kd.int .i64)) 26 _ w.heap.size _ (.slice A67 y407.length c67) y407 from Kd.V_mk (by rw [hy67, hc67]; exact Nat.sub_le_sub_right hroom67 _) hr67)
                        have HC411 := Aside0.mk (show y407.length ≤ c67 from by rw [hy67, hc67]; exact Nat.sub_le_sub_right hroom67 _)
                        clear hr67 hC67 hroom67 hi067 hsz67 hc67
                        have KY67 := Aside0.mk hy67
                        have KA67 := Aside0.mk hA67
                        clear hy67 hA67
                        replace q67 := eq_true q67
                        refine start_ (n := 11) (S := fun w' => True) (ds := []) #[false, false, false, false, false, false, false, false, false, false, false] (by kernel_rfl) rfl rfl trivial (fun hHeld => ?_); refine with_tabW ashlarlaw10_TraceChain.tab9 ashlarlaw10_TraceChain.bits9 (fun HT_ HW_ => ?_)
                        generalize wr.drew = w65 at HO_6 HB HO403 HO411 hHeld ⊢
                        refine pure_ (i := 1) (N := some 40) (v := ?_) (a' := ?_) #[false, true, false, false, false, false, false, false, false, false, false] rfl rfl (any_of HT_.out (by kernel_rfl)) (fun _ _ _ h => h) (Or.inl ⟨by rfl, ?_⟩) ?_ ?_
                        rotate_left
                        · intro w'
                          go_simp
                          with_reducible rfl
                        rotate_left
                        · simp only [Act.put, List.setIfInBounds_toArray, List.set_cons_zero, List.set_cons_succ, i64_w, i32_w]
                          rfl
                        refine pure_ (i := 2) (N := some 41) (v := ?_) (a' := ?_) #[false, true, true, false, false, false, false, false, false, false, false] rfl rfl (any_of HT_.out (by kernel_rfl)) (fun _ _ _ h => h) (Or.inl ⟨by rfl, ?_⟩) ?_ ?_
                        rotate_left
                        · intro w'
                          go_simp
                          with_reducible rfl
                        rotate_left
                        · simp only [Act.put, List.setIfInBounds_toArray, List.set_cons_zero, List.set_cons_succ, i64_w, i32_w]
                          rfl
                        refine pure_ (i := 3) (N := some 42) (v := ?_) (a' := ?_) #[false, true, true, true, false, false, false, false, false, false, false] rfl rfl (any_of HT_.out (by kernel_rfl)) (fun _ _ _ h => h) (Or.inl ⟨by rfl, ?_⟩) ?_ ?_
                        rotate_left
                        · intro w'
                          go_simp
                          with_reducible rfl
                        rotate_left
                        · simp only [Act.put, List.setIfInBounds_toArray, List.set_cons_zero, List.set_cons_succ, i64_w, i32_w]
                          rfl
                        refine pure_ (i := 5) (N := some 44) (v := ?_) (a' := ?_) #[false, true, true, true, false, true, false, false, false, false, false] rfl rfl (any_of HT_.out (by kernel_rfl)) (fun _ _ _ h => h) (Or.inl ⟨by rfl, ?_⟩) ?_ ?_
                        rotate_left
                        · intro w'
                          go_simp
                          with_reducible rfl
                        rotate_left
                        · simp only [Act.put, List.setIfInBounds_toArray, List.set_cons_zero, List.set_cons_succ, i64_w, i32_w]
                          rfl
                        refine pure_ (i := 6) (N := some 45) (v := ?_) (a' := ?_) #[false, true, true, true, false, true, true, false, false, false, false] rfl rfl (any_of HT_.out (by kernel_rfl)) (fun _ _ _ h => h) (Or.inl ⟨by rfl, ?_⟩) ?_ ?_
                        rotate_left
                        · intro w'
                          go_simp
                          with_reducible rfl
                        rotate_left
                        · simp only [Act.put, List.setIfInBounds_toArray, List.set_cons_zero, List.set_cons_succ, i64_w, i32_w]
                          rfl
                        refine pure_ (i := 7) (N := some 46) (v := ?_) (a' := ?_) #[false, true, true, true, false, true, true, true, false, false, false] rfl rfl (any_of HT_.out (by kernel_rfl)) (fun _ _ _ h => h) (Or.inl ⟨by rfl, ?_⟩) ?_ ?_
                        rotate_left
                        · intro w'
                          go_simp
                          with_reducible rfl
                        rotate_left
                        · simp only [Act.put, List.setIfInBounds_toArray, List.set_cons_zero, List.set_cons_succ, i64_w, i32_w]
                          rfl
                        refine pure_ (i := 8) (N := some 47) (v := ?_) (a' := ?_) #[false, true, true, true, false, true, true, true, true, false, false] rfl rfl (any_of HT_.out (by kernel_rfl)) (fun _ _ _ h => h) (Or.inl ⟨by rfl, ?_⟩) ?_ ?_
                        rotate_left
                        · intro w'
                          go_simp
                          with_reducible rfl
                        rotate_left
                        · simp only [Act.put, List.setIfInBounds_toArray, List.set_cons_zero, List.set_cons_succ, i64_w, i32_w]
                          rfl
                        refine one_ (i := 0) (N := some 39) #[true, true, true, true, false, true, true, true, true, false, false] rfl rfl (one_of HT_.out (by kernel_rfl)) (by decide) (fun K hK => ?_)
                        refine Kd.N_lit_step (Kd.slice 3 (Kd.int .i64)) _ 26 ?hg (N' := 39) ?hd (xs := ([] : List (List Int))) (inner := []) (ok := (fun k_ => some k_ ≠ (.slice Ao64 x6_1.length co64 : Value).ownBlock)) (okp := (fun k_ => some k_ ≠ (.slice Ao64 x6_1.length co64 : Value).ownBlock)) ?hr ?hp (fun _ hk => hk) ((show ∀ k_, w65.heap.size ≤ k_ → (fun k_ => some k_ ≠ (.slice Ao64 x6_1.length co64 : Value).ownBlock) k_ from fun k_ hk => Kd.fresh' (Kd.N_lt (by (with_reducible repeat (first | apply Kd.N_alloc | apply Kd.N_drewN | apply Kd.N_drew)); exact HO_6.out)) k_ hk) _ (Nat.le_refl _)) (Below.refl _ _) (Nat.le_refl _) (by simp) ?_; (case hd => rfl); (case hg => rfl); (case hr => first | (go_simp; done) | (go_simp; rfl)); (case hp => exact (Reps.none _ _))
                        intro v397 w68 ho69 hb hg_ hnew_
                        clear hg_ hnew_
                        (first | rw [← Ny396.out] at ho69 | (simp only [Int.reduceToNat] at ho69; rw [← Ny396.out] at ho69))
                        have n0_ := Aside0.mk (Kd.N_elder' (by (with_reducible repeat (first | apply Kd.N_alloc | apply Kd.N_drewN | apply Kd.N_drew)); exact HO_6.out) (Kd.N_base ho69) hb)
                        have n1_ := Aside0.mk (Kd.V_elder' (by (with_reducible repeat (first | apply Kd.V_alloc | apply Kd.V_drewN | apply Kd.V_drew)); exact HO403.out) (Kd.N_base ho69) hb)
                        have n2_ := Aside0.mk (Kd.V_elder' (by (with_reducible repeat (first | apply Kd.V_alloc | apply Kd.V_drewN | apply Kd.V_drew)); exact HO411.out) (Kd.N_base ho69) hb)
                        have n3_ := Aside0.mk (Kd.N_lower ho69 (below_size (by repeat (first | (with_reducible first | exact HB.out | apply below_alloc | apply pw_below_drewN | apply below_drew1) | exact HB.out))))
                        have n4_ := Aside0.mk (below_step (by repeat (first | (with_reducible first | exact HB.out | apply below_alloc | apply pw_below_drewN | apply below_drew1) | exact HB.out)) hb)
                        clear HO_6
                        clear HO403
                        clear HO411
                        clear HB
                        have HO_6 := n0_
                        have HO403 := n1_
                        have HO411 := n2_
                        have HO398 := n3_
                        have HB := n4_
                        clear n0_ n1_ n2_ n3_ n4_
                        clear hb ho69
                        refine hK.out _ _ trivial (fun hHeld => ?_)
                        clear hK K
                        refine norm_ (a' := ?_) ?_ ?_
                        rotate_left
                        · show Act.put _ (some 39) _ = _
                          simp only [Act.put, List.setIfInBounds_toArray, List.set_cons_zero, List.set_cons_succ, i64_w, i32_w]
                          rfl
                        refine one_ (i := 4) (N := some 43) #[true, true, true, true, true, true, true, true, true, false, false] rfl rfl (one_of HT_.out (by kernel_rfl)) (by decide) (fun K hK => ?_)
                        refine Kd.N_append_rows_step (Kd.slice 3 (Kd.int .i64)) (w0 := w) w.heap.size (by rfl) (.tmp 39) (.tmp 42) 22 26 (.slice none 0 0) 24 rfl Try.underlying22 info26 rfl (by decide) (by omega) v397 y396 y399 _ _ _ (fun _ => True) (fun k_ => ((fun _ => True)) k_ ∧ some k_ ≠ (v397 : Value).ownBlock) rfl rfl ?aO ?aR (fun _ hk => hk) ?aF ?aB ?aS ?aL ?_
                        (case aR => exact (by skip; exact Kd.V_F (Kd.V_mono (ok' := (fun k_ => ((fun _ => True)) k_ ∧ some k_ ≠ (v397 : Value).ownBlock)) (HO403.out) (fun k_ hk => ⟨trivial, hk.2⟩))))
                        (case aB => exact (by repeat (first | (with_reducible first | exact HB.out | apply below_alloc | apply pw_below_drewN | apply below_drew1) | exact HB.out)))
                        (case aF => exact (fun _ _ => trivial))
                        (case aO => exact (by (with_reducible repeat (first | apply Kd.N_alloc | apply Kd.N_drewN | apply Kd.N_drew)); exact Kd.N_mono HO398.out (fun _ hk => trivial)))
                        (case aS => exact (below_size (by repeat (first | (with_reducible first | exact HB.out | apply below_alloc | apply pw_below_drewN | apply below_drew1) | exact HB.out))))
                        (case aL => have := LMc23.out; omega)
                        intro v405 w70 ho hb hg hat
                        rw [← Ny404.out] at ho
                        have n0_ := Aside0.mk (Kd.N_afterv (ok := (fun _ => True)) (by (with_reducible repeat (first | apply Kd.N_alloc | apply Kd.N_drewN | apply Kd.N_drew)); exact HO_6.out) hg hat)
                        have n1_ := Aside0.mk (Kd.V_afterv (ok := (fun _ => True)) (by (with_reducible repeat (first | apply Kd.V_alloc | apply Kd.V_drewN | apply Kd.V_drew)); exact HO403.out) hg hat)
                        have n2_ := Aside0.mk (Kd.V_afterv (ok := (fun _ => True)) (by (with_reducible repeat (first | apply Kd.V_alloc | apply Kd.V_drewN | apply Kd.V_drew)); exact HO411.out) hg hat)
                        have n3_ := Aside0.mk (hb)
                        have n4_ := Aside0.mk (ho)
                        clear HO_6
                        clear HO403
                        clear HO411
                        clear HB
                        clear HO398
                        have HO_6 := n0_
                        have HO403 := n1_
                        have HO411 := n2_
                        have HB := n3_
                        have HO406 := n4_
                        clear n0_ n1_ n2_ n3_ n4_
                        clear ho hb hg hat
                        refine hK.out _ _ trivial (fun hHeld => ?_)
                        clear hK K
                        refine norm_ (a' := ?_) ?_ ?_
                        rotate_left
                        · show Act.put _ (some 43) _ = _
                          simp only [Act.put, List.setIfInBounds_toArray, List.set_cons_zero, List.set_cons_succ, i64_w, i32_w]
                          rfl
                        refine one_ (i := 9) (N := some 48) #[true, true, true, true, true, true, true, true, true, true, false] rfl rfl (one_of HT_.out (by kernel_rfl)) (by decide) (fun K hK => ?_)
                        refine Kd.N_append_rows_step (Kd.slice 3 (Kd.int .i64)) (w0 := w) w.heap.size (by rfl) (.tmp 43) (.tmp 47) 22 26 (.slice none 0 0) 24 rfl Try.underlying22 info26 rfl (by decide) (by omega) v405 y404 y407 _ _ _ (fun _ => True) (fun k_ => ((fun _ => True)) k_ ∧ some k_ ≠ (v405 : Value).ownBlock) rfl rfl ?aO ?aR (fun _ hk => hk) ?aF ?aB ?aS ?aL ?_
                        (case aR => exact (by skip; exact Kd.V_F (Kd.V_mono (ok' := (fun k_ => ((fun _ => True)) k_ ∧ some k_ ≠ (v405 : Value).ownBlock)) (HO411.out) (fun k_ hk => ⟨trivial, hk.2⟩))))
                        (case aB => exact (by repeat (first | (with_reducible first | exact HB.out | apply below_alloc | apply pw_below_drewN | apply below_drew1) | exact HB.out)))
                        (case aF => exact (fun _ _ => trivial))
                        (case aO => exact (by (with_reducible repeat (first | apply Kd.N_alloc | apply Kd.N_drewN | apply Kd.N_drew)); exact HO406.out))
                        (case aS => exact (below_size (by repeat (first | (with_reducible first | exact HB.out | apply below_alloc | apply pw_below_drewN | apply below_drew1) | exact HB.out))))
                        (case aL => have := LMc27.out; omega)
                        intro v413 w71 ho hb hg hat
                        rw [← Ny412.out] at ho
                        have n0_ := Aside0.mk (Kd.N_afterv (ok := (fun _ => True)) (by (with_reducible repeat (first | apply Kd.N_alloc | apply Kd.N_drewN | apply Kd.N_drew)); exact HO_6.out) hg hat)
                        have n1_ := Aside0.mk (Kd.V_afterv (ok := (fun _ => True)) (by (with_reducible repeat (first | apply Kd.V_alloc | apply Kd.V_drewN | apply Kd.V_drew)); exact HO403.out) hg hat)
                        have n2_ := Aside0.mk (Kd.V_afterv (ok := (fun _ => True)) (by (with_reducible repeat (first | apply Kd.V_alloc | apply Kd.V_drewN | apply Kd.V_drew)); exact HO411.out) hg hat)
                        have n3_ := Aside0.mk (hb)
                        have n4_ := Aside0.mk (ho)
                        clear HO_6
                        clear HO403
                        clear HO411
                        clear HB
                        clear HO406
                        have HO_6 := n0_
                        have HO403 := n1_
                        have HO411 := n2_
                        have HB := n3_
                        have HO414 := n4_
                        clear n0_ n1_ n2_ n3_ n4_
                        clear ho hb hg hat
                        refine hK.out _ _ trivial (fun hHeld => ?_)
                        clear hK K
                        refine norm_ (a' := ?_) ?_ ?_
                        rotate_left
                        · show Act.put _ (some 48) _ = _
                          simp only [Act.put, List.setIfInBounds_toArray, List.set_cons_zero, List.set_cons_succ, i64_w, i32_w]
                          rfl
                        refine pure_ (i := 10) (N := some 9) (v := ?_) (a' := ?_) #[true, true, true, true, true, true, true, true, true, true, true] rfl rfl (any_of HT_.out (by kernel_rfl)) (fun _ _ _ h => h) (Or.inl ⟨by rfl, ?_⟩) ?_ ?_
                        rotate_left
                        · intro w'
                          go_simp
                          with_reducible rfl
                        rotate_left
                        · simp only [Act.put, List.setIfInBounds_toArray, List.set_cons_zero, List.set_cons_succ, i64_w, i32_w]
                          rfl
                        refine done_ (done_of HT_.out (by kernel_rfl)) ?_
                        try go_wp2_with (first | ((with_reducible refine gate_dst (N := 49) rfl ?_); refine Kd.R_lit (Kd.int .i64) _ 3 ?hg (N := 49) ?hd (xs := ([] : List Int)) (inner := []) (ok := fun _ => True) (okp := fun _ => True) ?hr ?hp (fun _ hk => hk) trivial (Below.refl _ _) (Nat.le_refl _) (by simp) ?_; (case hd => rfl); (case hg => rfl); (case hr => first | (go_simp; done) | (go_simp; rfl)); (case hp => exact (Reps.none _ _)); intro v416 w72 ho73 hb hg_ hnew_; clear hg_ hnew_; (first | rw [← Ny415.out] at ho73 | (simp only [Int.reduceToNat] at ho73; rw [← Ny415.out] at ho73)); have n0_ := Aside0.mk (Kd.N_elder' (by (with_reducible repeat (first | apply Kd.N_alloc | apply Kd.N_drewN | apply Kd.N_drew)); exact HO_6.out) (Kd.R_base ho73) hb); have n1_ := Aside0.mk (Kd.V_elder' (by (with_reducible repeat (first | apply Kd.V_alloc | apply Kd.V_drewN | apply Kd.V_drew)); exact HO403.out) (Kd.R_base ho73) hb); have n2_ := Aside0.mk (Kd.V_elder' (by (with_reducible repeat (first | apply Kd.V_alloc | apply Kd.V_drewN | apply Kd.V_drew)); exact HO411.out) (Kd.R_base ho73) hb); have n3_ := Aside0.mk (Kd.N_elder' (by (with_reducible repeat (first | apply Kd.N_alloc | apply Kd.N_drewN | apply Kd.N_drew)); exact HO414.out) (Kd.R_base ho73) hb); have n4_ := Aside0.mk (Kd.R_lower ho73 (below_size (by repeat (first | (with_reducible first | exact HB.out | apply below_alloc | apply pw_below_drewN | apply below_drew1) | exact HB.out)))); have n5_ := Aside0.mk (below_step (by repeat (first | (with_reducible first | exact HB.out | apply below_alloc | apply pw_below_drewN | apply below_drew1) | exact HB.out)) hb); clear HO_6; clear HO403; clear HO411; clear HO414; clear HB; have HO_6 := n0_; have HO403 := n1_; have HO411 := n2_; have HO414 := n3_; have HO417 := n4_; have HB := n5_; clear n0_ n1_ n2_ n3_ n4_ n5_; clear hb ho73; obtain ⟨Ao74, co74, eo74⟩ := Kd.R_slice HO417.out; subst eo74) | ((with_reducible refine gate_dst (N := 50) rfl ?_); refine Kd.N_lit (Kd.slice 3 (Kd.int .i64)) _ 26 ?hg (N' := 50) ?hd (xs := ([y415] : List (List Int))) (inner := [.slice Ao74 y415.length co74]) (ok := (fun k_ => some k_ ≠ (.slice Ao64 x6_1.length co64 : Value).ownBlock ∧ some k_ ≠ (v413 : Value).ownBlock)) (okp := (fun k_ => some k_ ≠ (.slice Ao64 x6_1.length co64 : Value).ownBlock ∧ some k_ ≠ (v413 : Value).ownBlock)) ?hr ?hp (fun _ hk => hk) ((show ∀ k_, w72.heap.size ≤ k_ → (fun k_ => some k_ ≠ (.slice Ao64 x6_1.length co64 : Value).ownBlock ∧ some k_ ≠ (v413 : Value).ownBlock) k_ from fun k_ hk => ⟨Kd.fresh' (Kd.N_lt (by (with_reducible repeat (first | apply Kd.N_alloc | apply Kd.N_drewN | apply Kd.N_drew)); exact HO_6.out)) k_ hk, Kd.fresh' (Kd.N_lt (by (with_reducible repeat (first | apply Kd.N_alloc | apply Kd.N_drewN | apply Kd.N_drew)); exact HO414.out)) k_ hk⟩) _ (Nat.le_refl _)) (Below.refl _ _) (Nat.le_refl _) (by simp) ?_; (case hd => rfl); (case hg => rfl); (case hr => first | (go_simp; done) | (go_simp; rfl)); (case hp => exact (Reps.one (show Kd.FK (Kd.slice 3 (Kd.int .i64)) _ _ y415 [.slice Ao74 y415.length co74] from (Kd.FK_slice_mk (Kd.R_reads' (Kd.R_mono (ok' := (fun k_ => some k_ ≠ (.slice Ao64 x6_1.length co64 : Value).ownBlock ∧ some k_ ≠ (v413 : Value).ownBlock)) (Kd.R_apart' (Kd.R_apart' (HO417.out) (Kd.N_typed HO_6.out) (by decide)) (Kd.N_typed HO414.out) (by decide)) (fun k_ hk => ⟨hk.1.2, hk.2⟩))).2.1 (Kd.R_F (Kd.R_mono (ok' := (fun k_ => some k_ ≠ (.slice Ao64 x6_1.length co64 : Value).ownBlock ∧ some k_ ≠ (v413 : Value).ownBlock)) (Kd.R_apart' (Kd.R_apart' (HO417.out) (Kd.N_typed HO_6.out) (by decide)) (Kd.N_typed HO414.out) (by decide)) (fun k_ hk => ⟨hk.1.2, hk.2⟩))))) (Reps.none _ _))); intro v419 w75 ho76 hb hg_ hnew_; clear hg_ hnew_; (first | rw [← Ny418.out] at ho76 | (simp only [Int.reduceToNat] at ho76; rw [← Ny418.out] at ho76)); have n0_ := Aside0.mk (Kd.N_elder' (by (with_reducible repeat (first | apply Kd.N_alloc | apply Kd.N_drewN | apply Kd.N_drew)); exact HO_6.out) (Kd.N_base ho76) hb); have n1_ := Aside0.mk (Kd.V_elder' (by (with_reducible repeat (first | apply Kd.V_alloc | apply Kd.V_drewN | apply Kd.V_drew)); exact HO403.out) (Kd.N_base ho76) hb); have n2_ := Aside0.mk (Kd.V_elder' (by (with_reducible repeat (first | apply Kd.V_alloc | apply Kd.V_drewN | apply Kd.V_drew)); exact HO411.out) (Kd.N_base ho76) hb); have n3_ := Aside0.mk (Kd.N_elder' (by (with_reducible repeat (first | apply Kd.N_alloc | apply Kd.N_drewN | apply Kd.N_drew)); exact HO414.out) (Kd.N_base ho76) hb); have n4_ := Aside0.mk (Kd.N_lower ho76 (below_size (by repeat (first | (with_reducible first | exact HB.out | apply below_alloc | apply pw_below_drewN | apply below_drew1) | exact HB.out)))); have n5_ := Aside0.mk (below_step (by repeat (first | (with_reducible first | exact HB.out | apply below_alloc | apply pw_below_drewN | apply below_drew1) | exact HB.out)) hb); clear HO_6; clear HO403; clear HO411; clear HO414; clear HB; clear HO417; have HO_6 := n0_; have HO403 := n1_; have HO411 := n2_; have HO414 := n3_; have HO420 := n4_; have HB := n5_; clear n0_ n1_ n2_ n3_ n4_ n5_; clear hb ho76))
                        go_ret
                        exact ⟨by first | rfl | (simp [errW_none, errW_some] <;> rfl) | (simp only [← hji20, ← hji24]; first | rfl | (simp [errW_none, errW_some] <;> rfl)) | (simp [*, errW_none, errW_some] <;> rfl), by repeat (first | (with_reducible first | exact HB.out | apply below_alloc | apply pw_below_drewN | apply below_drew1) | exact HB.out)⟩
                    · rw [if_neg c27] at H
                      exact absurd H (by simp)
                  · rw [if_neg c26] at H
                    exact absurd H (by simp)
                · rw [if_neg c25] at H
                  exact absurd H (by simp)
              · rw [if_neg c23] at H
                exact absurd H (by simp)
            · rw [if_neg c22] at H
              exact absurd H (by simp)
          · rw [if_neg c21] at H
            exact absurd H (by simp)

/-- THE ONE PURE STATEMENT of ashlarlaw10_TraceChain: yours. -/
def ashlarlaw10_TraceChain.Pure : Prop := ∀ (a0 : Int) (a1 : Int), (Lit.int .i64 a0).wf = true → (Lit.int .i64 a1).wf = true → ∃ k, ashlarlaw10_TraceChain.f k a0 a1 = some true
theorem ashlarlaw10_TraceChain.walk (P : ashlarlaw10_TraceChain.Pure) (a0 : Int) (a1 : Int) (w : World) (w0 : (Lit.int .i64 a0).wf = true) (w1 : (Lit.int .i64 a1).wf = true) :
    Calls Try.prog 9 #[.int .i64 a0, .int .i64 a1] w fun e w' => e = .returned (.bool true) ∧ Below w.heap.size w w' := by
  obtain ⟨k, h⟩ := P a0 a1 w0 w1
  refine (ashlarlaw10_TraceChain.calls k a0 a1 true w h).mono ?_
  rintro e w' ⟨rfl, hd⟩
  exact ⟨rfl, hd⟩

end Go.Proofs.Ytbmnoofffodakaa.Q
