/- Texts of this seat, joined by a program of this session (wip/tools/pack.py). -/
import Derived.Test.YtmdjlhmifhnpdaaProg
import Derived.Below
import Derived.Deep.Draws
import Derived.Deep.AppendLies
import Derived.Maps.AppendAt
import Derived.OwnWalk
import Derived.Laws.BytesArg
import Derived.Laws.MakeOwn
import Derived.Laws.OwnMore
import Derived.Deep.OwnRows
import Derived.Tactics
import Derived.Lib.ConvBytes
import Derived.Laws.Slices
import Derived.WalkKit
import Derived.KernelRfl
import Derived.RowKit3
import Derived.Deep.LoopGhost
import Derived.Deep.QuietTactic
import Derived.BigQuiet
import Derived.WideLaws
import Derived.Deep.DeepCutAuto
import Derived.Deep.CutBlock
import Derived.Deep.RegionHeld3
import Derived.Laws.Rows
import Derived.Lib.AppendStr
import Derived.ArgAppend
import Derived.Laws.IdiomCopy
import Derived.OrdersHeld
import Derived.Laws.BitsLemmas
import Derived.RowKit
import Derived.ScopeJumps
import Derived.WalkMore
import Derived.Laws.CopyOwn
import Derived.Deep.Slices
import Derived.WalkSpells
import Derived.Outline
import Derived.Test.YtmdjlhmifhnpdaaZd
import Derived.Test.YtmdjlhmifhnpdaaZc
import Derived.Test.YtmdjlhmifhnpdaaZw
import Derived.Test.YtmdjlhmifhnpdaaZf
import Derived.Test.YtmdjlhmifhnpdaaZq1
import Derived.Test.YtmdjlhmifhnpdaaZq2
import Derived.Test.YtmdjlhmifhnpdaaZq3
namespace Go.Proofs.Ytmdjlhmifhnpdaa.Q
open Go.RowKit Go.Proofs.YtmdjlhmifhnpdaaW.PrintWords Go.Proofs.YtmdjlhmifhnpdaaW.PrintLast Go.Proofs.YtmdjlhmifhnpdaaW.PrintMore
attribute [local go_sem] max2_int min2_int max_two min_two max_three min_three max_four min_four   -- for this text's walks alone
set_option linter.unusedVariables false
set_option linter.unusedSimpArgs false

/-! ### ashlarlaw09_SatTurned: function 7 -/
mutual
def ashlarlaw09_SatTurned.l0 : Nat → List (List Int) → Int → Int → Bool → List (List Int) → Int → Option (Bool)
 | 0, _, _, _, _, _, _ => none
 | k + 1, x0, x1, x2, x7, x9, x10 => if x10 < (x9.length : Int) then (ashlarlaw09_SatTurned.l1 k x0 x1 x2 x7 x9 x10 0) else ((sat_Solve.f k x0 x1 243).bind fun bt281 => ((sat_Solve.f k x9 x1 243).bind fun bt288 => (if x7 = true then (if bt281.1 = bt288.1 then ((ashlarref09_Good.f k x9 x1 bt288.1 bt288.2.1 bt288.2.2).bind fun t295 => (some t295)) else (some false)) else (some false))))
def ashlarlaw09_SatTurned.l1 : Nat → List (List Int) → Int → Int → Bool → List (List Int) → Int → Int → Option (Bool)
 | 0, _, _, _, _, _, _, _ => none
 | k + 1, x0, x1, x2, x7, x9, x10, x11 => if 0 ≤ x10 then (if x10 < (x9.length : Int) then (if x11 < ((rd_L2 x9 x10).length : Int) then (if 0 ≤ x11 then (if (rd (rd_L2 x9 x10) x11) = x2 then (ashlarlaw09_SatTurned.l1 k x0 x1 x2 x7 (x9.set (x10 : Int).toNat ((rd_L2 x9 x10).set (x11 : Int).toNat (wrap64 (-(rd (rd_L2 x9 x10) x11))))) x10 (wrap64 (x11 + 1))) else (if (rd (rd_L2 x9 x10) x11) = (wrap64 (-x2)) then (ashlarlaw09_SatTurned.l1 k x0 x1 x2 x7 (x9.set (x10 : Int).toNat ((rd_L2 x9 x10).set (x11 : Int).toNat (wrap64 (-(rd (rd_L2 x9 x10) x11))))) x10 (wrap64 (x11 + 1))) else (ashlarlaw09_SatTurned.l1 k x0 x1 x2 x7 x9 x10 (wrap64 (x11 + 1))))) else (none)) else (ashlarlaw09_SatTurned.l0 k x0 x1 x2 x7 x9 (wrap64 (x10 + 1)))) else (none)) else (none)
end
def ashlarlaw09_SatTurned.g (k : Nat) (l0 : List (List Int)) (a1 : Int) (a2 : Int) : Option (Bool) := (ashlarlaw09_shown.f k).bind fun t276 => ((ashlarref09_Right.f k l0 (wrap64 (1 + (Int.tmod (Go.bits .and .i64 a1 65535) 5)))).bind fun t277 => (if t277 = true then (if (wrap64 (1 + (Int.tmod (Go.bits .and .i64 a1 65535) 5))) = 0 then (none) else ((ashlarlaw09_few.f k l0).bind fun t278 => (ashlarlaw09_SatTurned.l0 k l0 (wrap64 (1 + (Int.tmod (Go.bits .and .i64 a1 65535) 5))) (wrap64 (1 + (Int.tmod (Go.bits .and .i64 a2 65535) (wrap64 (1 + (Int.tmod (Go.bits .and .i64 a1 65535) 5)))))) t276 t278 0))) else (some t276)))
theorem ashlarlaw09_SatTurned.mono_l : ∀ k, (∀ y0 y1 y2 y3 y4 y5, LeO (ashlarlaw09_SatTurned.l0 k y0 y1 y2 y3 y4 y5) (ashlarlaw09_SatTurned.l0 (k + 1) y0 y1 y2 y3 y4 y5)) ∧ (∀ y0 y1 y2 y3 y4 y5 y6, LeO (ashlarlaw09_SatTurned.l1 k y0 y1 y2 y3 y4 y5 y6) (ashlarlaw09_SatTurned.l1 (k + 1) y0 y1 y2 y3 y4 y5 y6))
 | 0 => ⟨fun _ _ _ _ _ _ r h => by simp [ashlarlaw09_SatTurned.l0] at h, fun _ _ _ _ _ _ _ r h => by simp [ashlarlaw09_SatTurned.l1] at h⟩
 | k + 1 => by
  obtain ⟨ih0, ih1⟩ := ashlarlaw09_SatTurned.mono_l k
  refine ⟨?_, ?_⟩
  ·intro y0 y1 y2 y3 y4 y5
   unfold ashlarlaw09_SatTurned.l0
   repeat' first
   | (with_reducible exact ih0 _ _ _ _ _ _)
   | (with_reducible exact ih1 _ _ _ _ _ _ _)
   | (with_reducible exact ashlarlaw09_few.mono _ _)
   | (with_reducible exact ashlarlaw09_shown.mono _)
   | (with_reducible exact ashlarref09_Good.mono _ _ _ _ _ _)
   | (with_reducible exact ashlarref09_Right.mono _ _ _)
   | (with_reducible exact sat_Solve.mono _ _ _ _)
   | (with_reducible exact LeO.refl _)
   | (with_reducible exact LeO.none _)
   | (with_reducible refine LeO.ite ?_ ?_)
   | (with_reducible refine LeO.bind ?_ (fun _ => ?_))
   | exact ih0 _ _ _ _ _ _
   | exact ih1 _ _ _ _ _ _ _
   | exact ashlarlaw09_few.mono _ _
   | exact ashlarlaw09_shown.mono _
   | exact ashlarref09_Good.mono _ _ _ _ _ _
   | exact ashlarref09_Right.mono _ _ _
   | exact sat_Solve.mono _ _ _ _
   | exact LeO.none _
   | refine LeO.ite ?_ ?_
   | refine LeO.bind ?_ (fun _ => ?_)
  ·intro y0 y1 y2 y3 y4 y5 y6
   unfold ashlarlaw09_SatTurned.l1
   repeat' first
   | (with_reducible exact ih0 _ _ _ _ _ _)
   | (with_reducible exact ih1 _ _ _ _ _ _ _)
   | (with_reducible exact ashlarlaw09_few.mono _ _)
   | (with_reducible exact ashlarlaw09_shown.mono _)
   | (with_reducible exact ashlarref09_Good.mono _ _ _ _ _ _)
   | (with_reducible exact ashlarref09_Right.mono _ _ _)
   | (with_reducible exact sat_Solve.mono _ _ _ _)
   | (with_reducible exact LeO.refl _)
   | (with_reducible exact LeO.none _)
   | (with_reducible refine LeO.ite ?_ ?_)
   | (with_reducible refine LeO.bind ?_ (fun _ => ?_))
   | exact ih0 _ _ _ _ _ _
   | exact ih1 _ _ _ _ _ _ _
   | exact ashlarlaw09_few.mono _ _
   | exact ashlarlaw09_shown.mono _
   | exact ashlarref09_Good.mono _ _ _ _ _ _
   | exact ashlarref09_Right.mono _ _ _
   | exact sat_Solve.mono _ _ _ _
   | exact LeO.none _
   | refine LeO.ite ?_ ?_
   | refine LeO.bind ?_ (fun _ => ?_)
theorem ashlarlaw09_SatTurned.mono_g : ∀ a0 a1 a2 k, LeO (ashlarlaw09_SatTurned.g k a0 a1 a2) (ashlarlaw09_SatTurned.g (k + 1) a0 a1 a2) := by
 intro a0 a1 a2 k
 obtain ⟨ih0, ih1⟩ := ashlarlaw09_SatTurned.mono_l k
 unfold ashlarlaw09_SatTurned.g
 repeat' first
   | (with_reducible exact ih0 _ _ _ _ _ _)
   | (with_reducible exact ih1 _ _ _ _ _ _ _)
   | (with_reducible exact ashlarlaw09_few.mono _ _)
   | (with_reducible exact ashlarlaw09_shown.mono _)
   | (with_reducible exact ashlarref09_Good.mono _ _ _ _ _ _)
   | (with_reducible exact ashlarref09_Right.mono _ _ _)
   | (with_reducible exact sat_Solve.mono _ _ _ _)
   | (with_reducible exact LeO.refl _)
   | (with_reducible exact LeO.none _)
   | (with_reducible refine LeO.ite ?_ ?_)
   | (with_reducible refine LeO.bind ?_ (fun _ => ?_))
   | exact ih0 _ _ _ _ _ _
   | exact ih1 _ _ _ _ _ _ _
   | exact ashlarlaw09_few.mono _ _
   | exact ashlarlaw09_shown.mono _
   | exact ashlarref09_Good.mono _ _ _ _ _ _
   | exact ashlarref09_Right.mono _ _ _
   | exact sat_Solve.mono _ _ _ _
   | exact LeO.none _
   | refine LeO.ite ?_ ?_
   | refine LeO.bind ?_ (fun _ => ?_)
def ashlarlaw09_SatTurned.T16 : Bool × List (List Nat × List Nat) := (true, [([], []), ([], []), ([0, 1], [0, 1]), ([2], [2]), ([], []), ([], []), ([], []), ([5, 6], [5, 6]), ([7], [7]), ([], []), ([8, 9], [8, 9]), ([10], [10]), ([11], [11]), ([3, 4, 0, 1, 2, 3, 4, 5, 6, 7, 8, 9, 10, 11, 12], [3, 4]), ([13, 12, 0, 1, 2, 3, 4, 5, 6, 7, 8, 9, 10, 11, 12], [12, 13])])
def ashlarlaw09_SatTurned.B16 : List Nat := [0, 0, 3, 7, 0, 0, 0, 96, 224, 0, 992, 2016, 4064, 8191, 16383]
theorem ashlarlaw09_SatTurned.tab16 : rtab .any (opsOf Try.f7 16) = ashlarlaw09_SatTurned.T16 := by kernel_rfl
theorem ashlarlaw09_SatTurned.bits16 : waitsOk ashlarlaw09_SatTurned.T16.2 ashlarlaw09_SatTurned.B16 = true := by kernel_rfl
def ashlarlaw09_SatTurned.f (k : Nat) (lA : List (List Int)) (a1 : Int) (a2 : Int) : Option (Bool) := (ashlarlaw09_few.f k lA).bind fun l0 => ashlarlaw09_SatTurned.g k l0 a1 a2
theorem ashlarlaw09_SatTurned.mono : ∀ a0 a1 a2 k, LeO (ashlarlaw09_SatTurned.f k a0 a1 a2) (ashlarlaw09_SatTurned.f (k + 1) a0 a1 a2) := fun a0 a1 a2 k => LeO.bind (ashlarlaw09_few.mono a0 k) (fun x => ashlarlaw09_SatTurned.mono_g x a1 a2 k)
set_option maxHeartbeats 8000000 in
set_option maxRecDepth 100000 in
theorem ashlarlaw09_SatTurned.calls (k : Nat) (AA : Option Addr) (cA : Nat) (lA : List (List Int)) (a1 : Int) (a2 : Int) (r : Bool) (wA : World) (hr0 : Kd.C (Kd.slice 3 (Kd.int .i64)) wA AA lA.length lA) (hc0 : lA.length ≤ cA) (h0 : ashlarlaw09_SatTurned.f k lA a1 a2 = some r) :
  Calls Try.prog 7 #[.slice AA lA.length cA, .int .i64 a1, .int .i64 a2] wA fun e w' => e = .returned (.bool r) ∧ Below wA.heap.size wA w' := by
 have HRA := Aside0.mk hr0
 have HCA := Aside0.mk hc0
 clear hr0 hc0
 have HBA := Aside0.mk (Below.refl wA.heap.size wA)
 obtain ⟨l0, hf0, h⟩ := Option.bind_eq_some_iff.mp h0
 have AF := Aside0.mk hf0
 clear hf0 h0
 unfold ashlarlaw09_SatTurned.g at h
 have H : ((ashlarlaw09_shown.f k).bind fun t276 => ((ashlarref09_Right.f k l0 (wrap64 (1 + (Int.tmod (Go.bits .and .i64 a1 65535) 5)))).bind fun t277 => (if t277 = true then (if (wrap64 (1 + (Int.tmod (Go.bits .and .i64 a1 65535) 5))) = 0 then (none) else ((ashlarlaw09_few.f k l0).bind fun t278 => (ashlarlaw09_SatTurned.l0 k l0 (wrap64 (1 + (Int.tmod (Go.bits .and .i64 a1 65535) 5))) (wrap64 (1 + (Int.tmod (Go.bits .and .i64 a2 65535) (wrap64 (1 + (Int.tmod (Go.bits .and .i64 a1 65535) 5)))))) t276 t278 0))) else (some t276)))) = some r := h
 clear h
 replace H := Option.bind_eq_some_iff.mp H
 obtain ⟨t276, A40, H⟩ := H
 replace H : ((ashlarref09_Right.f k l0 (wrap64 (1 + (Int.tmod (Go.bits .and .i64 a1 65535) 5)))).bind fun t277 => (if t277 = true then (if (wrap64 (1 + (Int.tmod (Go.bits .and .i64 a1 65535) 5))) = 0 then (none) else ((ashlarlaw09_few.f k l0).bind fun t278 => (ashlarlaw09_SatTurned.l0 k l0 (wrap64 (1 + (Int.tmod (Go.bits .and .i64 a1 65535) 5))) (wrap64 (1 + (Int.tmod (Go.bits .and .i64 a2 65535) (wrap64 (1 + (Int.tmod (Go.bits .and .i64 a1 65535) 5)))))) t276 t278 0))) else (some t276))) = some r := H
 have A4 := Aside0.mk A40
 clear A40
 replace H := Option.bind_eq_some_iff.mp H
 obtain ⟨t277, A50, H⟩ := H
 replace H : (if t277 = true then (if (wrap64 (1 + (Int.tmod (Go.bits .and .i64 a1 65535) 5))) = 0 then (none) else ((ashlarlaw09_few.f k l0).bind fun t278 => (ashlarlaw09_SatTurned.l0 k l0 (wrap64 (1 + (Int.tmod (Go.bits .and .i64 a1 65535) 5))) (wrap64 (1 + (Int.tmod (Go.bits .and .i64 a2 65535) (wrap64 (1 + (Int.tmod (Go.bits .and .i64 a1 65535) 5)))))) t276 t278 0))) else (some t276)) = some r := H
 have A5 := Aside0.mk A50
 clear A50
 by_cases c6 : t277 = true
 ·subst c6
  have H1 : (if (wrap64 (1 + (Int.tmod (Go.bits .and .i64 a1 65535) 5))) = 0 then (none) else ((ashlarlaw09_few.f k l0).bind fun t278 => (ashlarlaw09_SatTurned.l0 k l0 (wrap64 (1 + (Int.tmod (Go.bits .and .i64 a1 65535) 5))) (wrap64 (1 + (Int.tmod (Go.bits .and .i64 a2 65535) (wrap64 (1 + (Int.tmod (Go.bits .and .i64 a1 65535) 5)))))) t276 t278 0))) = some r := by rw [if_pos rfl] at H; exact H
  clear H
  have H := H1
  clear H1
  by_cases c7 : (wrap64 (1 + (Int.tmod (Go.bits .and .i64 a1 65535) 5))) = 0
  ·rw [if_pos c7] at H
   exact absurd H (by simp)
  ·rw [if_neg c7] at H
   have c7b0 : ((wrap64 (1 + (Int.tmod (Go.bits .and .i64 a1 65535) 5))) == 0) = false := beq_eq_false_iff_ne.mpr c7
   have c7b1 : ((wrap64 (1 + (Int.tmod (Go.bits .and .i64 a1 65535) 5))) != 0) = true := bne_iff_ne.mpr c7
   replace H := Option.bind_eq_some_iff.mp H
   obtain ⟨t278, A80, H⟩ := H
   replace H : (ashlarlaw09_SatTurned.l0 k l0 (wrap64 (1 + (Int.tmod (Go.bits .and .i64 a1 65535) 5))) (wrap64 (1 + (Int.tmod (Go.bits .and .i64 a2 65535) (wrap64 (1 + (Int.tmod (Go.bits .and .i64 a1 65535) 5)))))) t276 t278 0) = some r := H
   have A8 := Aside0.mk A80
   clear A80
   have H' := Aside0.mk H
   clear H
   go_enter Try.func7, Try.ntmps7
   go_wp2_with (first | ((with_reducible refine gate_callee (f := 12) rfl ?_); refine goesL_ (some 18) rfl rfl Try.func12 (by kernel_rfl) rfl #[] rfl (by (try simp only [List.map_toArray, List.map_cons, List.map_nil]); first | done | rfl | (simp only [List.length_drop, List.length_take]; rfl)) ?_; (with_reducible refine (ashlarlaw09_shown.calls k  t276 _ A4.out).mono ?_); rintro e w9 ⟨rfl, hb⟩; refine ⟨_, rfl, ?_⟩; have n0_ := Aside0.mk (below_step (by repeat (first | (with_reducible first | exact HBA.out | apply below_alloc | apply pw_below_drewN | apply below_drew1) | exact HBA.out)) hb); clear HBA; have HBA := n0_; clear n0_; (try clear hb); (try clear hb2); (try clear hk); (try clear hi)) | ((with_reducible refine gate_callee (f := 13) rfl ?_); refine goesL_ (some 20) rfl rfl Try.func13 (by kernel_rfl) rfl #[.slice AA lA.length cA] rfl (by (try simp only [List.map_toArray, List.map_cons, List.map_nil]); first | done | rfl | (simp only [List.length_drop, List.length_take]; rfl)) ?_; (with_reducible refine (ashlarlaw09_few.calls k _ _ lA l0 _ ?side1 ?side2 AF.out).mono ?_); (case side1 => repeat (first | exact (Kd.C_below HRA.out HBA.out) | (with_reducible refine Kd.C_alloc ?_ _) | (with_reducible refine Kd.C_drewN ?_ _) | (with_reducible refine Kd.C_drew ?_))); (case side2 => exact HCA.out); rintro e w ⟨vA, rfl, ho0, hb⟩; clear AF HRA HCA; obtain ⟨A0, c0, eA⟩ := Kd.S_slice ho0; subst eA; refine ⟨_, rfl, ?_⟩; have n0_ := Aside0.mk (below_step (by repeat (first | (with_reducible first | exact HBA.out | apply below_alloc | apply pw_below_drewN | apply below_drew1) | exact HBA.out)) hb); clear HBA; have HBA := n0_; clear n0_; have HR0 := Aside0.mk (Kd.S_reads' ho0).2.2; have HC0 := Aside0.mk (Kd.S_reads' ho0).2.1; have HB := Aside0.mk (Below.refl w.heap.size w); clear ho0 hb) | ((with_reducible refine gate_callee (f := 16) rfl ?_); refine goesL_ (some 27) rfl rfl Try.func16 (by kernel_rfl) rfl #[.slice A0 l0.length c0, .int .i64 (wrap64 (1 + (Int.tmod (Go.bits .and .i64 a1 65535) 5)))] rfl (by (try simp only [List.map_toArray, List.map_cons, List.map_nil]); first | done | rfl | (simp only [List.length_drop, List.length_take]; rfl)) ?_; (with_reducible refine (ashlarref09_Right.calls k _ _ l0 (wrap64 (1 + (Int.tmod (Go.bits .and .i64 a1 65535) 5))) true _ ?side1 ?side2 A5.out).mono ?_); (case side1 => repeat (first | exact (Kd.C_below HR0.out HB.out) | (with_reducible refine Kd.C_alloc ?_ _) | (with_reducible refine Kd.C_drewN ?_ _) | (with_reducible refine Kd.C_drew ?_))); (case side2 => exact HC0.out); rintro e w' ⟨rfl, ⟨nd, rfl⟩⟩; refine ⟨_, rfl, ?_⟩) | ((with_reducible refine gate_callee (f := 13) rfl ?_); refine goesL_ (some 37) rfl rfl Try.func13 (by kernel_rfl) rfl #[.slice A0 l0.length c0] rfl (by (try simp only [List.map_toArray, List.map_cons, List.map_nil]); first | done | rfl | (simp only [List.length_drop, List.length_take]; rfl)) ?_; (with_reducible refine (ashlarlaw09_few.calls k _ _ l0 t278 _ ?side1 ?side2 A8.out).mono ?_); (case side1 => repeat (first | exact (Kd.C_below HR0.out (by repeat (first | (with_reducible first | exact HB.out | apply below_alloc | apply pw_below_drewN | apply below_drew1) | exact HB.out))) | (with_reducible refine Kd.C_alloc ?_ _) | (with_reducible refine Kd.C_drewN ?_ _) | (with_reducible refine Kd.C_drew ?_))); (case side2 => exact HC0.out); rintro e w10 ⟨v279, rfl, ho0, hb⟩; refine ⟨_, rfl, ?_⟩; have n0_ := Aside0.mk (Kd.S_lower ho0 (below_size (by repeat (first | (with_reducible first | exact HB.out | apply below_alloc | apply pw_below_drewN | apply below_drew1) | exact HB.out)))); have n1_ := Aside0.mk (below_step (by repeat (first | (with_reducible first | exact HB.out | apply below_alloc | apply pw_below_drewN | apply below_drew1) | exact HB.out)) hb); clear HB; have HO280 := n0_; have HB := n1_; clear n0_ n1_; (try clear hb); (try clear hb2); (try clear hk); (try clear hi); (try clear ho0)))
   go_loopg [10] k (fun kq v10 w' => ∃ (x9_1 : List (List Int)) (x10_1 : Int), v10 = .int .i64 x10_1 ∧ Aside0 (ashlarlaw09_SatTurned.l0 kq l0 (wrap64 (1 + (Int.tmod (Go.bits .and .i64 a1 65535) 5))) (wrap64 (1 + (Int.tmod (Go.bits .and .i64 a2 65535) (wrap64 (1 + (Int.tmod (Go.bits .and .i64 a1 65535) 5)))))) t276 x9_1 x10_1 = some r) ∧ Aside0 (kq ≤ k) ∧ Aside0 (Kd.S (Kd.slice 3 (Kd.int .i64)) 32 w' w.heap.size (fun _ => True) v279 x9_1) ∧ Aside0 (Below w.heap.size w w'))
   case atStart => exact ⟨(t278), (0), (by first | rfl | (simp; done) | (simp [*]; done)), H', ⟨Nat.le_refl _⟩, ⟨by (with_reducible repeat (first | apply Kd.S_alloc | apply Kd.S_drewN | apply Kd.S_drew)); exact HO280.out⟩, ⟨by repeat (first | (with_reducible first | exact HB.out | apply below_alloc | apply pw_below_drewN | apply below_drew1) | exact HB.out)⟩⟩
   case round =>
    clear H'
    try clear c1
    try clear p2
    try clear c6
    try clear p6
    try clear c7
    try clear c7b0
    try clear c7b1
    obtain ⟨x9_1, x10_1, rfl, HA, HK1, HO_9, HB⟩ := hrel
    cases gk with
    | zero => exact absurd HA.out (by simp [ashlarlaw09_SatTurned.l0])
    | succ k1 =>
     have H := HA.out
     clear HA
     simp only [ashlarlaw09_SatTurned.l0] at H
     by_cases c11 : x10_1 < (x9_1.length : Int)
     ·rw [if_pos c11] at H
      have c11b0 : decide (x10_1 < (x9_1.length : Int)) = true := decide_eq_true c11
      clear c11
      have H' := Aside0.mk H
      clear H
      obtain ⟨Ao12, co12, eo12⟩ := Kd.S_slice HO_9.out
      subst eo12
      go_wp2
      go_loopg [11] k1 (fun kq v11 w' => ∃ (x9_2 : List (List Int)) (x11_2 : Int), v11 = .int .i64 x11_2 ∧ Aside0 (ashlarlaw09_SatTurned.l1 kq l0 (wrap64 (1 + (Int.tmod (Go.bits .and .i64 a1 65535) 5))) (wrap64 (1 + (Int.tmod (Go.bits .and .i64 a2 65535) (wrap64 (1 + (Int.tmod (Go.bits .and .i64 a1 65535) 5)))))) t276 x9_2 x10_1 x11_2 = some r) ∧ Aside0 (kq ≤ k1) ∧ Aside0 (Kd.S (Kd.slice 3 (Kd.int .i64)) 32 w' w.heap.size (fun _ => True) (.slice Ao12 x9_1.length co12) x9_2) ∧ Aside0 (Below w.heap.size w w'))
      case atStart => exact ⟨(x9_1), (0), (by first | rfl | (simp; done) | (simp [*]; done)), H', ⟨Nat.le_refl _⟩, ⟨by (with_reducible repeat (first | apply Kd.S_alloc | apply Kd.S_drewN | apply Kd.S_drew)); exact HO_9.out⟩, ⟨by repeat (first | (with_reducible first | exact HB.out | apply below_alloc | apply pw_below_drewN | apply below_drew1) | exact HB.out)⟩⟩
      case round =>
       clear H'
       try clear c1
       try clear p2
       try clear c6
       try clear p6
       try clear c7
       try clear c7b0
       try clear c7b1
       try clear c11
       try clear c11b0
       try clear c12
       try clear p2
       try clear p6
       obtain ⟨x9_2, x11_2, rfl, HA, HK2, HO_9, HB⟩ := hrel
       have hl9_2 := (Kd.S_reads' HO_9.out).1
       rw [hl9_2] at HO_9
       (try simp only [hl9_2])
       cases gk with
       | zero => exact absurd HA.out (by simp [ashlarlaw09_SatTurned.l1])
       | succ k2 =>
        have H := HA.out
        clear HA
        simp only [ashlarlaw09_SatTurned.l1] at H
        by_cases c13 : 0 ≤ x10_1
        ·rw [if_pos c13] at H
         have c13b0 : decide (0 ≤ x10_1) = true := decide_eq_true c13
         clear c13
         by_cases c14 : x10_1 < (x9_2.length : Int)
         ·rw [if_pos c14] at H
          have c14b0 : decide (x10_1 < (x9_2.length : Int)) = true := decide_eq_true c14
          clear c14
          by_cases c15 : x11_2 < ((rd_L2 x9_2 x10_1).length : Int)
          ·rw [if_pos c15] at H
           have c15b0 : decide (x11_2 < ((rd_L2 x9_2 x10_1).length : Int)) = true := decide_eq_true c15
           clear c15
           by_cases c16 : 0 ≤ x11_2
           ·rw [if_pos c16] at H
            have c16b0 : decide (0 ≤ x11_2) = true := decide_eq_true c16
            clear c16
            by_cases c17 : (rd (rd_L2 x9_2 x10_1) x11_2) = (wrap64 (1 + (Int.tmod (Go.bits .and .i64 a2 65535) (wrap64 (1 + (Int.tmod (Go.bits .and .i64 a1 65535) 5))))))
            ·rw [if_pos c17] at H
             have c17b0 : ((rd (rd_L2 x9_2 x10_1) x11_2) == (wrap64 (1 + (Int.tmod (Go.bits .and .i64 a2 65535) (wrap64 (1 + (Int.tmod (Go.bits .and .i64 a1 65535) 5))))))) = true := beq_iff_eq.mpr c17
             have c17b1 : ((rd (rd_L2 x9_2 x10_1) x11_2) != (wrap64 (1 + (Int.tmod (Go.bits .and .i64 a2 65535) (wrap64 (1 + (Int.tmod (Go.bits .and .i64 a1 65535) 5))))))) = false := bne_eq_false_iff_eq.mpr c17
             clear c17
             obtain ⟨y302, hy302⟩ : ∃ y_ : List Int, y_ = ((rd_L2 x9_2 x10_1).set (x11_2 : Int).toNat (wrap64 (-(rd (rd_L2 x9_2 x10_1) x11_2)))) := ⟨_, rfl⟩
             replace H : (ashlarlaw09_SatTurned.l1 k2 l0 (wrap64 (1 + (Int.tmod (Go.bits .and .i64 a1 65535) 5))) (wrap64 (1 + (Int.tmod (Go.bits .and .i64 a2 65535) (wrap64 (1 + (Int.tmod (Go.bits .and .i64 a1 65535) 5)))))) t276 (x9_2.set (x10_1 : Int).toNat y302) x10_1 (wrap64 (x11_2 + 1))) = some r := by first | (rw [hy302]; with_reducible exact H) | (have H2_ := (Option.bind_some _ _).symm.trans H; rw [hy302]; with_reducible exact H2_) | (have H2_ := (Option.bind_some _ _).symm.trans H; with_reducible exact H2_) | with_reducible exact H | (rw [hy302]; exact H) | exact H
             have Ny302 := Aside0.mk hy302
             clear hy302
             obtain ⟨y304, hy304⟩ : ∃ y_ : List (List Int), y_ = (x9_2.set (x10_1 : Int).toNat y302) := ⟨_, rfl⟩
             replace H : (ashlarlaw09_SatTurned.l1 k2 l0 (wrap64 (1 + (Int.tmod (Go.bits .and .i64 a1 65535) 5))) (wrap64 (1 + (Int.tmod (Go.bits .and .i64 a2 65535) (wrap64 (1 + (Int.tmod (Go.bits .and .i64 a1 65535) 5)))))) t276 y304 x10_1 (wrap64 (x11_2 + 1))) = some r := by first | (rw [hy304]; with_reducible exact H) | (have H2_ := (Option.bind_some _ _).symm.trans H; rw [hy304]; with_reducible exact H2_) | (have H2_ := (Option.bind_some _ _).symm.trans H; with_reducible exact H2_) | with_reducible exact H | (rw [hy304]; exact H) | exact H
             have Ny304 := Aside0.mk hy304
             clear hy304
             have H' := Aside0.mk H
             clear H
             have p296 : 0 ≤ (x10_1 : Int) := of_decide_eq_true (by first | (with_reducible assumption) | assumption)
             have q296 : x10_1 < (x9_2.length : Int) := of_decide_eq_true (by first | (with_reducible assumption) | assumption)
             obtain ⟨ad296, A296_0, c296_0, e296, hx296_0, hl296_0, hi296_0⟩ := at_L2 (Kd.S_reads' HO_9.out).2.2 x10_1 p296 q296
             cases e296
             obtain ⟨ce296, hce296, hMe296, hcc296⟩ := Kd.S_get HO_9.out [] x10_1 p296 (by first | exact q296 | exact of_decide_eq_true (by first | (with_reducible assumption) | assumption) | (have e_ := (Kd.S_reads' HO_9.out).1; omega))
             obtain ⟨ve296_0, rfl, ge296_0⟩ := hMe296
             have hv296_0 := hcc296 0 _ rfl
             rw [Nat.add_zero, show ((Kd.slice 3 (Kd.int .i64))).sz = 1 from rfl, Nat.mul_one] at hv296_0
             replace hv296_0 := Option.some.inj (hv296_0.symm.trans hx296_0)
             rw [hv296_0] at ge296_0
             have HL296_0 := Aside0.mk (show Kd.R (Kd.int .i64) 3 _ _ _ _ (rd_L2 x9_2 x10_1) from ge296_0)
             clear hv296_0 ge296_0
             have HX296_0 := Aside0.mk hx296_0
             clear hcc296 hce296
             have HR296_0 := Aside0.mk hi296_0
             have HC296_0 := Aside0.mk hl296_0
             clear hi296_0 hl296_0
             replace p296 := eq_true p296
             replace q296 := eq_true q296
             have p297 : 0 ≤ (x10_1 : Int) := of_decide_eq_true (by first | (with_reducible assumption) | assumption)
             have q297 : x10_1 < (x9_2.length : Int) := of_decide_eq_true (by first | (with_reducible assumption) | assumption)
             obtain ⟨ad297, A297_0, c297_0, e297, hx297_0, hl297_0, hi297_0⟩ := at_L2 (Kd.S_reads' HO_9.out).2.2 x10_1 p297 q297
             obtain rfl : ad296 = ad297 := (by injection e297)
             obtain ⟨ce297, hce297, hMe297, hcc297⟩ := Kd.S_get HO_9.out [] x10_1 p297 (by first | exact q297 | exact of_decide_eq_true (by first | (with_reducible assumption) | assumption) | (have e_ := (Kd.S_reads' HO_9.out).1; omega))
             obtain ⟨ve297_0, rfl, ge297_0⟩ := hMe297
             have hv297_0 := hcc297 0 _ rfl
             rw [Nat.add_zero, show ((Kd.slice 3 (Kd.int .i64))).sz = 1 from rfl, Nat.mul_one] at hv297_0
             replace hv297_0 := Option.some.inj (hv297_0.symm.trans hx297_0)
             rw [hv297_0] at ge297_0
             have HL297_0 := Aside0.mk (show Kd.R (Kd.int .i64) 3 _ _ _ _ (rd_L2 x9_2 x10_1) from ge297_0)
             clear hv297_0 ge297_0
             have HX297_0 := Aside0.mk hx297_0
             clear hcc297 hce297
             have HR297_0 := Aside0.mk hi297_0
             have HC297_0 := Aside0.mk hl297_0
             clear hi297_0 hl297_0
             replace p297 := eq_true p297
             replace q297 := eq_true q297
             have ea_ := Option.some.inj (hx296_0.symm.trans hx297_0)
             injection ea_ with ea_ en_ ec_
             subst ea_
             subst ec_
             clear en_
             have p298 : 0 ≤ (x11_2 : Int) := of_decide_eq_true (by first | (with_reducible assumption) | assumption)
             have q298 : x11_2 < ((rd_L2 x9_2 x10_1).length : Int) := of_decide_eq_true (by first | (with_reducible assumption) | assumption)
             obtain ⟨ad298, e298, hx298_0⟩ := Kd.at_int (by repeat (first | (with_reducible exact HR297_0.out) | (with_reducible refine Kd.C_alloc ?_ _) | (with_reducible refine Kd.C_drewN ?_ _) | (with_reducible refine Kd.C_drew ?_) | exact HR297_0.out)) x11_2 p298 q298
             cases e298
             replace p298 := eq_true p298
             replace q298 := eq_true q298
             try go_wp2
             have n0_ := Aside0.mk (Kd.S_drew HO_9.out)
             have n1_ := Aside0.mk (Kd.R_drew HL296_0.out)
             have n2_ := Aside0.mk (Kd.R_drew HL297_0.out)
             have n3_ := Aside0.mk (Kd.C_drew HR296_0.out)
             have n4_ := Aside0.mk (Kd.C_drew HR297_0.out)
             have n5_ := Aside0.mk (below_drew1 HB.out)
             clear HO_9
             clear HL296_0
             clear HL297_0
             clear HR296_0
             clear HR297_0
             clear HB
             have HO_9 := n0_
             have HL296_0 := n1_
             have HL297_0 := n2_
             have HR296_0 := n3_
             have HR297_0 := n4_
             have HB := n5_
             clear n0_ n1_ n2_ n3_ n4_ n5_
             have p299 : 0 ≤ (x10_1 : Int) := of_decide_eq_true (by first | (with_reducible assumption) | assumption)
             have q299 : x10_1 < (x9_2.length : Int) := of_decide_eq_true (by first | (with_reducible assumption) | assumption)
             obtain ⟨ad299, A299_0, c299_0, e299, hx299_0, hl299_0, hi299_0⟩ := at_L2 (Kd.S_reads' HO_9.out).2.2 x10_1 p299 q299
             obtain rfl : ad296 = ad299 := (by injection e299)
             obtain ⟨ce299, hce299, hMe299, hcc299⟩ := Kd.S_get HO_9.out [] x10_1 p299 (by first | exact q299 | exact of_decide_eq_true (by first | (with_reducible assumption) | assumption) | (have e_ := (Kd.S_reads' HO_9.out).1; omega))
             obtain ⟨ve299_0, rfl, ge299_0⟩ := hMe299
             have hv299_0 := hcc299 0 _ rfl
             rw [Nat.add_zero, show ((Kd.slice 3 (Kd.int .i64))).sz = 1 from rfl, Nat.mul_one] at hv299_0
             replace hv299_0 := Option.some.inj (hv299_0.symm.trans hx299_0)
             rw [hv299_0] at ge299_0
             have HL299_0 := Aside0.mk (show Kd.R (Kd.int .i64) 3 _ _ _ _ (rd_L2 x9_2 x10_1) from ge299_0)
             clear hv299_0 ge299_0
             have HX299_0 := Aside0.mk hx299_0
             clear hcc299 hce299
             have HR299_0 := Aside0.mk hi299_0
             have HC299_0 := Aside0.mk hl299_0
             clear hi299_0 hl299_0
             replace p299 := eq_true p299
             replace q299 := eq_true q299
             have p300 : 0 ≤ (x10_1 : Int) := of_decide_eq_true (by first | (with_reducible assumption) | assumption)
             have q300 : x10_1 < (x9_2.length : Int) := of_decide_eq_true (by first | (with_reducible assumption) | assumption)
             obtain ⟨ad300, A300_0, c300_0, e300, hx300_0, hl300_0, hi300_0⟩ := at_L2 (Kd.S_reads' HO_9.out).2.2 x10_1 p300 q300
             obtain rfl : ad296 = ad300 := (by injection e300)
             obtain ⟨ce300, hce300, hMe300, hcc300⟩ := Kd.S_get HO_9.out [] x10_1 p300 (by first | exact q300 | exact of_decide_eq_true (by first | (with_reducible assumption) | assumption) | (have e_ := (Kd.S_reads' HO_9.out).1; omega))
             obtain ⟨ve300_0, rfl, ge300_0⟩ := hMe300
             have hv300_0 := hcc300 0 _ rfl
             rw [Nat.add_zero, show ((Kd.slice 3 (Kd.int .i64))).sz = 1 from rfl, Nat.mul_one] at hv300_0
             replace hv300_0 := Option.some.inj (hv300_0.symm.trans hx300_0)
             rw [hv300_0] at ge300_0
             have HL300_0 := Aside0.mk (show Kd.R (Kd.int .i64) 3 _ _ _ _ (rd_L2 x9_2 x10_1) from ge300_0)
             clear hv300_0 ge300_0
             have HX300_0 := Aside0.mk hx300_0
             clear hcc300 hce300
             have HR300_0 := Aside0.mk hi300_0
             have HC300_0 := Aside0.mk hl300_0
             clear hi300_0 hl300_0
             replace p300 := eq_true p300
             replace q300 := eq_true q300
             have ea_ := Option.some.inj (hx299_0.symm.trans hx300_0)
             injection ea_ with ea_ en_ ec_
             subst ea_
             subst ec_
             clear en_
             have p301 : 0 ≤ (x11_2 : Int) := of_decide_eq_true (by first | (with_reducible assumption) | assumption)
             have q301 : x11_2 < ((rd_L2 x9_2 x10_1).length : Int) := of_decide_eq_true (by first | (with_reducible assumption) | assumption)
             obtain ⟨ad301, e301, hx301_0⟩ := Kd.at_int (by repeat (first | (with_reducible exact HR300_0.out) | (with_reducible refine Kd.C_alloc ?_ _) | (with_reducible refine Kd.C_drewN ?_ _) | (with_reducible refine Kd.C_drew ?_) | exact HR300_0.out)) x11_2 p301 q301
             cases e301
             replace p301 := eq_true p301
             replace q301 := eq_true q301
             have p18 : 0 ≤ (x11_2 : Int) := of_decide_eq_true (by first | (with_reducible assumption) | assumption)
             have q18 : (x11_2 : Int) < (((rd_L2 x9_2 x10_1).length : Int) : Int) := of_decide_eq_true (by first | (with_reducible assumption) | assumption)
             obtain ⟨go18, co18, eo18, gb18, gl18, cl18, HG18⟩ := Kd.R_form HL299_0.out (by omega)
             (first | cases eo18 | (injection eo18 with ea_ en_ ec_; (first | subst ea_ | (injection ea_ with ea_; subst ea_)); subst ec_; clear en_))
             have GB18 := Aside0.mk gb18
             have GG18 := Aside0.mk HG18
             clear gb18 gl18 HG18
             (first | simp only [add_plain] at hx301_0 | skip)
             obtain ⟨hx18_0, hf18_0⟩ := Kd.R_celln 0 HL299_0.out (x11_2 : Int) p18 q18
             replace p18 := eq_true p18
             replace q18 := eq_true q18
             have hq20 : (x10_1 : Int) < (x9_2.length : Int) := (by have h_ : (x10_1 : Int) < ((x9_2.length : Int) : Int) := of_decide_eq_true (by first | (with_reducible assumption) | assumption); first | exact h_ | (have e_ := (Kd.S_reads' HO_9.out).1; omega) | simpa only [List.length_set, List.length_set] using h_)
             obtain ⟨oki20, ce20, hcl20, hM20, hcc20, hok20, hbk20⟩ := Kd.S_borrow HO_9.out [] (x10_1 : Int) (of_decide_eq_true (by first | (with_reducible assumption) | assumption)) hq20
             obtain ⟨ve20_0, rfl, ge20_0⟩ := hM20
             have hv20 := hcc20 0 _ rfl
             rw [Nat.add_zero, show ((Kd.slice 3 (Kd.int .i64))).sz = 1 from rfl, Nat.mul_one] at hv20
             replace hv20 := Option.some.inj (hv20.symm.trans HX299_0.out)
             subst hv20
             clear hcc20 hcl20
             replace ge20_0 := (show Kd.R (Kd.int .i64) 3 _ _ _ _ (rd_L2 x9_2 x10_1) from ge20_0)
             have HP20 := Kd.R_putg ge20_0 (x11_2 : Int) (wrap64 (-(rd (rd_L2 x9_2 x10_1) x11_2)))
             rw [← Ny302.out] at HP20
             have HS20 := hbk20 HP20.2 (fun k_ e_ => by injection e_ with e_; subst e_; exact ge20_0.1 _ rfl) (x' := y302) (Kd.M_row HP20.1)
             rw [← Ny304.out] at HS20
             have HQ20 := Aside0.mk HS20
             clear HP20 HS20 hbk20 hok20
             refine start_ (n := 15) (S := fun w' => w'.cell? (ad296.add (x10_1).toNat) = some (.slice (some ⟨go18, 0, none⟩) (rd_L2 x9_2 x10_1).length c299_0) ∧ w'.cell? (ad296.add (x10_1).toNat) = some (.slice (some ⟨go18, 0, none⟩) (rd_L2 x9_2 x10_1).length c299_0) ∧ w'.cell? ⟨go18, (x11_2).toNat, none⟩ = some (.int .i64 (rd (rd_L2 x9_2 x10_1) x11_2))) (ds := [14]) #[false, false, false, false, false, false, false, false, false, false, false, false, false, false, false] (by kernel_rfl) rfl rfl ⟨hx299_0, hx300_0, hx301_0⟩ (fun hHeld => ?_); refine with_tabW ashlarlaw09_SatTurned.tab16 ashlarlaw09_SatTurned.bits16 (fun HT_ HW_ => ?_)
             generalize wr.drew = w19 at HO_9 HL296_0 HL297_0 HR296_0 HR297_0 HB GG18 HL299_0 HL300_0 HQ20 HR299_0 HR300_0 HX299_0 HX300_0 hf18_0 hx18_0 hx299_0 hx300_0 hx301_0 hHeld ⊢
             refine pure_ (i := 0) (N := some 74) (v := ?_) (a' := ?_) #[true, false, false, false, false, false, false, false, false, false, false, false, false, false, false] rfl rfl (any_of HT_.out (by kernel_rfl)) (fun _ _ _ h => h) (Or.inl ⟨by rfl, ?_⟩) ?_ ?_
             rotate_left
             ·intro w'
              go_simp
              with_reducible rfl
             rotate_left
             ·simp only [Act.put, List.setIfInBounds_toArray, List.set_cons_zero, List.set_cons_succ, i64_w, i32_w]
              rfl
             refine pure_ (i := 1) (N := some 75) (v := ?_) (a' := ?_) #[true, true, false, false, false, false, false, false, false, false, false, false, false, false, false] rfl rfl (any_of HT_.out (by kernel_rfl)) (fun _ _ _ h => h) (Or.inl ⟨by rfl, ?_⟩) ?_ ?_
             rotate_left
             ·intro w'
              go_simp
              with_reducible rfl
             rotate_left
             ·simp only [Act.put, List.setIfInBounds_toArray, List.set_cons_zero, List.set_cons_succ, i64_w, i32_w]
              rfl
             refine pure_ (i := 2) (N := some 76) (v := ?_) (a' := ?_) #[true, true, true, false, false, false, false, false, false, false, false, false, false, false, false] rfl rfl (any_of HT_.out (by kernel_rfl)) (fun _ _ _ h => h) (Or.inl ⟨by rfl, ?_⟩) ?_ ?_
             rotate_left
             ·intro w'
              go_simp
              with_reducible rfl
             rotate_left
             ·simp only [Act.put, List.setIfInBounds_toArray, List.set_cons_zero, List.set_cons_succ, i64_w, i32_w]
              rfl
             refine pure_ (i := 4) (N := some 78) (v := ?_) (a' := ?_) #[true, true, true, false, true, false, false, false, false, false, false, false, false, false, false] rfl rfl (any_of HT_.out (by kernel_rfl)) (fun _ _ _ h => h) (Or.inl ⟨by rfl, ?_⟩) ?_ ?_
             rotate_left
             ·intro w'
              go_simp
              with_reducible rfl
             rotate_left
             ·simp only [Act.put, List.setIfInBounds_toArray, List.set_cons_zero, List.set_cons_succ, i64_w, i32_w]
              rfl
             refine pure_ (i := 5) (N := some 79) (v := ?_) (a' := ?_) #[true, true, true, false, true, true, false, false, false, false, false, false, false, false, false] rfl rfl (any_of HT_.out (by kernel_rfl)) (fun _ _ _ h => h) (Or.inl ⟨by rfl, ?_⟩) ?_ ?_
             rotate_left
             ·intro w'
              go_simp
              with_reducible rfl
             rotate_left
             ·simp only [Act.put, List.setIfInBounds_toArray, List.set_cons_zero, List.set_cons_succ, i64_w, i32_w]
              rfl
             refine pure_ (i := 6) (N := some 80) (v := ?_) (a' := ?_) #[true, true, true, false, true, true, true, false, false, false, false, false, false, false, false] rfl rfl (any_of HT_.out (by kernel_rfl)) (fun _ _ _ h => h) (Or.inl ⟨by rfl, ?_⟩) ?_ ?_
             rotate_left
             ·intro w'
              go_simp
              with_reducible rfl
             rotate_left
             ·simp only [Act.put, List.setIfInBounds_toArray, List.set_cons_zero, List.set_cons_succ, i64_w, i32_w]
              rfl
             refine pure_ (i := 7) (N := some 81) (v := ?_) (a' := ?_) #[true, true, true, false, true, true, true, true, false, false, false, false, false, false, false] rfl rfl (any_of HT_.out (by kernel_rfl)) (fun _ _ _ h => h) (Or.inl ⟨by rfl, ?_⟩) ?_ ?_
             rotate_left
             ·intro w'
              go_simp
              with_reducible rfl
             rotate_left
             ·simp only [Act.put, List.setIfInBounds_toArray, List.set_cons_zero, List.set_cons_succ, i64_w, i32_w]
              rfl
             refine pure_ (i := 9) (N := some 83) (v := ?_) (a' := ?_) #[true, true, true, false, true, true, true, true, false, true, false, false, false, false, false] rfl rfl (any_of HT_.out (by kernel_rfl)) (fun _ _ _ h => h) (Or.inl ⟨by rfl, ?_⟩) ?_ ?_
             rotate_left
             ·intro w'
              go_simp
              with_reducible rfl
             rotate_left
             ·simp only [Act.put, List.setIfInBounds_toArray, List.set_cons_zero, List.set_cons_succ, i64_w, i32_w]
              rfl
             refine take_ (i := 3) (N := some 77) (v := ?_) (a' := ?_) #[true, true, true, true, true, true, true, true, false, true, false, false, false, false, false] rfl rfl (take_ofW HT_.out HW_.out (by kernel_rfl)) (fun _ _ _ h => h) (Or.inl ⟨by rfl, ?_⟩) hHeld ?_ ?_
             rotate_left
             ·rintro w' ⟨s0, s1, s2⟩
              go_simp
              with_reducible rfl
             rotate_left
             ·simp only [Act.put, List.setIfInBounds_toArray, List.set_cons_zero, List.set_cons_succ, i64_w, i32_w]
              rfl
             refine take_ (i := 8) (N := some 82) (v := ?_) (a' := ?_) #[true, true, true, true, true, true, true, true, true, true, false, false, false, false, false] rfl rfl (take_ofW HT_.out HW_.out (by kernel_rfl)) (fun _ _ _ h => h) (Or.inl ⟨by rfl, ?_⟩) hHeld ?_ ?_
             rotate_left
             ·rintro w' ⟨s0, s1, s2⟩
              go_simp
              with_reducible rfl
             rotate_left
             ·simp only [Act.put, List.setIfInBounds_toArray, List.set_cons_zero, List.set_cons_succ, i64_w, i32_w]
              rfl
             refine pure_ (i := 10) (N := some 84) (v := ?_) (a' := ?_) #[true, true, true, true, true, true, true, true, true, true, true, false, false, false, false] rfl rfl (any_of HT_.out (by kernel_rfl)) (fun _ _ _ h => h) (Or.inl ⟨by rfl, ?_⟩) ?_ ?_
             rotate_left
             ·intro w'
              go_simp
              with_reducible rfl
             rotate_left
             ·simp only [Act.put, List.setIfInBounds_toArray, List.set_cons_zero, List.set_cons_succ, i64_w, i32_w]
              rfl
             refine take_ (i := 11) (N := some 85) (v := ?_) (a' := ?_) #[true, true, true, true, true, true, true, true, true, true, true, true, false, false, false] rfl rfl (take_ofW HT_.out HW_.out (by kernel_rfl)) (fun _ _ _ h => h) (Or.inl ⟨by rfl, ?_⟩) hHeld ?_ ?_
             rotate_left
             ·rintro w' ⟨s0, s1, s2⟩
              go_simp
              with_reducible rfl
             rotate_left
             ·simp only [Act.put, List.setIfInBounds_toArray, List.set_cons_zero, List.set_cons_succ, i64_w, i32_w]
              rfl
             refine pure_ (i := 12) (N := some 86) (v := ?_) (a' := ?_) #[true, true, true, true, true, true, true, true, true, true, true, true, true, false, false] rfl rfl (any_of HT_.out (by kernel_rfl)) (fun _ _ _ h => h) (Or.inl ⟨by rfl, ?_⟩) ?_ ?_
             rotate_left
             ·intro w'
              go_simp
              with_reducible rfl
             rotate_left
             ·simp only [Act.put, List.setIfInBounds_toArray, List.set_cons_zero, List.set_cons_succ, i64_w, i32_w]
              rfl
             refine pure_ (i := 13) (N := some 87) (v := ?_) (a' := ?_) #[true, true, true, true, true, true, true, true, true, true, true, true, true, true, false] rfl rfl (any_of HT_.out (by kernel_rfl)) (fun _ _ _ h => h) (Or.inl ⟨by rfl, ?_⟩) ?_ ?_
             rotate_left
             ·intro w'
              go_simp
              with_reducible rfl
             rotate_left
             ·simp only [Act.put, List.setIfInBounds_toArray, List.set_cons_zero, List.set_cons_succ, i64_w, i32_w]
              rfl
             refine last_ (i := 14) (N := none) #[true, true, true, true, true, true, true, true, true, true, true, true, true, true, true] rfl rfl (one_of HT_.out (by kernel_rfl)) (by decide) (fun K hK => ?_)
             refine skip_ (w1 := ?_) (by rfl) rfl ?_ ?_
             rotate_left
             ·go_simp
              rfl
             refine hK.out _ _ ?_
             clear hK K
             refine done_ (done_of HT_.out (by kernel_rfl)) ?_
             try go_wp2
             (try simp only [← hl9_2])
             go_roundg k2
             case measure => have := HK1.out; have := HK2.out; omega
             case rel => exact ⟨(y304), (wrap64 (x11_2 + 1)), (by first | rfl | (simp; done) | (simp [*]; done)), H', ⟨by have := HK1.out; have := HK2.out; omega⟩, ⟨by (try simp only [hl9_2]); (with_reducible repeat (first | apply Kd.S_alloc | apply Kd.S_drewN | apply Kd.S_drew)); exact HQ20.out⟩, ⟨by repeat (first | (with_reducible first | exact HB.out | apply below_alloc | apply pw_below_drewN | apply below_drew1 | refine below_set ?_ GB18.out) | exact HB.out)⟩⟩
            ·rw [if_neg c17] at H
             have c17b0 : ((rd (rd_L2 x9_2 x10_1) x11_2) == (wrap64 (1 + (Int.tmod (Go.bits .and .i64 a2 65535) (wrap64 (1 + (Int.tmod (Go.bits .and .i64 a1 65535) 5))))))) = false := beq_eq_false_iff_ne.mpr c17
             have c17b1 : ((rd (rd_L2 x9_2 x10_1) x11_2) != (wrap64 (1 + (Int.tmod (Go.bits .and .i64 a2 65535) (wrap64 (1 + (Int.tmod (Go.bits .and .i64 a1 65535) 5))))))) = true := bne_iff_ne.mpr c17
             by_cases c22 : (rd (rd_L2 x9_2 x10_1) x11_2) = (wrap64 (-(wrap64 (1 + (Int.tmod (Go.bits .and .i64 a2 65535) (wrap64 (1 + (Int.tmod (Go.bits .and .i64 a1 65535) 5))))))))
             ·rw [if_pos c22] at H
              have c22b0 : ((rd (rd_L2 x9_2 x10_1) x11_2) == (wrap64 (-(wrap64 (1 + (Int.tmod (Go.bits .and .i64 a2 65535) (wrap64 (1 + (Int.tmod (Go.bits .and .i64 a1 65535) 5))))))))) = true := beq_iff_eq.mpr c22
              have c22b1 : ((rd (rd_L2 x9_2 x10_1) x11_2) != (wrap64 (-(wrap64 (1 + (Int.tmod (Go.bits .and .i64 a2 65535) (wrap64 (1 + (Int.tmod (Go.bits .and .i64 a1 65535) 5))))))))) = false := bne_eq_false_iff_eq.mpr c22
              clear c22
              obtain ⟨y310, hy310⟩ : ∃ y_ : List Int, y_ = ((rd_L2 x9_2 x10_1).set (x11_2 : Int).toNat (wrap64 (-(rd (rd_L2 x9_2 x10_1) x11_2)))) := ⟨_, rfl⟩
              replace H : (ashlarlaw09_SatTurned.l1 k2 l0 (wrap64 (1 + (Int.tmod (Go.bits .and .i64 a1 65535) 5))) (wrap64 (1 + (Int.tmod (Go.bits .and .i64 a2 65535) (wrap64 (1 + (Int.tmod (Go.bits .and .i64 a1 65535) 5)))))) t276 (x9_2.set (x10_1 : Int).toNat y310) x10_1 (wrap64 (x11_2 + 1))) = some r := by first | (rw [hy310]; with_reducible exact H) | (have H2_ := (Option.bind_some _ _).symm.trans H; rw [hy310]; with_reducible exact H2_) | (have H2_ := (Option.bind_some _ _).symm.trans H; with_reducible exact H2_) | with_reducible exact H | (rw [hy310]; exact H) | exact H
              have Ny310 := Aside0.mk hy310
              clear hy310
              obtain ⟨y312, hy312⟩ : ∃ y_ : List (List Int), y_ = (x9_2.set (x10_1 : Int).toNat y310) := ⟨_, rfl⟩
              replace H : (ashlarlaw09_SatTurned.l1 k2 l0 (wrap64 (1 + (Int.tmod (Go.bits .and .i64 a1 65535) 5))) (wrap64 (1 + (Int.tmod (Go.bits .and .i64 a2 65535) (wrap64 (1 + (Int.tmod (Go.bits .and .i64 a1 65535) 5)))))) t276 y312 x10_1 (wrap64 (x11_2 + 1))) = some r := by first | (rw [hy312]; with_reducible exact H) | (have H2_ := (Option.bind_some _ _).symm.trans H; rw [hy312]; with_reducible exact H2_) | (have H2_ := (Option.bind_some _ _).symm.trans H; with_reducible exact H2_) | with_reducible exact H | (rw [hy312]; exact H) | exact H
              have Ny312 := Aside0.mk hy312
              clear hy312
              have H' := Aside0.mk H
              clear H
              have p296 : 0 ≤ (x10_1 : Int) := of_decide_eq_true (by first | (with_reducible assumption) | assumption)
              have q296 : x10_1 < (x9_2.length : Int) := of_decide_eq_true (by first | (with_reducible assumption) | assumption)
              obtain ⟨ad296, A296_0, c296_0, e296, hx296_0, hl296_0, hi296_0⟩ := at_L2 (Kd.S_reads' HO_9.out).2.2 x10_1 p296 q296
              cases e296
              obtain ⟨ce296, hce296, hMe296, hcc296⟩ := Kd.S_get HO_9.out [] x10_1 p296 (by first | exact q296 | exact of_decide_eq_true (by first | (with_reducible assumption) | assumption) | (have e_ := (Kd.S_reads' HO_9.out).1; omega))
              obtain ⟨ve296_0, rfl, ge296_0⟩ := hMe296
              have hv296_0 := hcc296 0 _ rfl
              rw [Nat.add_zero, show ((Kd.slice 3 (Kd.int .i64))).sz = 1 from rfl, Nat.mul_one] at hv296_0
              replace hv296_0 := Option.some.inj (hv296_0.symm.trans hx296_0)
              rw [hv296_0] at ge296_0
              have HL296_0 := Aside0.mk (show Kd.R (Kd.int .i64) 3 _ _ _ _ (rd_L2 x9_2 x10_1) from ge296_0)
              clear hv296_0 ge296_0
              have HX296_0 := Aside0.mk hx296_0
              clear hcc296 hce296
              have HR296_0 := Aside0.mk hi296_0
              have HC296_0 := Aside0.mk hl296_0
              clear hi296_0 hl296_0
              replace p296 := eq_true p296
              replace q296 := eq_true q296
              have p297 : 0 ≤ (x10_1 : Int) := of_decide_eq_true (by first | (with_reducible assumption) | assumption)
              have q297 : x10_1 < (x9_2.length : Int) := of_decide_eq_true (by first | (with_reducible assumption) | assumption)
              obtain ⟨ad297, A297_0, c297_0, e297, hx297_0, hl297_0, hi297_0⟩ := at_L2 (Kd.S_reads' HO_9.out).2.2 x10_1 p297 q297
              obtain rfl : ad296 = ad297 := (by injection e297)
              obtain ⟨ce297, hce297, hMe297, hcc297⟩ := Kd.S_get HO_9.out [] x10_1 p297 (by first | exact q297 | exact of_decide_eq_true (by first | (with_reducible assumption) | assumption) | (have e_ := (Kd.S_reads' HO_9.out).1; omega))
              obtain ⟨ve297_0, rfl, ge297_0⟩ := hMe297
              have hv297_0 := hcc297 0 _ rfl
              rw [Nat.add_zero, show ((Kd.slice 3 (Kd.int .i64))).sz = 1 from rfl, Nat.mul_one] at hv297_0
              replace hv297_0 := Option.some.inj (hv297_0.symm.trans hx297_0)
              rw [hv297_0] at ge297_0
              have HL297_0 := Aside0.mk (show Kd.R (Kd.int .i64) 3 _ _ _ _ (rd_L2 x9_2 x10_1) from ge297_0)
              clear hv297_0 ge297_0
              have HX297_0 := Aside0.mk hx297_0
              clear hcc297 hce297
              have HR297_0 := Aside0.mk hi297_0
              have HC297_0 := Aside0.mk hl297_0
              clear hi297_0 hl297_0
              replace p297 := eq_true p297
              replace q297 := eq_true q297
              have ea_ := Option.some.inj (hx296_0.symm.trans hx297_0)
              injection ea_ with ea_ en_ ec_
              subst ea_
              subst ec_
              clear en_
              have p298 : 0 ≤ (x11_2 : Int) := of_decide_eq_true (by first | (with_reducible assumption) | assumption)
              have q298 : x11_2 < ((rd_L2 x9_2 x10_1).length : Int) := of_decide_eq_true (by first | (with_reducible assumption) | assumption)
              obtain ⟨ad298, e298, hx298_0⟩ := Kd.at_int (by repeat (first | (with_reducible exact HR297_0.out) | (with_reducible refine Kd.C_alloc ?_ _) | (with_reducible refine Kd.C_drewN ?_ _) | (with_reducible refine Kd.C_drew ?_) | exact HR297_0.out)) x11_2 p298 q298
              cases e298
              replace p298 := eq_true p298
              replace q298 := eq_true q298
              have p305 : 0 ≤ (x10_1 : Int) := of_decide_eq_true (by first | (with_reducible assumption) | assumption)
              have q305 : x10_1 < (x9_2.length : Int) := of_decide_eq_true (by first | (with_reducible assumption) | assumption)
              obtain ⟨ad305, A305_0, c305_0, e305, hx305_0, hl305_0, hi305_0⟩ := at_L2 (Kd.S_reads' HO_9.out).2.2 x10_1 p305 q305
              obtain rfl : ad296 = ad305 := (by injection e305)
              obtain ⟨ce305, hce305, hMe305, hcc305⟩ := Kd.S_get HO_9.out [] x10_1 p305 (by first | exact q305 | exact of_decide_eq_true (by first | (with_reducible assumption) | assumption) | (have e_ := (Kd.S_reads' HO_9.out).1; omega))
              obtain ⟨ve305_0, rfl, ge305_0⟩ := hMe305
              have hv305_0 := hcc305 0 _ rfl
              rw [Nat.add_zero, show ((Kd.slice 3 (Kd.int .i64))).sz = 1 from rfl, Nat.mul_one] at hv305_0
              replace hv305_0 := Option.some.inj (hv305_0.symm.trans hx305_0)
              rw [hv305_0] at ge305_0
              have HL305_0 := Aside0.mk (show Kd.R (Kd.int .i64) 3 _ _ _ _ (rd_L2 x9_2 x10_1) from ge305_0)
              clear hv305_0 ge305_0
              have HX305_0 := Aside0.mk hx305_0
              clear hcc305 hce305
              have HR305_0 := Aside0.mk hi305_0
              have HC305_0 := Aside0.mk hl305_0
              clear hi305_0 hl305_0
              replace p305 := eq_true p305
              replace q305 := eq_true q305
              have ea_ := Option.some.inj (hx296_0.symm.trans hx305_0)
              injection ea_ with ea_ en_ ec_
              subst ea_
              subst ec_
              clear en_
              have p306 : 0 ≤ (x11_2 : Int) := of_decide_eq_true (by first | (with_reducible assumption) | assumption)
              have q306 : x11_2 < ((rd_L2 x9_2 x10_1).length : Int) := of_decide_eq_true (by first | (with_reducible assumption) | assumption)
              obtain ⟨ad306, e306, hx306_0⟩ := Kd.at_int (by repeat (first | (with_reducible exact HR305_0.out) | (with_reducible refine Kd.C_alloc ?_ _) | (with_reducible refine Kd.C_drewN ?_ _) | (with_reducible refine Kd.C_drew ?_) | exact HR305_0.out)) x11_2 p306 q306
              cases e306
              replace p306 := eq_true p306
              replace q306 := eq_true q306
              try go_wp2
              have n0_ := Aside0.mk (Kd.S_drew HO_9.out)
              have n1_ := Aside0.mk (Kd.R_drew HL296_0.out)
              have n2_ := Aside0.mk (Kd.R_drew HL297_0.out)
              have n3_ := Aside0.mk (Kd.R_drew HL305_0.out)
              have n4_ := Aside0.mk (Kd.C_drew HR296_0.out)
              have n5_ := Aside0.mk (Kd.C_drew HR297_0.out)
              have n6_ := Aside0.mk (Kd.C_drew HR305_0.out)
              have n7_ := Aside0.mk (below_drew1 HB.out)
              clear HO_9
              clear HL296_0
              clear HL297_0
              clear HL305_0
              clear HR296_0
              clear HR297_0
              clear HR305_0
              clear HB
              have HO_9 := n0_
              have HL296_0 := n1_
              have HL297_0 := n2_
              have HL305_0 := n3_
              have HR296_0 := n4_
              have HR297_0 := n5_
              have HR305_0 := n6_
              have HB := n7_
              clear n0_ n1_ n2_ n3_ n4_ n5_ n6_ n7_
              have p307 : 0 ≤ (x10_1 : Int) := of_decide_eq_true (by first | (with_reducible assumption) | assumption)
              have q307 : x10_1 < (x9_2.length : Int) := of_decide_eq_true (by first | (with_reducible assumption) | assumption)
              obtain ⟨ad307, A307_0, c307_0, e307, hx307_0, hl307_0, hi307_0⟩ := at_L2 (Kd.S_reads' HO_9.out).2.2 x10_1 p307 q307
              obtain rfl : ad296 = ad307 := (by injection e307)
              obtain ⟨ce307, hce307, hMe307, hcc307⟩ := Kd.S_get HO_9.out [] x10_1 p307 (by first | exact q307 | exact of_decide_eq_true (by first | (with_reducible assumption) | assumption) | (have e_ := (Kd.S_reads' HO_9.out).1; omega))
              obtain ⟨ve307_0, rfl, ge307_0⟩ := hMe307
              have hv307_0 := hcc307 0 _ rfl
              rw [Nat.add_zero, show ((Kd.slice 3 (Kd.int .i64))).sz = 1 from rfl, Nat.mul_one] at hv307_0
              replace hv307_0 := Option.some.inj (hv307_0.symm.trans hx307_0)
              rw [hv307_0] at ge307_0
              have HL307_0 := Aside0.mk (show Kd.R (Kd.int .i64) 3 _ _ _ _ (rd_L2 x9_2 x10_1) from ge307_0)
              clear hv307_0 ge307_0
              have HX307_0 := Aside0.mk hx307_0
              clear hcc307 hce307
              have HR307_0 := Aside0.mk hi307_0
              have HC307_0 := Aside0.mk hl307_0
              clear hi307_0 hl307_0
              replace p307 := eq_true p307
              replace q307 := eq_true q307
              have p308 : 0 ≤ (x10_1 : Int) := of_decide_eq_true (by first | (with_reducible assumption) | assumption)
              have q308 : x10_1 < (x9_2.length : Int) := of_decide_eq_true (by first | (with_reducible assumption) | assumption)
              obtain ⟨ad308, A308_0, c308_0, e308, hx308_0, hl308_0, hi308_0⟩ := at_L2 (Kd.S_reads' HO_9.out).2.2 x10_1 p308 q308
              obtain rfl : ad296 = ad308 := (by injection e308)
              obtain ⟨ce308, hce308, hMe308, hcc308⟩ := Kd.S_get HO_9.out [] x10_1 p308 (by first | exact q308 | exact of_decide_eq_true (by first | (with_reducible assumption) | assumption) | (have e_ := (Kd.S_reads' HO_9.out).1; omega))
              obtain ⟨ve308_0, rfl, ge308_0⟩ := hMe308
              have hv308_0 := hcc308 0 _ rfl
              rw [Nat.add_zero, show ((Kd.slice 3 (Kd.int .i64))).sz = 1 from rfl, Nat.mul_one] at hv308_0
              replace hv308_0 := Option.some.inj (hv308_0.symm.trans hx308_0)
              rw [hv308_0] at ge308_0
              have HL308_0 := Aside0.mk (show Kd.R (Kd.int .i64) 3 _ _ _ _ (rd_L2 x9_2 x10_1) from ge308_0)
              clear hv308_0 ge308_0
              have HX308_0 := Aside0.mk hx308_0
              clear hcc308 hce308
              have HR308_0 := Aside0.mk hi308_0
              have HC308_0 := Aside0.mk hl308_0
              clear hi308_0 hl308_0
              replace p308 := eq_true p308
              replace q308 := eq_true q308
              have ea_ := Option.some.inj (hx307_0.symm.trans hx308_0)
              injection ea_ with ea_ en_ ec_
              subst ea_
              subst ec_
              clear en_
              have p309 : 0 ≤ (x11_2 : Int) := of_decide_eq_true (by first | (with_reducible assumption) | assumption)
              have q309 : x11_2 < ((rd_L2 x9_2 x10_1).length : Int) := of_decide_eq_true (by first | (with_reducible assumption) | assumption)
              obtain ⟨ad309, e309, hx309_0⟩ := Kd.at_int (by repeat (first | (with_reducible exact HR308_0.out) | (with_reducible refine Kd.C_alloc ?_ _) | (with_reducible refine Kd.C_drewN ?_ _) | (with_reducible refine Kd.C_drew ?_) | exact HR308_0.out)) x11_2 p309 q309
              cases e309
              replace p309 := eq_true p309
              replace q309 := eq_true q309
              have p23 : 0 ≤ (x11_2 : Int) := of_decide_eq_true (by first | (with_reducible assumption) | assumption)
              have q23 : (x11_2 : Int) < (((rd_L2 x9_2 x10_1).length : Int) : Int) := of_decide_eq_true (by first | (with_reducible assumption) | assumption)
              obtain ⟨go23, co23, eo23, gb23, gl23, cl23, HG23⟩ := Kd.R_form HL307_0.out (by omega)
              (first | cases eo23 | (injection eo23 with ea_ en_ ec_; (first | subst ea_ | (injection ea_ with ea_; subst ea_)); subst ec_; clear en_))
              have GB23 := Aside0.mk gb23
              have GG23 := Aside0.mk HG23
              clear gb23 gl23 HG23
              (first | simp only [add_plain] at hx309_0 | skip)
              obtain ⟨hx23_0, hf23_0⟩ := Kd.R_celln 0 HL307_0.out (x11_2 : Int) p23 q23
              replace p23 := eq_true p23
              replace q23 := eq_true q23
              have hq25 : (x10_1 : Int) < (x9_2.length : Int) := (by have h_ : (x10_1 : Int) < ((x9_2.length : Int) : Int) := of_decide_eq_true (by first | (with_reducible assumption) | assumption); first | exact h_ | (have e_ := (Kd.S_reads' HO_9.out).1; omega) | simpa only [List.length_set, List.length_set] using h_)
              obtain ⟨oki25, ce25, hcl25, hM25, hcc25, hok25, hbk25⟩ := Kd.S_borrow HO_9.out [] (x10_1 : Int) (of_decide_eq_true (by first | (with_reducible assumption) | assumption)) hq25
              obtain ⟨ve25_0, rfl, ge25_0⟩ := hM25
              have hv25 := hcc25 0 _ rfl
              rw [Nat.add_zero, show ((Kd.slice 3 (Kd.int .i64))).sz = 1 from rfl, Nat.mul_one] at hv25
              replace hv25 := Option.some.inj (hv25.symm.trans HX307_0.out)
              subst hv25
              clear hcc25 hcl25
              replace ge25_0 := (show Kd.R (Kd.int .i64) 3 _ _ _ _ (rd_L2 x9_2 x10_1) from ge25_0)
              have HP25 := Kd.R_putg ge25_0 (x11_2 : Int) (wrap64 (-(rd (rd_L2 x9_2 x10_1) x11_2)))
              rw [← Ny310.out] at HP25
              have HS25 := hbk25 HP25.2 (fun k_ e_ => by injection e_ with e_; subst e_; exact ge25_0.1 _ rfl) (x' := y310) (Kd.M_row HP25.1)
              rw [← Ny312.out] at HS25
              have HQ25 := Aside0.mk HS25
              clear HP25 HS25 hbk25 hok25
              refine start_ (n := 15) (S := fun w' => w'.cell? (ad296.add (x10_1).toNat) = some (.slice (some ⟨go23, 0, none⟩) (rd_L2 x9_2 x10_1).length c307_0) ∧ w'.cell? (ad296.add (x10_1).toNat) = some (.slice (some ⟨go23, 0, none⟩) (rd_L2 x9_2 x10_1).length c307_0) ∧ w'.cell? ⟨go23, (x11_2).toNat, none⟩ = some (.int .i64 (rd (rd_L2 x9_2 x10_1) x11_2))) (ds := [14]) #[false, false, false, false, false, false, false, false, false, false, false, false, false, false, false] (by kernel_rfl) rfl rfl ⟨hx307_0, hx308_0, hx309_0⟩ (fun hHeld => ?_); refine with_tabW ashlarlaw09_SatTurned.tab16 ashlarlaw09_SatTurned.bits16 (fun HT_ HW_ => ?_)
              generalize wr.drew = w24 at HO_9 HL296_0 HL297_0 HL305_0 HR296_0 HR297_0 HR305_0 HB GG23 HL307_0 HL308_0 HQ25 HR307_0 HR308_0 HX307_0 HX308_0 hf23_0 hx23_0 hx307_0 hx308_0 hx309_0 hHeld ⊢
              refine pure_ (i := 0) (N := some 74) (v := ?_) (a' := ?_) #[true, false, false, false, false, false, false, false, false, false, false, false, false, false, false] rfl rfl (any_of HT_.out (by kernel_rfl)) (fun _ _ _ h => h) (Or.inl ⟨by rfl, ?_⟩) ?_ ?_
              rotate_left
              ·intro w'
               go_simp
               with_reducible rfl
              rotate_left
              ·simp only [Act.put, List.setIfInBounds_toArray, List.set_cons_zero, List.set_cons_succ, i64_w, i32_w]
               rfl
              refine pure_ (i := 1) (N := some 75) (v := ?_) (a' := ?_) #[true, true, false, false, false, false, false, false, false, false, false, false, false, false, false] rfl rfl (any_of HT_.out (by kernel_rfl)) (fun _ _ _ h => h) (Or.inl ⟨by rfl, ?_⟩) ?_ ?_
              rotate_left
              ·intro w'
               go_simp
               with_reducible rfl
              rotate_left
              ·simp only [Act.put, List.setIfInBounds_toArray, List.set_cons_zero, List.set_cons_succ, i64_w, i32_w]
               rfl
              refine pure_ (i := 2) (N := some 76) (v := ?_) (a' := ?_) #[true, true, true, false, false, false, false, false, false, false, false, false, false, false, false] rfl rfl (any_of HT_.out (by kernel_rfl)) (fun _ _ _ h => h) (Or.inl ⟨by rfl, ?_⟩) ?_ ?_
              rotate_left
              ·intro w'
               go_simp
               with_reducible rfl
              rotate_left
              ·simp only [Act.put, List.setIfInBounds_toArray, List.set_cons_zero, List.set_cons_succ, i64_w, i32_w]
               rfl
              refine pure_ (i := 4) (N := some 78) (v := ?_) (a' := ?_) #[true, true, true, false, true, false, false, false, false, false, false, false, false, false, false] rfl rfl (any_of HT_.out (by kernel_rfl)) (fun _ _ _ h => h) (Or.inl ⟨by rfl, ?_⟩) ?_ ?_
              rotate_left
              ·intro w'
               go_simp
               with_reducible rfl
              rotate_left
              ·simp only [Act.put, List.setIfInBounds_toArray, List.set_cons_zero, List.set_cons_succ, i64_w, i32_w]
               rfl
              refine pure_ (i := 5) (N := some 79) (v := ?_) (a' := ?_) #[true, true, true, false, true, true, false, false, false, false, false, false, false, false, false] rfl rfl (any_of HT_.out (by kernel_rfl)) (fun _ _ _ h => h) (Or.inl ⟨by rfl, ?_⟩) ?_ ?_
              rotate_left
              ·intro w'
               go_simp
               with_reducible rfl
              rotate_left
              ·simp only [Act.put, List.setIfInBounds_toArray, List.set_cons_zero, List.set_cons_succ, i64_w, i32_w]
               rfl
              refine pure_ (i := 6) (N := some 80) (v := ?_) (a' := ?_) #[true, true, true, false, true, true, true, false, false, false, false, false, false, false, false] rfl rfl (any_of HT_.out (by kernel_rfl)) (fun _ _ _ h => h) (Or.inl ⟨by rfl, ?_⟩) ?_ ?_
              rotate_left
              ·intro w'
               go_simp
               with_reducible rfl
              rotate_left
              ·simp only [Act.put, List.setIfInBounds_toArray, List.set_cons_zero, List.set_cons_succ, i64_w, i32_w]
               rfl
              refine pure_ (i := 7) (N := some 81) (v := ?_) (a' := ?_) #[true, true, true, false, true, true, true, true, false, false, false, false, false, false, false] rfl rfl (any_of HT_.out (by kernel_rfl)) (fun _ _ _ h => h) (Or.inl ⟨by rfl, ?_⟩) ?_ ?_
              rotate_left
              ·intro w'
               go_simp
               with_reducible rfl
              rotate_left
              ·simp only [Act.put, List.setIfInBounds_toArray, List.set_cons_zero, List.set_cons_succ, i64_w, i32_w]
               rfl
              refine pure_ (i := 9) (N := some 83) (v := ?_) (a' := ?_) #[true, true, true, false, true, true, true, true, false, true, false, false, false, false, false] rfl rfl (any_of HT_.out (by kernel_rfl)) (fun _ _ _ h => h) (Or.inl ⟨by rfl, ?_⟩) ?_ ?_
              rotate_left
              ·intro w'
               go_simp
               with_reducible rfl
              rotate_left
              ·simp only [Act.put, List.setIfInBounds_toArray, List.set_cons_zero, List.set_cons_succ, i64_w, i32_w]
               rfl
              refine take_ (i := 3) (N := some 77) (v := ?_) (a' := ?_) #[true, true, true, true, true, true, true, true, false, true, false, false, false, false, false] rfl rfl (take_ofW HT_.out HW_.out (by kernel_rfl)) (fun _ _ _ h => h) (Or.inl ⟨by rfl, ?_⟩) hHeld ?_ ?_
              rotate_left
              ·rintro w' ⟨s0, s1, s2⟩
               go_simp
               with_reducible rfl
              rotate_left
              ·simp only [Act.put, List.setIfInBounds_toArray, List.set_cons_zero, List.set_cons_succ, i64_w, i32_w]
               rfl
              refine take_ (i := 8) (N := some 82) (v := ?_) (a' := ?_) #[true, true, true, true, true, true, true, true, true, true, false, false, false, false, false] rfl rfl (take_ofW HT_.out HW_.out (by kernel_rfl)) (fun _ _ _ h => h) (Or.inl ⟨by rfl, ?_⟩) hHeld ?_ ?_
              rotate_left
              ·rintro w' ⟨s0, s1, s2⟩
               go_simp
               with_reducible rfl
              rotate_left
              ·simp only [Act.put, List.setIfInBounds_toArray, List.set_cons_zero, List.set_cons_succ, i64_w, i32_w]
               rfl
              refine pure_ (i := 10) (N := some 84) (v := ?_) (a' := ?_) #[true, true, true, true, true, true, true, true, true, true, true, false, false, false, false] rfl rfl (any_of HT_.out (by kernel_rfl)) (fun _ _ _ h => h) (Or.inl ⟨by rfl, ?_⟩) ?_ ?_
              rotate_left
              ·intro w'
               go_simp
               with_reducible rfl
              rotate_left
              ·simp only [Act.put, List.setIfInBounds_toArray, List.set_cons_zero, List.set_cons_succ, i64_w, i32_w]
               rfl
              refine take_ (i := 11) (N := some 85) (v := ?_) (a' := ?_) #[true, true, true, true, true, true, true, true, true, true, true, true, false, false, false] rfl rfl (take_ofW HT_.out HW_.out (by kernel_rfl)) (fun _ _ _ h => h) (Or.inl ⟨by rfl, ?_⟩) hHeld ?_ ?_
              rotate_left
              ·rintro w' ⟨s0, s1, s2⟩
               go_simp
               with_reducible rfl
              rotate_left
              ·simp only [Act.put, List.setIfInBounds_toArray, List.set_cons_zero, List.set_cons_succ, i64_w, i32_w]
               rfl
              refine pure_ (i := 12) (N := some 86) (v := ?_) (a' := ?_) #[true, true, true, true, true, true, true, true, true, true, true, true, true, false, false] rfl rfl (any_of HT_.out (by kernel_rfl)) (fun _ _ _ h => h) (Or.inl ⟨by rfl, ?_⟩) ?_ ?_
              rotate_left
              ·intro w'
               go_simp
               with_reducible rfl
              rotate_left
              ·simp only [Act.put, List.setIfInBounds_toArray, List.set_cons_zero, List.set_cons_succ, i64_w, i32_w]
               rfl
              refine pure_ (i := 13) (N := some 87) (v := ?_) (a' := ?_) #[true, true, true, true, true, true, true, true, true, true, true, true, true, true, false] rfl rfl (any_of HT_.out (by kernel_rfl)) (fun _ _ _ h => h) (Or.inl ⟨by rfl, ?_⟩) ?_ ?_
              rotate_left
              ·intro w'
               go_simp
               with_reducible rfl
              rotate_left
              ·simp only [Act.put, List.setIfInBounds_toArray, List.set_cons_zero, List.set_cons_succ, i64_w, i32_w]
               rfl
              refine last_ (i := 14) (N := none) #[true, true, true, true, true, true, true, true, true, true, true, true, true, true, true] rfl rfl (one_of HT_.out (by kernel_rfl)) (by decide) (fun K hK => ?_)
              refine skip_ (w1 := ?_) (by rfl) rfl ?_ ?_
              rotate_left
              ·go_simp
               rfl
              refine hK.out _ _ ?_
              clear hK K
              refine done_ (done_of HT_.out (by kernel_rfl)) ?_
              try go_wp2
              (try simp only [← hl9_2])
              go_roundg k2
              case measure => have := HK1.out; have := HK2.out; omega
              case rel => exact ⟨(y312), (wrap64 (x11_2 + 1)), (by first | rfl | (simp; done) | (simp [*]; done)), H', ⟨by have := HK1.out; have := HK2.out; omega⟩, ⟨by (try simp only [hl9_2]); (with_reducible repeat (first | apply Kd.S_alloc | apply Kd.S_drewN | apply Kd.S_drew)); exact HQ25.out⟩, ⟨by repeat (first | (with_reducible first | exact HB.out | apply below_alloc | apply pw_below_drewN | apply below_drew1 | refine below_set ?_ GB23.out) | exact HB.out)⟩⟩
             ·rw [if_neg c22] at H
              have c22b0 : ((rd (rd_L2 x9_2 x10_1) x11_2) == (wrap64 (-(wrap64 (1 + (Int.tmod (Go.bits .and .i64 a2 65535) (wrap64 (1 + (Int.tmod (Go.bits .and .i64 a1 65535) 5))))))))) = false := beq_eq_false_iff_ne.mpr c22
              have c22b1 : ((rd (rd_L2 x9_2 x10_1) x11_2) != (wrap64 (-(wrap64 (1 + (Int.tmod (Go.bits .and .i64 a2 65535) (wrap64 (1 + (Int.tmod (Go.bits .and .i64 a1 65535) 5))))))))) = true := bne_iff_ne.mpr c22
              have H' := Aside0.mk H
              clear H
              have p296 : 0 ≤ (x10_1 : Int) := of_decide_eq_true (by first | (with_reducible assumption) | assumption)
              have q296 : x10_1 < (x9_2.length : Int) := of_decide_eq_true (by first | (with_reducible assumption) | assumption)
              obtain ⟨ad296, A296_0, c296_0, e296, hx296_0, hl296_0, hi296_0⟩ := at_L2 (Kd.S_reads' HO_9.out).2.2 x10_1 p296 q296
              cases e296
              obtain ⟨ce296, hce296, hMe296, hcc296⟩ := Kd.S_get HO_9.out [] x10_1 p296 (by first | exact q296 | exact of_decide_eq_true (by first | (with_reducible assumption) | assumption) | (have e_ := (Kd.S_reads' HO_9.out).1; omega))
              obtain ⟨ve296_0, rfl, ge296_0⟩ := hMe296
              have hv296_0 := hcc296 0 _ rfl
              rw [Nat.add_zero, show ((Kd.slice 3 (Kd.int .i64))).sz = 1 from rfl, Nat.mul_one] at hv296_0
              replace hv296_0 := Option.some.inj (hv296_0.symm.trans hx296_0)
              rw [hv296_0] at ge296_0
              have HL296_0 := Aside0.mk (show Kd.R (Kd.int .i64) 3 _ _ _ _ (rd_L2 x9_2 x10_1) from ge296_0)
              clear hv296_0 ge296_0
              have HX296_0 := Aside0.mk hx296_0
              clear hcc296 hce296
              have HR296_0 := Aside0.mk hi296_0
              have HC296_0 := Aside0.mk hl296_0
              clear hi296_0 hl296_0
              replace p296 := eq_true p296
              replace q296 := eq_true q296
              have p297 : 0 ≤ (x10_1 : Int) := of_decide_eq_true (by first | (with_reducible assumption) | assumption)
              have q297 : x10_1 < (x9_2.length : Int) := of_decide_eq_true (by first | (with_reducible assumption) | assumption)
              obtain ⟨ad297, A297_0, c297_0, e297, hx297_0, hl297_0, hi297_0⟩ := at_L2 (Kd.S_reads' HO_9.out).2.2 x10_1 p297 q297
              obtain rfl : ad296 = ad297 := (by injection e297)
              obtain ⟨ce297, hce297, hMe297, hcc297⟩ := Kd.S_get HO_9.out [] x10_1 p297 (by first | exact q297 | exact of_decide_eq_true (by first | (with_reducible assumption) | assumption) | (have e_ := (Kd.S_reads' HO_9.out).1; omega))
              obtain ⟨ve297_0, rfl, ge297_0⟩ := hMe297
              have hv297_0 := hcc297 0 _ rfl
              rw [Nat.add_zero, show ((Kd.slice 3 (Kd.int .i64))).sz = 1 from rfl, Nat.mul_one] at hv297_0
              replace hv297_0 := Option.some.inj (hv297_0.symm.trans hx297_0)
              rw [hv297_0] at ge297_0
              have HL297_0 := Aside0.mk (show Kd.R (Kd.int .i64) 3 _ _ _ _ (rd_L2 x9_2 x10_1) from ge297_0)
              clear hv297_0 ge297_0
              have HX297_0 := Aside0.mk hx297_0
              clear hcc297 hce297
              have HR297_0 := Aside0.mk hi297_0
              have HC297_0 := Aside0.mk hl297_0
              clear hi297_0 hl297_0
              replace p297 := eq_true p297
              replace q297 := eq_true q297
              have ea_ := Option.some.inj (hx296_0.symm.trans hx297_0)
              injection ea_ with ea_ en_ ec_
              subst ea_
              subst ec_
              clear en_
              have p298 : 0 ≤ (x11_2 : Int) := of_decide_eq_true (by first | (with_reducible assumption) | assumption)
              have q298 : x11_2 < ((rd_L2 x9_2 x10_1).length : Int) := of_decide_eq_true (by first | (with_reducible assumption) | assumption)
              obtain ⟨ad298, e298, hx298_0⟩ := Kd.at_int (by repeat (first | (with_reducible exact HR297_0.out) | (with_reducible refine Kd.C_alloc ?_ _) | (with_reducible refine Kd.C_drewN ?_ _) | (with_reducible refine Kd.C_drew ?_) | exact HR297_0.out)) x11_2 p298 q298
              cases e298
              replace p298 := eq_true p298
              replace q298 := eq_true q298
              have p305 : 0 ≤ (x10_1 : Int) := of_decide_eq_true (by first | (with_reducible assumption) | assumption)
              have q305 : x10_1 < (x9_2.length : Int) := of_decide_eq_true (by first | (with_reducible assumption) | assumption)
              obtain ⟨ad305, A305_0, c305_0, e305, hx305_0, hl305_0, hi305_0⟩ := at_L2 (Kd.S_reads' HO_9.out).2.2 x10_1 p305 q305
              obtain rfl : ad296 = ad305 := (by injection e305)
              obtain ⟨ce305, hce305, hMe305, hcc305⟩ := Kd.S_get HO_9.out [] x10_1 p305 (by first | exact q305 | exact of_decide_eq_true (by first | (with_reducible assumption) | assumption) | (have e_ := (Kd.S_reads' HO_9.out).1; omega))
              obtain ⟨ve305_0, rfl, ge305_0⟩ := hMe305
              have hv305_0 := hcc305 0 _ rfl
              rw [Nat.add_zero, show ((Kd.slice 3 (Kd.int .i64))).sz = 1 from rfl, Nat.mul_one] at hv305_0
              replace hv305_0 := Option.some.inj (hv305_0.symm.trans hx305_0)
              rw [hv305_0] at ge305_0
              have HL305_0 := Aside0.mk (show Kd.R (Kd.int .i64) 3 _ _ _ _ (rd_L2 x9_2 x10_1) from ge305_0)
              clear hv305_0 ge305_0
              have HX305_0 := Aside0.mk hx305_0
              clear hcc305 hce305
              have HR305_0 := Aside0.mk hi305_0
              have HC305_0 := Aside0.mk hl305_0
              clear hi305_0 hl305_0
              replace p305 := eq_true p305
              replace q305 := eq_true q305
              have ea_ := Option.some.inj (hx296_0.symm.trans hx305_0)
              injection ea_ with ea_ en_ ec_
              subst ea_
              subst ec_
              clear en_
              have p306 : 0 ≤ (x11_2 : Int) := of_decide_eq_true (by first | (with_reducible assumption) | assumption)
              have q306 : x11_2 < ((rd_L2 x9_2 x10_1).length : Int) := of_decide_eq_true (by first | (with_reducible assumption) | assumption)
              obtain ⟨ad306, e306, hx306_0⟩ := Kd.at_int (by repeat (first | (with_reducible exact HR305_0.out) | (with_reducible refine Kd.C_alloc ?_ _) | (with_reducible refine Kd.C_drewN ?_ _) | (with_reducible refine Kd.C_drew ?_) | exact HR305_0.out)) x11_2 p306 q306
              cases e306
              replace p306 := eq_true p306
              replace q306 := eq_true q306
              go_wp2
              (try simp only [← hl9_2])
              go_roundg k2
              case measure => have := HK1.out; have := HK2.out; omega
              case rel => exact ⟨(x9_2), (wrap64 (x11_2 + 1)), (by first | rfl | (simp; done) | (simp [*]; done)), H', ⟨by have := HK1.out; have := HK2.out; omega⟩, ⟨by (try simp only [hl9_2]); (with_reducible repeat (first | apply Kd.S_alloc | apply Kd.S_drewN | apply Kd.S_drew)); exact HO_9.out⟩, ⟨by repeat (first | (with_reducible first | exact HB.out | apply below_alloc | apply pw_below_drewN | apply below_drew1) | exact HB.out)⟩⟩
           ·rw [if_neg c16] at H
            exact absurd H (by simp)
          ·rw [if_neg c15] at H
           have c15b0 : decide (x11_2 < ((rd_L2 x9_2 x10_1).length : Int)) = false := decide_eq_false c15
           clear c15
           have H' := Aside0.mk H
           clear H
           have p296 : 0 ≤ (x10_1 : Int) := of_decide_eq_true (by first | (with_reducible assumption) | assumption)
           have q296 : x10_1 < (x9_2.length : Int) := of_decide_eq_true (by first | (with_reducible assumption) | assumption)
           obtain ⟨ad296, A296_0, c296_0, e296, hx296_0, hl296_0, hi296_0⟩ := at_L2 (Kd.S_reads' HO_9.out).2.2 x10_1 p296 q296
           cases e296
           obtain ⟨ce296, hce296, hMe296, hcc296⟩ := Kd.S_get HO_9.out [] x10_1 p296 (by first | exact q296 | exact of_decide_eq_true (by first | (with_reducible assumption) | assumption) | (have e_ := (Kd.S_reads' HO_9.out).1; omega))
           obtain ⟨ve296_0, rfl, ge296_0⟩ := hMe296
           have hv296_0 := hcc296 0 _ rfl
           rw [Nat.add_zero, show ((Kd.slice 3 (Kd.int .i64))).sz = 1 from rfl, Nat.mul_one] at hv296_0
           replace hv296_0 := Option.some.inj (hv296_0.symm.trans hx296_0)
           rw [hv296_0] at ge296_0
           have HL296_0 := Aside0.mk (show Kd.R (Kd.int .i64) 3 _ _ _ _ (rd_L2 x9_2 x10_1) from ge296_0)
           clear hv296_0 ge296_0
           have HX296_0 := Aside0.mk hx296_0
           clear hcc296 hce296
           have HR296_0 := Aside0.mk hi296_0
           have HC296_0 := Aside0.mk hl296_0
           clear hi296_0 hl296_0
           replace p296 := eq_true p296
           replace q296 := eq_true q296
           go_wp2
           (try simp only [← hl9_2])
           go_roundg k2
           case measure => have := HK1.out; have := HK2.out; omega
           case rel => exact ⟨(x9_2), (wrap64 (x10_1 + 1)), (by first | rfl | (simp; done) | (simp [*]; done)), H', ⟨by have := HK1.out; have := HK2.out; omega⟩, ⟨by (try simp only [hl9_2]); (with_reducible repeat (first | apply Kd.S_alloc | apply Kd.S_drewN | apply Kd.S_drew)); exact HO_9.out⟩, ⟨by repeat (first | (with_reducible first | exact HB.out | apply below_alloc | apply pw_below_drewN | apply below_drew1) | exact HB.out)⟩⟩
         ·rw [if_neg c14] at H
          exact absurd H (by simp)
        ·rw [if_neg c13] at H
         exact absurd H (by simp)
     ·rw [if_neg c11] at H
      have c11b0 : decide (x10_1 < (x9_1.length : Int)) = false := decide_eq_false c11
      clear c11
      replace H := Option.bind_eq_some_iff.mp H
      obtain ⟨⟨t281, t282, t283⟩, A270, H⟩ := H
      replace H : ((sat_Solve.f k1 x9_1 (wrap64 (1 + (Int.tmod (Go.bits .and .i64 a1 65535) 5))) 243).bind fun bt288 => (if t276 = true then (if t281 = bt288.1 then ((ashlarref09_Good.f k1 x9_1 (wrap64 (1 + (Int.tmod (Go.bits .and .i64 a1 65535) 5))) bt288.1 bt288.2.1 bt288.2.2).bind fun t295 => (some t295)) else (some false)) else (some false))) = some r := H
      have A27 := Aside0.mk A270
      clear A270
      replace H := Option.bind_eq_some_iff.mp H
      obtain ⟨⟨t288, t289, t290⟩, A280, H⟩ := H
      replace H : (if t276 = true then (if t281 = t288 then ((ashlarref09_Good.f k1 x9_1 (wrap64 (1 + (Int.tmod (Go.bits .and .i64 a1 65535) 5))) t288 t289 t290).bind fun t295 => (some t295)) else (some false)) else (some false)) = some r := H
      have A28 := Aside0.mk A280
      clear A280
      by_cases c29 : t276 = true
      ·subst c29
       have H1 : (if t281 = t288 then ((ashlarref09_Good.f k1 x9_1 (wrap64 (1 + (Int.tmod (Go.bits .and .i64 a1 65535) 5))) t288 t289 t290).bind fun t295 => (some t295)) else (some false)) = some r := by rw [if_pos rfl] at H; exact H
       clear H
       have H := H1
       clear H1
       by_cases c30 : t281 = t288
       ·rw [if_pos c30] at H
        have c30b0 : (t281 == t288) = true := beq_iff_eq.mpr c30
        have c30b1 : (t281 != t288) = false := bne_eq_false_iff_eq.mpr c30
        clear c30
        replace H := Option.bind_eq_some_iff.mp H
        obtain ⟨t295, A310, H⟩ := H
        replace H : (some t295) = some r := H
        have A31 := Aside0.mk A310
        clear A310
        obtain rfl := Option.some.inj H
        obtain ⟨Ao32, co32, eo32⟩ := Kd.S_slice HO_9.out
        subst eo32
        go_wp2_with (first | ((with_reducible refine gate_callee (f := 14) rfl ?_); refine goesL_ (some 91) rfl rfl Try.func14 (by kernel_rfl) rfl #[.slice A0 l0.length c0, .int .i64 (wrap64 (1 + (Int.tmod (Go.bits .and .i64 a1 65535) 5))), .int .i64 243] rfl (by (try simp only [List.map_toArray, List.map_cons, List.map_nil]); first | done | rfl | (simp only [List.length_drop, List.length_take]; rfl)) ?_; (with_reducible refine (sat_Solve.calls k1 _ _ l0 (wrap64 (1 + (Int.tmod (Go.bits .and .i64 a1 65535) 5))) 243 t281 t282 t283 _ ?side1 ?side2 A27.out).mono ?_); (case side1 => repeat (first | exact (Kd.C_below HR0.out HB.out) | (with_reducible refine Kd.C_alloc ?_ _) | (with_reducible refine Kd.C_drewN ?_ _) | (with_reducible refine Kd.C_drew ?_))); (case side2 => exact HC0.out); rintro e w33 ⟨v284, v286, rfl, ho0, ho1, hb⟩; refine ⟨_, rfl, ?_⟩; have n0_ := Aside0.mk (Kd.S_elder' (by (with_reducible repeat (first | apply Kd.S_alloc | apply Kd.S_drewN | apply Kd.S_drew)); exact HO_9.out) (Kd.S_base ho1) hb); have n1_ := Aside0.mk (Kd.R_lower ho0 (below_size (by repeat (first | (with_reducible first | exact HB.out | apply below_alloc | apply pw_below_drewN | apply below_drew1) | exact HB.out)))); have n2_ := Aside0.mk (Kd.S_lower (Kd.S_new' ho1 (Kd.S_lt (by (with_reducible repeat (first | apply Kd.S_alloc | apply Kd.S_drewN | apply Kd.S_drew)); exact HO_9.out))) (below_size (by repeat (first | (with_reducible first | exact HB.out | apply below_alloc | apply pw_below_drewN | apply below_drew1) | exact HB.out)))); have n3_ := Aside0.mk (below_step (by repeat (first | (with_reducible first | exact HB.out | apply below_alloc | apply pw_below_drewN | apply below_drew1) | exact HB.out)) hb); clear HO_9; clear HB; have HO_9 := n0_; have HO285 := n1_; have HO287 := n2_; have HB := n3_; clear n0_ n1_ n2_ n3_; (try clear hb); (try clear hb2); (try clear hk); (try clear hi); (try clear ho0); (try clear ho1)) | ((with_reducible refine gate_callee (f := 14) rfl ?_); refine goesL_ (some 98) rfl rfl Try.func14 (by kernel_rfl) rfl #[.slice Ao32 x9_1.length co32, .int .i64 (wrap64 (1 + (Int.tmod (Go.bits .and .i64 a1 65535) 5))), .int .i64 243] rfl (by (try simp only [List.map_toArray, List.map_cons, List.map_nil]); first | done | rfl | (simp only [List.length_drop, List.length_take]; rfl)) ?_; (with_reducible refine (sat_Solve.calls k1 _ _ x9_1 (wrap64 (1 + (Int.tmod (Go.bits .and .i64 a1 65535) 5))) 243 t288 t289 t290 _ ?side1 ?side2 A28.out).mono ?_); (case side1 => repeat (first | exact (Kd.S_reads' HO_9.out).2.2 | (with_reducible refine Kd.C_alloc ?_ _) | (with_reducible refine Kd.C_drewN ?_ _) | (with_reducible refine Kd.C_drew ?_))); (case side2 => exact (Kd.S_reads' HO_9.out).2.1); rintro e w34 ⟨v291, v293, rfl, ho0, ho1, hb⟩; refine ⟨_, rfl, ?_⟩; have n0_ := Aside0.mk (Kd.S_elder' (by (with_reducible repeat (first | apply Kd.S_alloc | apply Kd.S_drewN | apply Kd.S_drew)); exact HO_9.out) (Kd.S_base ho1) hb); have n1_ := Aside0.mk (Kd.R_elder' (by (with_reducible repeat (first | apply Kd.R_alloc | apply Kd.R_drewN | apply Kd.R_drew)); exact HO285.out) (Kd.R_base ho0) hb); have n2_ := Aside0.mk (Kd.S_elder' (by (with_reducible repeat (first | apply Kd.S_alloc | apply Kd.S_drewN | apply Kd.S_drew)); exact HO287.out) (Kd.S_base ho1) hb); have n3_ := Aside0.mk (Kd.R_lower (Kd.R_new' ho0 (Kd.R_lt (by (with_reducible repeat (first | apply Kd.R_alloc | apply Kd.R_drewN | apply Kd.R_drew)); exact HO285.out))) (below_size (by repeat (first | (with_reducible first | exact HB.out | apply below_alloc | apply pw_below_drewN | apply below_drew1) | exact HB.out)))); have n4_ := Aside0.mk (Kd.S_lower (Kd.S_new' (Kd.S_new' ho1 (Kd.S_lt (by (with_reducible repeat (first | apply Kd.S_alloc | apply Kd.S_drewN | apply Kd.S_drew)); exact HO_9.out))) (Kd.S_lt (by (with_reducible repeat (first | apply Kd.S_alloc | apply Kd.S_drewN | apply Kd.S_drew)); exact HO287.out))) (below_size (by repeat (first | (with_reducible first | exact HB.out | apply below_alloc | apply pw_below_drewN | apply below_drew1) | exact HB.out)))); have n5_ := Aside0.mk (below_step (by repeat (first | (with_reducible first | exact HB.out | apply below_alloc | apply pw_below_drewN | apply below_drew1) | exact HB.out)) hb); clear HO_9; clear HO285; clear HO287; clear HB; have HO_9 := n0_; have HO285 := n1_; have HO287 := n2_; have HO292 := n3_; have HO294 := n4_; have HB := n5_; clear n0_ n1_ n2_ n3_ n4_ n5_; (try clear hb); (try clear hb2); (try clear hk); (try clear hi); (try clear ho0); (try clear ho1); obtain ⟨Ao35, co35, eo35⟩ := Kd.R_slice HO292.out; subst eo35; obtain ⟨Ao36, co36, eo36⟩ := Kd.S_slice HO294.out; subst eo36) | (go_at_call 17; (with_reducible refine (ashlarref09_Good.calls k1 _ _ x9_1 (wrap64 (1 + (Int.tmod (Go.bits .and .i64 a1 65535) 5))) t288 _ _ t289 _ _ t290 t295 _ ?side1 ?side2 ?side3 ?side4 ?side5 ?side6 A31.out).mono ?_); (case side1 => repeat (first | exact (Kd.S_reads' HO_9.out).2.2 | (with_reducible refine Kd.C_alloc ?_ _) | (with_reducible refine Kd.C_drewN ?_ _) | (with_reducible refine Kd.C_drew ?_))); (case side2 => exact (Kd.S_reads' HO_9.out).2.1); (case side3 => repeat (first | exact (Kd.R_reads' HO292.out).2.2 | (with_reducible refine Kd.C_alloc ?_ _) | (with_reducible refine Kd.C_drewN ?_ _) | (with_reducible refine Kd.C_drew ?_))); (case side4 => exact (Kd.R_reads' HO292.out).2.1); (case side5 => repeat (first | exact (Kd.S_reads' HO294.out).2.2 | (with_reducible refine Kd.C_alloc ?_ _) | (with_reducible refine Kd.C_drewN ?_ _) | (with_reducible refine Kd.C_drew ?_))); (case side6 => exact (Kd.S_reads' HO294.out).2.1); rintro e w37 ⟨rfl, hb⟩; have n0_ := Aside0.mk (Kd.S_below (by (with_reducible repeat (first | apply Kd.S_alloc | apply Kd.S_drewN | apply Kd.S_drew)); exact HO_9.out) hb); have n1_ := Aside0.mk (Kd.R_below (by (with_reducible repeat (first | apply Kd.R_alloc | apply Kd.R_drewN | apply Kd.R_drew)); exact HO285.out) hb); have n2_ := Aside0.mk (Kd.S_below (by (with_reducible repeat (first | apply Kd.S_alloc | apply Kd.S_drewN | apply Kd.S_drew)); exact HO287.out) hb); have n3_ := Aside0.mk (Kd.R_below (by (with_reducible repeat (first | apply Kd.R_alloc | apply Kd.R_drewN | apply Kd.R_drew)); exact HO292.out) hb); have n4_ := Aside0.mk (Kd.S_below (by (with_reducible repeat (first | apply Kd.S_alloc | apply Kd.S_drewN | apply Kd.S_drew)); exact HO294.out) hb); have n5_ := Aside0.mk (below_step (by repeat (first | (with_reducible first | exact HB.out | apply below_alloc | apply pw_below_drewN | apply below_drew1) | exact HB.out)) hb); clear HO_9; clear HO285; clear HO287; clear HO292; clear HO294; clear HB; have HO_9 := n0_; have HO285 := n1_; have HO287 := n2_; have HO292 := n3_; have HO294 := n4_; have HB := n5_; clear n0_ n1_ n2_ n3_ n4_ n5_; (try clear hb); (try clear hb2); (try clear hk); (try clear hi)))
        go_ret
        exact ⟨by first | rfl | (simp [errW_none, errW_some] <;> rfl) | (simp [*, errW_none, errW_some] <;> rfl), below_step HBA.out (by repeat (first | (with_reducible first | exact HB.out | apply below_alloc | apply pw_below_drewN | apply below_drew1) | exact HB.out))⟩
       ·rw [if_neg c30] at H
        have c30b0 : (t281 == t288) = false := beq_eq_false_iff_ne.mpr c30
        have c30b1 : (t281 != t288) = true := bne_iff_ne.mpr c30
        obtain rfl := Option.some.inj H
        obtain ⟨Ao38, co38, eo38⟩ := Kd.S_slice HO_9.out
        subst eo38
        go_wp2_with (first | ((with_reducible refine gate_callee (f := 14) rfl ?_); refine goesL_ (some 91) rfl rfl Try.func14 (by kernel_rfl) rfl #[.slice A0 l0.length c0, .int .i64 (wrap64 (1 + (Int.tmod (Go.bits .and .i64 a1 65535) 5))), .int .i64 243] rfl (by (try simp only [List.map_toArray, List.map_cons, List.map_nil]); first | done | rfl | (simp only [List.length_drop, List.length_take]; rfl)) ?_; (with_reducible refine (sat_Solve.calls k1 _ _ l0 (wrap64 (1 + (Int.tmod (Go.bits .and .i64 a1 65535) 5))) 243 t281 t282 t283 _ ?side1 ?side2 A27.out).mono ?_); (case side1 => repeat (first | exact (Kd.C_below HR0.out HB.out) | (with_reducible refine Kd.C_alloc ?_ _) | (with_reducible refine Kd.C_drewN ?_ _) | (with_reducible refine Kd.C_drew ?_))); (case side2 => exact HC0.out); rintro e w39 ⟨v284, v286, rfl, ho0, ho1, hb⟩; refine ⟨_, rfl, ?_⟩; have n0_ := Aside0.mk (Kd.S_elder' (by (with_reducible repeat (first | apply Kd.S_alloc | apply Kd.S_drewN | apply Kd.S_drew)); exact HO_9.out) (Kd.S_base ho1) hb); have n1_ := Aside0.mk (Kd.R_lower ho0 (below_size (by repeat (first | (with_reducible first | exact HB.out | apply below_alloc | apply pw_below_drewN | apply below_drew1) | exact HB.out)))); have n2_ := Aside0.mk (Kd.S_lower (Kd.S_new' ho1 (Kd.S_lt (by (with_reducible repeat (first | apply Kd.S_alloc | apply Kd.S_drewN | apply Kd.S_drew)); exact HO_9.out))) (below_size (by repeat (first | (with_reducible first | exact HB.out | apply below_alloc | apply pw_below_drewN | apply below_drew1) | exact HB.out)))); have n3_ := Aside0.mk (below_step (by repeat (first | (with_reducible first | exact HB.out | apply below_alloc | apply pw_below_drewN | apply below_drew1) | exact HB.out)) hb); clear HO_9; clear HB; have HO_9 := n0_; have HO285 := n1_; have HO287 := n2_; have HB := n3_; clear n0_ n1_ n2_ n3_; (try clear hb); (try clear hb2); (try clear hk); (try clear hi); (try clear ho0); (try clear ho1)) | ((with_reducible refine gate_callee (f := 14) rfl ?_); refine goesL_ (some 98) rfl rfl Try.func14 (by kernel_rfl) rfl #[.slice Ao38 x9_1.length co38, .int .i64 (wrap64 (1 + (Int.tmod (Go.bits .and .i64 a1 65535) 5))), .int .i64 243] rfl (by (try simp only [List.map_toArray, List.map_cons, List.map_nil]); first | done | rfl | (simp only [List.length_drop, List.length_take]; rfl)) ?_; (with_reducible refine (sat_Solve.calls k1 _ _ x9_1 (wrap64 (1 + (Int.tmod (Go.bits .and .i64 a1 65535) 5))) 243 t288 t289 t290 _ ?side1 ?side2 A28.out).mono ?_); (case side1 => repeat (first | exact (Kd.S_reads' HO_9.out).2.2 | (with_reducible refine Kd.C_alloc ?_ _) | (with_reducible refine Kd.C_drewN ?_ _) | (with_reducible refine Kd.C_drew ?_))); (case side2 => exact (Kd.S_reads' HO_9.out).2.1); rintro e w40 ⟨v291, v293, rfl, ho0, ho1, hb⟩; refine ⟨_, rfl, ?_⟩; have n0_ := Aside0.mk (Kd.S_elder' (by (with_reducible repeat (first | apply Kd.S_alloc | apply Kd.S_drewN | apply Kd.S_drew)); exact HO_9.out) (Kd.S_base ho1) hb); have n1_ := Aside0.mk (Kd.R_elder' (by (with_reducible repeat (first | apply Kd.R_alloc | apply Kd.R_drewN | apply Kd.R_drew)); exact HO285.out) (Kd.R_base ho0) hb); have n2_ := Aside0.mk (Kd.S_elder' (by (with_reducible repeat (first | apply Kd.S_alloc | apply Kd.S_drewN | apply Kd.S_drew)); exact HO287.out) (Kd.S_base ho1) hb); have n3_ := Aside0.mk (Kd.R_lower (Kd.R_new' ho0 (Kd.R_lt (by (with_reducible repeat (first | apply Kd.R_alloc | apply Kd.R_drewN | apply Kd.R_drew)); exact HO285.out))) (below_size (by repeat (first | (with_reducible first | exact HB.out | apply below_alloc | apply pw_below_drewN | apply below_drew1) | exact HB.out)))); have n4_ := Aside0.mk (Kd.S_lower (Kd.S_new' (Kd.S_new' ho1 (Kd.S_lt (by (with_reducible repeat (first | apply Kd.S_alloc | apply Kd.S_drewN | apply Kd.S_drew)); exact HO_9.out))) (Kd.S_lt (by (with_reducible repeat (first | apply Kd.S_alloc | apply Kd.S_drewN | apply Kd.S_drew)); exact HO287.out))) (below_size (by repeat (first | (with_reducible first | exact HB.out | apply below_alloc | apply pw_below_drewN | apply below_drew1) | exact HB.out)))); have n5_ := Aside0.mk (below_step (by repeat (first | (with_reducible first | exact HB.out | apply below_alloc | apply pw_below_drewN | apply below_drew1) | exact HB.out)) hb); clear HO_9; clear HO285; clear HO287; clear HB; have HO_9 := n0_; have HO285 := n1_; have HO287 := n2_; have HO292 := n3_; have HO294 := n4_; have HB := n5_; clear n0_ n1_ n2_ n3_ n4_ n5_; (try clear hb); (try clear hb2); (try clear hk); (try clear hi); (try clear ho0); (try clear ho1)))
        go_ret
        exact ⟨by first | rfl | (simp [errW_none, errW_some] <;> rfl) | (simp [*, errW_none, errW_some] <;> rfl), below_step HBA.out (by repeat (first | (with_reducible first | exact HB.out | apply below_alloc | apply pw_below_drewN | apply below_drew1) | exact HB.out))⟩
      ·replace c29 := Bool.eq_false_iff.mpr c29
       subst c29
       have H1 : (some false) = some r := by rw [if_neg (show ¬ (false = true) by decide)] at H; exact H
       clear H
       have H := H1
       clear H1
       obtain rfl := Option.some.inj H
       obtain ⟨Ao41, co41, eo41⟩ := Kd.S_slice HO_9.out
       subst eo41
       go_wp2_with (first | ((with_reducible refine gate_callee (f := 14) rfl ?_); refine goesL_ (some 91) rfl rfl Try.func14 (by kernel_rfl) rfl #[.slice A0 l0.length c0, .int .i64 (wrap64 (1 + (Int.tmod (Go.bits .and .i64 a1 65535) 5))), .int .i64 243] rfl (by (try simp only [List.map_toArray, List.map_cons, List.map_nil]); first | done | rfl | (simp only [List.length_drop, List.length_take]; rfl)) ?_; (with_reducible refine (sat_Solve.calls k1 _ _ l0 (wrap64 (1 + (Int.tmod (Go.bits .and .i64 a1 65535) 5))) 243 t281 t282 t283 _ ?side1 ?side2 A27.out).mono ?_); (case side1 => repeat (first | exact (Kd.C_below HR0.out HB.out) | (with_reducible refine Kd.C_alloc ?_ _) | (with_reducible refine Kd.C_drewN ?_ _) | (with_reducible refine Kd.C_drew ?_))); (case side2 => exact HC0.out); rintro e w42 ⟨v284, v286, rfl, ho0, ho1, hb⟩; refine ⟨_, rfl, ?_⟩; have n0_ := Aside0.mk (Kd.S_elder' (by (with_reducible repeat (first | apply Kd.S_alloc | apply Kd.S_drewN | apply Kd.S_drew)); exact HO_9.out) (Kd.S_base ho1) hb); have n1_ := Aside0.mk (Kd.R_lower ho0 (below_size (by repeat (first | (with_reducible first | exact HB.out | apply below_alloc | apply pw_below_drewN | apply below_drew1) | exact HB.out)))); have n2_ := Aside0.mk (Kd.S_lower (Kd.S_new' ho1 (Kd.S_lt (by (with_reducible repeat (first | apply Kd.S_alloc | apply Kd.S_drewN | apply Kd.S_drew)); exact HO_9.out))) (below_size (by repeat (first | (with_reducible first | exact HB.out | apply below_alloc | apply pw_below_drewN | apply below_drew1) | exact HB.out)))); have n3_ := Aside0.mk (below_step (by repeat (first | (with_reducible first | exact HB.out | apply below_alloc | apply pw_below_drewN | apply below_drew1) | exact HB.out)) hb); clear HO_9; clear HB; have HO_9 := n0_; have HO285 := n1_; have HO287 := n2_; have HB := n3_; clear n0_ n1_ n2_ n3_; (try clear hb); (try clear hb2); (try clear hk); (try clear hi); (try clear ho0); (try clear ho1)) | ((with_reducible refine gate_callee (f := 14) rfl ?_); refine goesL_ (some 98) rfl rfl Try.func14 (by kernel_rfl) rfl #[.slice Ao41 x9_1.length co41, .int .i64 (wrap64 (1 + (Int.tmod (Go.bits .and .i64 a1 65535) 5))), .int .i64 243] rfl (by (try simp only [List.map_toArray, List.map_cons, List.map_nil]); first | done | rfl | (simp only [List.length_drop, List.length_take]; rfl)) ?_; (with_reducible refine (sat_Solve.calls k1 _ _ x9_1 (wrap64 (1 + (Int.tmod (Go.bits .and .i64 a1 65535) 5))) 243 t288 t289 t290 _ ?side1 ?side2 A28.out).mono ?_); (case side1 => repeat (first | exact (Kd.S_reads' HO_9.out).2.2 | (with_reducible refine Kd.C_alloc ?_ _) | (with_reducible refine Kd.C_drewN ?_ _) | (with_reducible refine Kd.C_drew ?_))); (case side2 => exact (Kd.S_reads' HO_9.out).2.1); rintro e w43 ⟨v291, v293, rfl, ho0, ho1, hb⟩; refine ⟨_, rfl, ?_⟩; have n0_ := Aside0.mk (Kd.S_elder' (by (with_reducible repeat (first | apply Kd.S_alloc | apply Kd.S_drewN | apply Kd.S_drew)); exact HO_9.out) (Kd.S_base ho1) hb); have n1_ := Aside0.mk (Kd.R_elder' (by (with_reducible repeat (first | apply Kd.R_alloc | apply Kd.R_drewN | apply Kd.R_drew)); exact HO285.out) (Kd.R_base ho0) hb); have n2_ := Aside0.mk (Kd.S_elder' (by (with_reducible repeat (first | apply Kd.S_alloc | apply Kd.S_drewN | apply Kd.S_drew)); exact HO287.out) (Kd.S_base ho1) hb); have n3_ := Aside0.mk (Kd.R_lower (Kd.R_new' ho0 (Kd.R_lt (by (with_reducible repeat (first | apply Kd.R_alloc | apply Kd.R_drewN | apply Kd.R_drew)); exact HO285.out))) (below_size (by repeat (first | (with_reducible first | exact HB.out | apply below_alloc | apply pw_below_drewN | apply below_drew1) | exact HB.out)))); have n4_ := Aside0.mk (Kd.S_lower (Kd.S_new' (Kd.S_new' ho1 (Kd.S_lt (by (with_reducible repeat (first | apply Kd.S_alloc | apply Kd.S_drewN | apply Kd.S_drew)); exact HO_9.out))) (Kd.S_lt (by (with_reducible repeat (first | apply Kd.S_alloc | apply Kd.S_drewN | apply Kd.S_drew)); exact HO287.out))) (below_size (by repeat (first | (with_reducible first | exact HB.out | apply below_alloc | apply pw_below_drewN | apply below_drew1) | exact HB.out)))); have n5_ := Aside0.mk (below_step (by repeat (first | (with_reducible first | exact HB.out | apply below_alloc | apply pw_below_drewN | apply below_drew1) | exact HB.out)) hb); clear HO_9; clear HO285; clear HO287; clear HB; have HO_9 := n0_; have HO285 := n1_; have HO287 := n2_; have HO292 := n3_; have HO294 := n4_; have HB := n5_; clear n0_ n1_ n2_ n3_ n4_ n5_; (try clear hb); (try clear hb2); (try clear hk); (try clear hi); (try clear ho0); (try clear ho1)))
       go_ret
       exact ⟨by first | rfl | (simp [errW_none, errW_some] <;> rfl) | (simp [*, errW_none, errW_some] <;> rfl), below_step HBA.out (by repeat (first | (with_reducible first | exact HB.out | apply below_alloc | apply pw_below_drewN | apply below_drew1) | exact HB.out))⟩
 ·replace c6 := Bool.eq_false_iff.mpr c6
  subst c6
  have H1 : (some t276) = some r := by rw [if_neg (show ¬ (false = true) by decide)] at H; exact H
  clear H
  have H := H1
  clear H1
  obtain rfl := Option.some.inj H
  go_enter Try.func7, Try.ntmps7
  go_wp2_with (first | ((with_reducible refine gate_callee (f := 12) rfl ?_); refine goesL_ (some 18) rfl rfl Try.func12 (by kernel_rfl) rfl #[] rfl (by (try simp only [List.map_toArray, List.map_cons, List.map_nil]); first | done | rfl | (simp only [List.length_drop, List.length_take]; rfl)) ?_; (with_reducible refine (ashlarlaw09_shown.calls k  t276 _ A4.out).mono ?_); rintro e w44 ⟨rfl, hb⟩; refine ⟨_, rfl, ?_⟩; have n0_ := Aside0.mk (below_step (by repeat (first | (with_reducible first | exact HBA.out | apply below_alloc | apply pw_below_drewN | apply below_drew1) | exact HBA.out)) hb); clear HBA; have HBA := n0_; clear n0_; (try clear hb); (try clear hb2); (try clear hk); (try clear hi)) | ((with_reducible refine gate_callee (f := 13) rfl ?_); refine goesL_ (some 20) rfl rfl Try.func13 (by kernel_rfl) rfl #[.slice AA lA.length cA] rfl (by (try simp only [List.map_toArray, List.map_cons, List.map_nil]); first | done | rfl | (simp only [List.length_drop, List.length_take]; rfl)) ?_; (with_reducible refine (ashlarlaw09_few.calls k _ _ lA l0 _ ?side1 ?side2 AF.out).mono ?_); (case side1 => repeat (first | exact (Kd.C_below HRA.out HBA.out) | (with_reducible refine Kd.C_alloc ?_ _) | (with_reducible refine Kd.C_drewN ?_ _) | (with_reducible refine Kd.C_drew ?_))); (case side2 => exact HCA.out); rintro e w ⟨vA, rfl, ho0, hb⟩; clear AF HRA HCA; obtain ⟨A0, c0, eA⟩ := Kd.S_slice ho0; subst eA; refine ⟨_, rfl, ?_⟩; have n0_ := Aside0.mk (below_step (by repeat (first | (with_reducible first | exact HBA.out | apply below_alloc | apply pw_below_drewN | apply below_drew1) | exact HBA.out)) hb); clear HBA; have HBA := n0_; clear n0_; have HR0 := Aside0.mk (Kd.S_reads' ho0).2.2; have HC0 := Aside0.mk (Kd.S_reads' ho0).2.1; have HB := Aside0.mk (Below.refl w.heap.size w); clear ho0 hb) | ((with_reducible refine gate_callee (f := 16) rfl ?_); refine goesL_ (some 27) rfl rfl Try.func16 (by kernel_rfl) rfl #[.slice A0 l0.length c0, .int .i64 (wrap64 (1 + (Int.tmod (Go.bits .and .i64 a1 65535) 5)))] rfl (by (try simp only [List.map_toArray, List.map_cons, List.map_nil]); first | done | rfl | (simp only [List.length_drop, List.length_take]; rfl)) ?_; (with_reducible refine (ashlarref09_Right.calls k _ _ l0 (wrap64 (1 + (Int.tmod (Go.bits .and .i64 a1 65535) 5))) false _ ?side1 ?side2 A5.out).mono ?_); (case side1 => repeat (first | exact (Kd.C_below HR0.out HB.out) | (with_reducible refine Kd.C_alloc ?_ _) | (with_reducible refine Kd.C_drewN ?_ _) | (with_reducible refine Kd.C_drew ?_))); (case side2 => exact HC0.out); rintro e w' ⟨rfl, ⟨nd, rfl⟩⟩; refine ⟨_, rfl, ?_⟩))
  go_ret
  exact ⟨by first | rfl | (simp [errW_none, errW_some] <;> rfl) | (simp [*, errW_none, errW_some] <;> rfl), below_step HBA.out (by repeat (first | (with_reducible first | exact HB.out | apply below_alloc | apply pw_below_drewN | apply below_drew1) | exact HB.out))⟩

end Go.Proofs.Ytmdjlhmifhnpdaa.Q
