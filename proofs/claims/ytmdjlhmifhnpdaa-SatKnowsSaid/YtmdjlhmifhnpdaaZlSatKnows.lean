/- Texts of this seat, joined by a program of this session (wip/tools/pack.py). -/
import Derived.Test.YtmdjlhmifhnpdaaProg
import Derived.Below
import Derived.Deep.Draws
import Derived.Deep.AppendLies
import Derived.Maps.AppendAt
import Derived.OwnWalk
import Derived.Laws.BytesArg
import Derived.Laws.MakeOwn
import Derived.Laws.OwnMore
import Derived.Deep.OwnRows
import Derived.Tactics
import Derived.Lib.ConvBytes
import Derived.Laws.Slices
import Derived.WalkKit
import Derived.KernelRfl
import Derived.RowKit3
import Derived.Deep.LoopGhost
import Derived.Deep.QuietTactic
import Derived.BigQuiet
import Derived.WideLaws
import Derived.Deep.DeepCutAuto
import Derived.Deep.CutBlock
import Derived.Deep.RegionHeld3
import Derived.Laws.Rows
import Derived.Lib.AppendStr
import Derived.ArgAppend
import Derived.Laws.IdiomCopy
import Derived.OrdersHeld
import Derived.Laws.BitsLemmas
import Derived.RowKit
import Derived.ScopeJumps
import Derived.WalkMore
import Derived.Laws.CopyOwn
import Derived.Deep.Slices
import Derived.WalkSpells
import Derived.Outline
import Derived.Test.YtmdjlhmifhnpdaaZd
import Derived.Test.YtmdjlhmifhnpdaaZc
import Derived.Test.YtmdjlhmifhnpdaaZw
import Derived.Test.YtmdjlhmifhnpdaaZf
import Derived.Test.YtmdjlhmifhnpdaaZq1
import Derived.Test.YtmdjlhmifhnpdaaZq2
import Derived.Test.YtmdjlhmifhnpdaaZq3
namespace Go.Proofs.Ytmdjlhmifhnpdaa.Q
open Go.RowKit Go.Proofs.YtmdjlhmifhnpdaaW.PrintWords Go.Proofs.YtmdjlhmifhnpdaaW.PrintLast Go.Proofs.YtmdjlhmifhnpdaaW.PrintMore
attribute [local go_sem] max2_int min2_int max_two min_two max_three min_three max_four min_four   -- for this text's walks alone
set_option linter.unusedVariables false
set_option linter.unusedSimpArgs false

/-! ### ashlarref09_Some: function 18 -/
mutual
def ashlarref09_Some.l0 : Nat → List (List Int) → Int → Int → Option (Bool)
 | 0, _, _, _ => none
 | k + 1, x0, x1, x5 => if 0 ≤ (IntKind.u64.wrap (x1)) then (if x5 < (shl .i64 1 (IntKind.u64.wrap (x1))) then (if 0 ≤ (wrap64 (x1 + 1)) then (if (wrap64 (x1 + 1) : Int).toNat ≤ 281474976710656 then (ashlarref09_Some.l1 k x0 x1 x5 (List.replicate (wrap64 (x1 + 1) : Int).toNat false) 1) else (none)) else (none)) else (some false)) else (none)
def ashlarref09_Some.l1 : Nat → List (List Int) → Int → Int → List Bool → Int → Option (Bool)
 | 0, _, _, _, _, _ => none
 | k + 1, x0, x1, x5, x6, x7 => if x7 ≤ x1 then (if 0 ≤ (IntKind.u64.wrap (wrap64 (x7 - 1))) then (if 0 ≤ x7 then (if x7 < (x6.length : Int) then (ashlarref09_Some.l1 k x0 x1 x5 (x6.set (x7 : Int).toNat ((Go.bits .and .i64 (shr .i64 x5 (IntKind.u64.wrap (wrap64 (x7 - 1)))) 1) == 1)) (wrap64 (x7 + 1))) else (none)) else (none)) else (none)) else ((ashlarref09_signs.f k x6).bind fun t304 => ((ashlarref08_Eval.f k x0 t304).bind fun t307 => (if t307 = 1 then (some true) else (ashlarref09_Some.l0 k x0 x1 (wrap64 (x5 + 1))))))
end
def ashlarref09_Some.f (k : Nat) (l0 : List (List Int)) (a1 : Int) : Option (Bool) := ashlarref09_Some.l0 k l0 a1 0
theorem ashlarref09_Some.mono_l : ∀ k, (∀ y0 y1 y2, LeO (ashlarref09_Some.l0 k y0 y1 y2) (ashlarref09_Some.l0 (k + 1) y0 y1 y2)) ∧ (∀ y0 y1 y2 y3 y4, LeO (ashlarref09_Some.l1 k y0 y1 y2 y3 y4) (ashlarref09_Some.l1 (k + 1) y0 y1 y2 y3 y4))
 | 0 => ⟨fun _ _ _ r h => by simp [ashlarref09_Some.l0] at h, fun _ _ _ _ _ r h => by simp [ashlarref09_Some.l1] at h⟩
 | k + 1 => by
  obtain ⟨ih0, ih1⟩ := ashlarref09_Some.mono_l k
  refine ⟨?_, ?_⟩
  ·intro y0 y1 y2
   unfold ashlarref09_Some.l0
   repeat' first
   | (with_reducible exact ih0 _ _ _)
   | (with_reducible exact ih1 _ _ _ _ _)
   | (with_reducible exact ashlarref08_Eval.mono _ _ _)
   | (with_reducible exact ashlarref09_signs.mono _ _)
   | (with_reducible exact LeO.refl _)
   | (with_reducible exact LeO.none _)
   | (with_reducible refine LeO.ite ?_ ?_)
   | (with_reducible refine LeO.bind ?_ (fun _ => ?_))
   | exact ih0 _ _ _
   | exact ih1 _ _ _ _ _
   | exact ashlarref08_Eval.mono _ _ _
   | exact ashlarref09_signs.mono _ _
   | exact LeO.none _
   | refine LeO.ite ?_ ?_
   | refine LeO.bind ?_ (fun _ => ?_)
  ·intro y0 y1 y2 y3 y4
   unfold ashlarref09_Some.l1
   repeat' first
   | (with_reducible exact ih0 _ _ _)
   | (with_reducible exact ih1 _ _ _ _ _)
   | (with_reducible exact ashlarref08_Eval.mono _ _ _)
   | (with_reducible exact ashlarref09_signs.mono _ _)
   | (with_reducible exact LeO.refl _)
   | (with_reducible exact LeO.none _)
   | (with_reducible refine LeO.ite ?_ ?_)
   | (with_reducible refine LeO.bind ?_ (fun _ => ?_))
   | exact ih0 _ _ _
   | exact ih1 _ _ _ _ _
   | exact ashlarref08_Eval.mono _ _ _
   | exact ashlarref09_signs.mono _ _
   | exact LeO.none _
   | refine LeO.ite ?_ ?_
   | refine LeO.bind ?_ (fun _ => ?_)
theorem ashlarref09_Some.mono : ∀ a0 a1 k, LeO (ashlarref09_Some.f k a0 a1) (ashlarref09_Some.f (k + 1) a0 a1) := by
 intro a0 a1 k
 obtain ⟨ih0, ih1⟩ := ashlarref09_Some.mono_l k
 unfold ashlarref09_Some.f
 repeat' first
   | (with_reducible exact ih0 _ _ _)
   | (with_reducible exact ih1 _ _ _ _ _)
   | (with_reducible exact ashlarref08_Eval.mono _ _ _)
   | (with_reducible exact ashlarref09_signs.mono _ _)
   | (with_reducible exact LeO.refl _)
   | (with_reducible exact LeO.none _)
   | (with_reducible refine LeO.ite ?_ ?_)
   | (with_reducible refine LeO.bind ?_ (fun _ => ?_))
   | exact ih0 _ _ _
   | exact ih1 _ _ _ _ _
   | exact ashlarref08_Eval.mono _ _ _
   | exact ashlarref09_signs.mono _ _
   | exact LeO.none _
   | refine LeO.ite ?_ ?_
   | refine LeO.bind ?_ (fun _ => ?_)
set_option maxHeartbeats 8000000 in
set_option maxRecDepth 100000 in
theorem ashlarref09_Some.calls (k : Nat) (A0 : Option Addr) (c0 : Nat) (l0 : List (List Int)) (a1 : Int) (r : Bool) (w : World) (hr0 : Kd.C (Kd.slice 3 (Kd.int .i64)) w A0 l0.length l0) (hc0 : l0.length ≤ c0) (h : ashlarref09_Some.f k l0 a1 = some r) :
  Calls Try.prog 18 #[.slice A0 l0.length c0, .int .i64 a1] w fun e w' => e = .returned (.bool r) ∧ Below w.heap.size w w' := by
 have HR0 := Aside0.mk hr0
 have HC0 := Aside0.mk hc0
 clear hr0 hc0
 have HB := Aside0.mk (Below.refl w.heap.size w)
 have H : (ashlarref09_Some.l0 k l0 a1 0) = some r := h
 clear h
 have H' := Aside0.mk H
 clear H
 go_enter Try.func18, Try.ntmps18
 go_wp2
 go_loopg [5] k (fun kq v5 w' => ∃ (x5_1 : Int), v5 = .int .i64 x5_1 ∧ Aside0 (ashlarref09_Some.l0 kq l0 a1 x5_1 = some r) ∧ Aside0 (kq ≤ k) ∧ Aside0 (Below w.heap.size w w'))
 case atStart => exact ⟨(0), (by first | rfl | (simp; done) | (simp [*]; done)), H', ⟨Nat.le_refl _⟩, ⟨by repeat (first | (with_reducible first | exact HB.out | apply below_alloc | apply pw_below_drewN | apply below_drew1) | exact HB.out)⟩⟩
 case round =>
  clear H'
  try clear c1
  try clear p2
  obtain ⟨x5_1, rfl, HA, HK1, HB⟩ := hrel
  cases gk with
  | zero => exact absurd HA.out (by simp [ashlarref09_Some.l0])
  | succ k1 =>
   have H := HA.out
   clear HA
   simp only [ashlarref09_Some.l0] at H
   obtain ⟨ji3, hji3⟩ : ∃ j_ : Int, (IntKind.u64.wrap (a1)) = j_ := ⟨_, rfl⟩
   replace H : (if 0 ≤ (ji3) then (if x5_1 < (shl .i64 1 (ji3)) then (if 0 ≤ (wrap64 (a1 + 1)) then (if (wrap64 (a1 + 1) : Int).toNat ≤ 281474976710656 then (ashlarref09_Some.l1 k1 l0 a1 x5_1 (List.replicate (wrap64 (a1 + 1) : Int).toNat false) 1) else (none)) else (none)) else (some false)) else (none)) = some r := by first | (rw [hji3] at H; exact H) | (simp only [hji3] at H ⊢; exact H)
   by_cases c4 : 0 ≤ (ji3)
   ·rw [if_pos c4] at H
    have c4b0 := eq_true c4
    have c4b1 : decide (0 ≤ (ji3)) = true := decide_eq_true c4
    clear c4
    obtain ⟨ji5, hji5⟩ : ∃ j_ : Int, (shl .i64 1 (ji3)) = j_ := ⟨_, rfl⟩
    replace H : (if x5_1 < (ji5) then (if 0 ≤ (wrap64 (a1 + 1)) then (if (wrap64 (a1 + 1) : Int).toNat ≤ 281474976710656 then (ashlarref09_Some.l1 k1 l0 a1 x5_1 (List.replicate (wrap64 (a1 + 1) : Int).toNat false) 1) else (none)) else (none)) else (some false)) = some r := by first | (rw [hji5] at H; exact H) | (simp only [hji5] at H ⊢; exact H)
    have hji5_ : (IntKind.i64.wrap (1 * 2 ^ min (ji3).toNat 64)) = ji5 := hji5
    have hji5z : (ji3) ≤ 64 → (IntKind.i64.wrap (1 * 2 ^ (ji3).toNat)) = ji5 := shl_small hji5
    have hji5u : (IntKind.i64.wrap (2 ^ min (ji3).toNat 64)) = ji5 := by have h_ := hji5_; rw [Int.one_mul] at h_; exact h_
    have hji5v : (ji3) ≤ 64 → (IntKind.i64.wrap (2 ^ (ji3).toNat)) = ji5 := fun hle_ => by have h_ := hji5z hle_; rw [Int.one_mul] at h_; exact h_
    have hji5y : (wrap64 (1 * 2 ^ min (ji3).toNat 64)) = ji5 := (i64_w _).symm.trans hji5_
    have hji5x : (ji3) ≤ 64 → (wrap64 (1 * 2 ^ (ji3).toNat)) = ji5 := fun h_ => (i64_w _).symm.trans (hji5z h_)
    by_cases c6 : x5_1 < (ji5)
    ·rw [if_pos c6] at H
     have c6b0 : decide (x5_1 < (ji5)) = true := decide_eq_true c6
     clear c6
     obtain ⟨ji7, hji7⟩ : ∃ j_ : Int, (wrap64 (a1 + 1)) = j_ := ⟨_, rfl⟩
     replace H : (if 0 ≤ (ji7) then (if (ji7 : Int).toNat ≤ 281474976710656 then (ashlarref09_Some.l1 k1 l0 a1 x5_1 (List.replicate (ji7 : Int).toNat false) 1) else (none)) else (none)) = some r := by first | (rw [hji7] at H; exact H) | (simp only [hji7] at H ⊢; exact H)
     have hji7w : (IntKind.i64.wrap (a1 + 1)) = ji7 := (i64_w _).trans hji7
     by_cases c8 : 0 ≤ (ji7)
     ·rw [if_pos c8] at H
      have c8b0 := eq_true c8
      have c8b1 : decide (0 ≤ (ji7)) = true := decide_eq_true c8
      clear c8
      by_cases c9 : (ji7 : Int).toNat ≤ 281474976710656
      ·rw [if_pos c9] at H
       have c9b0 := eq_true c9
       have c9b1 : decide ((ji7 : Int).toNat ≤ 281474976710656) = true := decide_eq_true c9
       clear c9
       obtain ⟨y300, hy300⟩ : ∃ y_ : List Bool, y_ = (List.replicate (ji7 : Int).toNat false) := ⟨_, rfl⟩
       replace H : (ashlarref09_Some.l1 k1 l0 a1 x5_1 y300 1) = some r := by first | (rw [hy300]; with_reducible exact H) | (have H2_ := (Option.bind_some _ _).symm.trans H; rw [hy300]; with_reducible exact H2_) | (have H2_ := (Option.bind_some _ _).symm.trans H; with_reducible exact H2_) | with_reducible exact H | (rw [hy300]; exact H) | exact H
       have Ny300 := Aside0.mk hy300
       clear hy300
       have H' := Aside0.mk H
       clear H
       go_wp2_with (first | ((with_reducible refine gate_dst (N := 17) rfl ?_); refine Kd.R_make Kd.bool _ 4 rfl (N := 17) rfl 25 _ _ rfl ji7 rfl rfl Try.underlying25 (.bool false) 1 info4 rfl (by decide) (by omega) false (ok := fun _ => True) (okp := fun _ => True) rfl (fun _ hk => hk) trivial (of_decide_eq_true (by first | (with_reducible assumption) | assumption)) (Nat.le_trans (Nat.mul_le_mul_right _ (of_decide_eq_true (by first | (with_reducible assumption) | assumption) : ji7.toNat ≤ 281474976710656)) (by omega)) (Below.refl _ _) (Nat.le_refl _) ?_; intro v301 w10 ho11 hb hg_ hnew_; clear hg_ hnew_; (first | rw [← Ny300.out] at ho11 | (simp only [Int.reduceToNat] at ho11; rw [← Ny300.out] at ho11)); have n0_ := Aside0.mk (Kd.R_lower ho11 (below_size (by repeat (first | (with_reducible first | exact HB.out | apply below_alloc | apply pw_below_drewN | apply below_drew1) | exact HB.out)))); have n1_ := Aside0.mk (below_step (by repeat (first | (with_reducible first | exact HB.out | apply below_alloc | apply pw_below_drewN | apply below_drew1) | exact HB.out)) hb); clear HB; have HO302 := n0_; have HB := n1_; clear n0_ n1_; clear hb ho11))
       go_loopg [7] k1 (fun kq v7 w' => ∃ (x6_2 : List Bool) (x7_2 : Int), v7 = .int .i64 x7_2 ∧ Aside0 (ashlarref09_Some.l1 kq l0 a1 x5_1 x6_2 x7_2 = some r) ∧ Aside0 (kq ≤ k1) ∧ Aside0 (Kd.R Kd.bool 4 w' w.heap.size (fun _ => True) v301 x6_2) ∧ Aside0 (Below w.heap.size w w'))
       case atStart => exact ⟨(y300), (1), (by first | rfl | (simp; done) | (simp [*]; done)), H', ⟨Nat.le_refl _⟩, ⟨by (with_reducible repeat (first | apply Kd.R_alloc | apply Kd.R_drewN | apply Kd.R_drew)); exact HO302.out⟩, ⟨by repeat (first | (with_reducible first | exact HB.out | apply below_alloc | apply pw_below_drewN | apply below_drew1) | exact HB.out)⟩⟩
       case round =>
        clear H'
        try clear c1
        try clear p2
        try clear c4
        try clear c4b0
        try clear c4b1
        try clear c6
        try clear c6b0
        try clear p6
        try clear c8
        try clear c8b0
        try clear c8b1
        try clear c9
        try clear c9b0
        try clear c9b1
        try clear p2
        obtain ⟨x6_2, x7_2, rfl, HA, HK2, HO_6, HB⟩ := hrel
        cases gk with
        | zero => exact absurd HA.out (by simp [ashlarref09_Some.l1])
        | succ k2 =>
         have H := HA.out
         clear HA
         simp only [ashlarref09_Some.l1] at H
         by_cases c12 : x7_2 ≤ a1
         ·rw [if_pos c12] at H
          have c12b0 : decide (x7_2 ≤ a1) = true := decide_eq_true c12
          clear c12
          obtain ⟨ji13, hji13⟩ : ∃ j_ : Int, (IntKind.u64.wrap (wrap64 (x7_2 - 1))) = j_ := ⟨_, rfl⟩
          replace H : (if 0 ≤ (ji13) then (if 0 ≤ x7_2 then (if x7_2 < (x6_2.length : Int) then (ashlarref09_Some.l1 k2 l0 a1 x5_1 (x6_2.set (x7_2 : Int).toNat ((Go.bits .and .i64 (shr .i64 x5_1 (ji13)) 1) == 1)) (wrap64 (x7_2 + 1))) else (none)) else (none)) else (none)) = some r := by first | (rw [hji13] at H; exact H) | (simp only [hji13] at H ⊢; exact H)
          by_cases c14 : 0 ≤ (ji13)
          ·rw [if_pos c14] at H
           have c14b0 := eq_true c14
           have c14b1 : decide (0 ≤ (ji13)) = true := decide_eq_true c14
           clear c14
           obtain ⟨ji15, hji15⟩ : ∃ j_ : Int, (shr .i64 x5_1 (ji13)) = j_ := ⟨_, rfl⟩
           replace H : (if 0 ≤ x7_2 then (if x7_2 < (x6_2.length : Int) then (ashlarref09_Some.l1 k2 l0 a1 x5_1 (x6_2.set (x7_2 : Int).toNat ((Go.bits .and .i64 (ji15) 1) == 1)) (wrap64 (x7_2 + 1))) else (none)) else (none)) = some r := by first | (rw [hji15] at H; exact H) | (simp only [hji15] at H ⊢; exact H)
           have hji15_ : (x5_1 / 2 ^ min (ji13).toNat 64) = ji15 := hji15
           have hji15z : (ji13) ≤ 64 → (x5_1 / 2 ^ (ji13).toNat) = ji15 := shr_small hji15
           by_cases c16 : 0 ≤ x7_2
           ·rw [if_pos c16] at H
            have c16b0 : decide (0 ≤ x7_2) = true := decide_eq_true c16
            clear c16
            by_cases c17 : x7_2 < (x6_2.length : Int)
            ·rw [if_pos c17] at H
             have c17b0 : decide (x7_2 < (x6_2.length : Int)) = true := decide_eq_true c17
             clear c17
             obtain ⟨y303, hy303⟩ : ∃ y_ : List Bool, y_ = (x6_2.set (x7_2 : Int).toNat ((Go.bits .and .i64 (ji15) 1) == 1)) := ⟨_, rfl⟩
             replace H : (ashlarref09_Some.l1 k2 l0 a1 x5_1 y303 (wrap64 (x7_2 + 1))) = some r := by first | (rw [hy303]; with_reducible exact H) | (have H2_ := (Option.bind_some _ _).symm.trans H; rw [hy303]; with_reducible exact H2_) | (have H2_ := (Option.bind_some _ _).symm.trans H; with_reducible exact H2_) | with_reducible exact H | (rw [hy303]; exact H) | exact H
             have Ny303 := Aside0.mk hy303
             clear hy303
             have H' := Aside0.mk H
             clear H
             have p18 : 0 ≤ (x7_2 : Int) := of_decide_eq_true (by first | (with_reducible assumption) | assumption)
             have q18 : (x7_2 : Int) < ((x6_2.length : Int) : Int) := of_decide_eq_true (by first | (with_reducible assumption) | assumption)
             obtain ⟨go18, co18, eo18, gb18, gl18, cl18, HG18⟩ := Kd.R_form HO_6.out (by omega)
             (first | cases eo18 | (injection eo18 with ea_ en_ ec_; (first | subst ea_ | (injection ea_ with ea_; subst ea_)); subst ec_; clear en_))
             have GB18 := Aside0.mk gb18
             have GG18 := Aside0.mk HG18
             clear gb18 gl18 HG18
             obtain ⟨hx18_0, hf18_0⟩ := Kd.R_celln false HO_6.out (x7_2 : Int) p18 q18
             replace p18 := eq_true p18
             replace q18 := eq_true q18
             have HP19 := Kd.R_putg HO_6.out (x7_2 : Int) ((Go.bits .and .i64 (ji15) 1) == 1)
             go_wp2_with (first | ((with_reducible refine gate_store (t := 4) (p := 32) rfl ?_); refine store_event (t := 4) (p := 32) (v := ?vo_w20) (w1 := (wr.setCell ⟨go18, (x7_2 : Int).toNat, none⟩ (.bool ((Go.bits .and .i64 (ji15) 1) == 1)))) ?hg ?ho ?hn ?hr ?_; (case ho => rfl); (case hg => rfl); (case hn => rfl); (case hr => first | (go_simp; done) | (go_simp; rfl)); intro w20 hw; have hg : wr.grownBy w20 (some go18) := (by rw [hw]; exact HP19.2); have hp_ : Kd.R Kd.bool 4 w20 w.heap.size (fun _ => True) (.slice (some ⟨go18, 0, none⟩) x6_2.length co18) y303 := (by rw [hw, Ny303.out]; exact HP19.1); clear HP19; have n0_ := Aside0.mk (hp_); have n1_ := Aside0.mk ((by rw [hw]; exact below_set (HB.out) GB18.out : Below w.heap.size w w20)); clear HO_6; clear HB; have HO_6 := n0_; have HB := n1_; clear n0_ n1_; clear hg hw hp_))
             go_roundg k2
             case measure => have := HK1.out; have := HK2.out; omega
             case rel => exact ⟨(y303), (wrap64 (x7_2 + 1)), (by first | rfl | (simp; done) | (simp [*]; done)), H', ⟨by have := HK1.out; have := HK2.out; omega⟩, ⟨by (with_reducible repeat (first | apply Kd.R_alloc | apply Kd.R_drewN | apply Kd.R_drew)); exact HO_6.out⟩, ⟨by repeat (first | (with_reducible first | exact HB.out | apply below_alloc | apply pw_below_drewN | apply below_drew1) | exact HB.out)⟩⟩
            ·rw [if_neg c17] at H
             exact absurd H (by simp)
           ·rw [if_neg c16] at H
            exact absurd H (by simp)
          ·rw [if_neg c14] at H
           exact absurd H (by simp)
         ·rw [if_neg c12] at H
          have c12b0 : decide (x7_2 ≤ a1) = false := decide_eq_false c12
          clear c12
          replace H := Option.bind_eq_some_iff.mp H
          obtain ⟨t304, A210, H⟩ := H
          replace H : ((ashlarref08_Eval.f k2 l0 t304).bind fun t307 => (if t307 = 1 then (some true) else (ashlarref09_Some.l0 k2 l0 a1 (wrap64 (x5_1 + 1))))) = some r := H
          have A21 := Aside0.mk A210
          clear A210
          replace H := Option.bind_eq_some_iff.mp H
          obtain ⟨t307, A220, H⟩ := H
          replace H : (if t307 = 1 then (some true) else (ashlarref09_Some.l0 k2 l0 a1 (wrap64 (x5_1 + 1)))) = some r := H
          have A22 := Aside0.mk A220
          clear A220
          by_cases c23 : t307 = 1
          ·rw [if_pos c23] at H
           have c23b0 : (t307 == 1) = true := beq_iff_eq.mpr c23
           have c23b1 : (t307 != 1) = false := bne_eq_false_iff_eq.mpr c23
           clear c23
           obtain rfl := Option.some.inj H
           obtain ⟨Ao24, co24, eo24⟩ := Kd.R_slice HO_6.out
           subst eo24
           go_wp2_with (first | ((with_reducible refine gate_callee (f := 31) rfl ?_); refine goesL_ (some 35) rfl rfl Try.func31 (by kernel_rfl) rfl #[.slice Ao24 x6_2.length co24] rfl (by (try simp only [List.map_toArray, List.map_cons, List.map_nil]); first | done | rfl | (simp only [List.length_drop, List.length_take]; rfl)) ?_; (with_reducible refine (ashlarref09_signs.calls k2 _ _ x6_2 t304 _ ?side1 ?side2 A21.out).mono ?_); (case side1 => repeat (first | exact (Kd.R_reads' HO_6.out).2.2 | (with_reducible refine Kd.C_alloc ?_ _) | (with_reducible refine Kd.C_drewN ?_ _) | (with_reducible refine Kd.C_drew ?_))); (case side2 => exact (Kd.R_reads' HO_6.out).2.1); rintro e w25 ⟨v305, rfl, ho0, hb⟩; refine ⟨_, rfl, ?_⟩; have n0_ := Aside0.mk (Kd.R_below (by (with_reducible repeat (first | apply Kd.R_alloc | apply Kd.R_drewN | apply Kd.R_drew)); exact HO_6.out) hb); have n1_ := Aside0.mk (Kd.R_lower ho0 (below_size (by repeat (first | (with_reducible first | exact HB.out | apply below_alloc | apply pw_below_drewN | apply below_drew1) | exact HB.out)))); have n2_ := Aside0.mk (below_step (by repeat (first | (with_reducible first | exact HB.out | apply below_alloc | apply pw_below_drewN | apply below_drew1) | exact HB.out)) hb); clear HO_6; clear HB; have HO_6 := n0_; have HO306 := n1_; have HB := n2_; clear n0_ n1_ n2_; (try clear hb); (try clear hb2); (try clear hk); (try clear hi); (try clear ho0); obtain ⟨Ao26, co26, eo26⟩ := Kd.R_slice HO306.out; subst eo26) | ((with_reducible refine gate_callee (f := 30) rfl ?_); refine goesL_ (some 36) rfl rfl Try.func30 (by kernel_rfl) rfl #[.slice A0 l0.length c0, .slice Ao26 t304.length co26] rfl (by (try simp only [List.map_toArray, List.map_cons, List.map_nil]); first | done | rfl | (simp only [List.length_drop, List.length_take]; rfl)) ?_; (with_reducible refine (ashlarref08_Eval.calls k2 _ _ l0 _ _ t304 t307 _ ?side1 ?side2 ?side3 ?side4 A22.out).mono ?_); (case side1 => repeat (first | exact (Kd.C_below HR0.out HB.out) | (with_reducible refine Kd.C_alloc ?_ _) | (with_reducible refine Kd.C_drewN ?_ _) | (with_reducible refine Kd.C_drew ?_))); (case side2 => exact HC0.out); (case side3 => repeat (first | exact (Kd.R_reads' HO306.out).2.2 | (with_reducible refine Kd.C_alloc ?_ _) | (with_reducible refine Kd.C_drewN ?_ _) | (with_reducible refine Kd.C_drew ?_))); (case side4 => exact (Kd.R_reads' HO306.out).2.1); rintro e w27 ⟨rfl, hb⟩; refine ⟨_, rfl, ?_⟩; have n0_ := Aside0.mk (Kd.R_below (by (with_reducible repeat (first | apply Kd.R_alloc | apply Kd.R_drewN | apply Kd.R_drew)); exact HO_6.out) hb); have n1_ := Aside0.mk (Kd.R_below (by (with_reducible repeat (first | apply Kd.R_alloc | apply Kd.R_drewN | apply Kd.R_drew)); exact HO306.out) hb); have n2_ := Aside0.mk (below_step (by repeat (first | (with_reducible first | exact HB.out | apply below_alloc | apply pw_below_drewN | apply below_drew1) | exact HB.out)) hb); clear HO_6; clear HO306; clear HB; have HO_6 := n0_; have HO306 := n1_; have HB := n2_; clear n0_ n1_ n2_; (try clear hb); (try clear hb2); (try clear hk); (try clear hi)))
           go_ret
           exact ⟨by first | rfl | (simp [errW_none, errW_some] <;> rfl) | (simp only [← hji3, ← hji5, ← hji7]; first | rfl | (simp [errW_none, errW_some] <;> rfl)) | (simp [*, errW_none, errW_some] <;> rfl), by repeat (first | (with_reducible first | exact HB.out | apply below_alloc | apply pw_below_drewN | apply below_drew1) | exact HB.out)⟩
          ·rw [if_neg c23] at H
           have c23b0 : (t307 == 1) = false := beq_eq_false_iff_ne.mpr c23
           have c23b1 : (t307 != 1) = true := bne_iff_ne.mpr c23
           have H' := Aside0.mk H
           clear H
           obtain ⟨Ao28, co28, eo28⟩ := Kd.R_slice HO_6.out
           subst eo28
           go_wp2_with (first | ((with_reducible refine gate_callee (f := 31) rfl ?_); refine goesL_ (some 35) rfl rfl Try.func31 (by kernel_rfl) rfl #[.slice Ao28 x6_2.length co28] rfl (by (try simp only [List.map_toArray, List.map_cons, List.map_nil]); first | done | rfl | (simp only [List.length_drop, List.length_take]; rfl)) ?_; (with_reducible refine (ashlarref09_signs.calls k2 _ _ x6_2 t304 _ ?side1 ?side2 A21.out).mono ?_); (case side1 => repeat (first | exact (Kd.R_reads' HO_6.out).2.2 | (with_reducible refine Kd.C_alloc ?_ _) | (with_reducible refine Kd.C_drewN ?_ _) | (with_reducible refine Kd.C_drew ?_))); (case side2 => exact (Kd.R_reads' HO_6.out).2.1); rintro e w29 ⟨v305, rfl, ho0, hb⟩; refine ⟨_, rfl, ?_⟩; have n0_ := Aside0.mk (Kd.R_below (by (with_reducible repeat (first | apply Kd.R_alloc | apply Kd.R_drewN | apply Kd.R_drew)); exact HO_6.out) hb); have n1_ := Aside0.mk (Kd.R_lower ho0 (below_size (by repeat (first | (with_reducible first | exact HB.out | apply below_alloc | apply pw_below_drewN | apply below_drew1) | exact HB.out)))); have n2_ := Aside0.mk (below_step (by repeat (first | (with_reducible first | exact HB.out | apply below_alloc | apply pw_below_drewN | apply below_drew1) | exact HB.out)) hb); clear HO_6; clear HB; have HO_6 := n0_; have HO306 := n1_; have HB := n2_; clear n0_ n1_ n2_; (try clear hb); (try clear hb2); (try clear hk); (try clear hi); (try clear ho0); obtain ⟨Ao30, co30, eo30⟩ := Kd.R_slice HO306.out; subst eo30) | ((with_reducible refine gate_callee (f := 30) rfl ?_); refine goesL_ (some 36) rfl rfl Try.func30 (by kernel_rfl) rfl #[.slice A0 l0.length c0, .slice Ao30 t304.length co30] rfl (by (try simp only [List.map_toArray, List.map_cons, List.map_nil]); first | done | rfl | (simp only [List.length_drop, List.length_take]; rfl)) ?_; (with_reducible refine (ashlarref08_Eval.calls k2 _ _ l0 _ _ t304 t307 _ ?side1 ?side2 ?side3 ?side4 A22.out).mono ?_); (case side1 => repeat (first | exact (Kd.C_below HR0.out HB.out) | (with_reducible refine Kd.C_alloc ?_ _) | (with_reducible refine Kd.C_drewN ?_ _) | (with_reducible refine Kd.C_drew ?_))); (case side2 => exact HC0.out); (case side3 => repeat (first | exact (Kd.R_reads' HO306.out).2.2 | (with_reducible refine Kd.C_alloc ?_ _) | (with_reducible refine Kd.C_drewN ?_ _) | (with_reducible refine Kd.C_drew ?_))); (case side4 => exact (Kd.R_reads' HO306.out).2.1); rintro e w31 ⟨rfl, hb⟩; refine ⟨_, rfl, ?_⟩; have n0_ := Aside0.mk (Kd.R_below (by (with_reducible repeat (first | apply Kd.R_alloc | apply Kd.R_drewN | apply Kd.R_drew)); exact HO_6.out) hb); have n1_ := Aside0.mk (Kd.R_below (by (with_reducible repeat (first | apply Kd.R_alloc | apply Kd.R_drewN | apply Kd.R_drew)); exact HO306.out) hb); have n2_ := Aside0.mk (below_step (by repeat (first | (with_reducible first | exact HB.out | apply below_alloc | apply pw_below_drewN | apply below_drew1) | exact HB.out)) hb); clear HO_6; clear HO306; clear HB; have HO_6 := n0_; have HO306 := n1_; have HB := n2_; clear n0_ n1_ n2_; (try clear hb); (try clear hb2); (try clear hk); (try clear hi)))
           go_roundg k2
           case measure => have := HK1.out; have := HK2.out; omega
           case rel => exact ⟨(wrap64 (x5_1 + 1)), (by first | rfl | (simp; done) | (simp [*]; done)), H', ⟨by have := HK1.out; have := HK2.out; omega⟩, ⟨by repeat (first | (with_reducible first | exact HB.out | apply below_alloc | apply pw_below_drewN | apply below_drew1) | exact HB.out)⟩⟩
      ·rw [if_neg c9] at H
       exact absurd H (by simp)
     ·rw [if_neg c8] at H
      exact absurd H (by simp)
    ·rw [if_neg c6] at H
     have c6b0 : decide (x5_1 < (ji5)) = false := decide_eq_false c6
     clear c6
     obtain rfl := Option.some.inj H
     go_wp2
     go_ret
     exact ⟨by first | rfl | (simp [errW_none, errW_some] <;> rfl) | (simp only [← hji3, ← hji5]; first | rfl | (simp [errW_none, errW_some] <;> rfl)) | (simp [*, errW_none, errW_some] <;> rfl), by repeat (first | (with_reducible first | exact HB.out | apply below_alloc | apply pw_below_drewN | apply below_drew1) | exact HB.out)⟩
   ·rw [if_neg c4] at H
    exact absurd H (by simp)

/-! ### ashlarlaw09_SatKnows: function 4 -/
def ashlarlaw09_SatKnows.l0 : Nat → List (List Int) → Int → Bool → Int → Int → Option (Bool)
 | 0, _, _, _, _, _ => none
 | k + 1, x0, x1, x5, x7, x8 => if x8 < x1 then (ashlarlaw09_SatKnows.l0 k x0 x1 x5 (wrap64 (3 * x7)) (wrap64 (x8 + 1))) else ((sat_Solve.f k x0 x1 x7).bind fun bt313 => ((ashlarref09_Some.f k x0 x1).bind fun t320 => (if x5 = true then ((ashlarref09_Good.f k x0 x1 bt313.1 bt313.2.1 bt313.2.2).bind fun t321 => (if t321 = true then (if ((bt313.1 == 1) == t320) = true then (some ((bt313.1 == 2) == (!t320))) else (some false)) else (some false))) else (some false))))
def ashlarlaw09_SatKnows.f (k : Nat) (l0 : List (List Int)) (a1 : Int) : Option (Bool) := (ashlarlaw09_shown.f k).bind fun t308 => ((ashlarlaw09_few.f k l0).bind fun t309 => ((ashlarref09_Right.f k t309 (Int.tmod (Go.bits .and .i64 a1 65535) 7)).bind fun t312 => (if t312 = true then (ashlarlaw09_SatKnows.l0 k t309 (Int.tmod (Go.bits .and .i64 a1 65535) 7) t308 1 0) else (some t308))))
theorem ashlarlaw09_SatKnows.mono_l : ∀ k, (∀ y0 y1 y2 y3 y4, LeO (ashlarlaw09_SatKnows.l0 k y0 y1 y2 y3 y4) (ashlarlaw09_SatKnows.l0 (k + 1) y0 y1 y2 y3 y4))
 | 0 => fun _ _ _ _ _ r h => by simp [ashlarlaw09_SatKnows.l0] at h
 | k + 1 => by
  have ih0 := ashlarlaw09_SatKnows.mono_l k
  ·intro y0 y1 y2 y3 y4
   unfold ashlarlaw09_SatKnows.l0
   repeat' first
   | (with_reducible exact ih0 _ _ _ _ _)
   | (with_reducible exact ashlarlaw09_few.mono _ _)
   | (with_reducible exact ashlarlaw09_shown.mono _)
   | (with_reducible exact ashlarref09_Good.mono _ _ _ _ _ _)
   | (with_reducible exact ashlarref09_Right.mono _ _ _)
   | (with_reducible exact ashlarref09_Some.mono _ _ _)
   | (with_reducible exact sat_Solve.mono _ _ _ _)
   | (with_reducible exact LeO.refl _)
   | (with_reducible exact LeO.none _)
   | (with_reducible refine LeO.ite ?_ ?_)
   | (with_reducible refine LeO.bind ?_ (fun _ => ?_))
   | exact ih0 _ _ _ _ _
   | exact ashlarlaw09_few.mono _ _
   | exact ashlarlaw09_shown.mono _
   | exact ashlarref09_Good.mono _ _ _ _ _ _
   | exact ashlarref09_Right.mono _ _ _
   | exact ashlarref09_Some.mono _ _ _
   | exact sat_Solve.mono _ _ _ _
   | exact LeO.none _
   | refine LeO.ite ?_ ?_
   | refine LeO.bind ?_ (fun _ => ?_)
theorem ashlarlaw09_SatKnows.mono : ∀ a0 a1 k, LeO (ashlarlaw09_SatKnows.f k a0 a1) (ashlarlaw09_SatKnows.f (k + 1) a0 a1) := by
 intro a0 a1 k
 have ih0 := ashlarlaw09_SatKnows.mono_l k
 unfold ashlarlaw09_SatKnows.f
 repeat' first
   | (with_reducible exact ih0 _ _ _ _ _)
   | (with_reducible exact ashlarlaw09_few.mono _ _)
   | (with_reducible exact ashlarlaw09_shown.mono _)
   | (with_reducible exact ashlarref09_Good.mono _ _ _ _ _ _)
   | (with_reducible exact ashlarref09_Right.mono _ _ _)
   | (with_reducible exact ashlarref09_Some.mono _ _ _)
   | (with_reducible exact sat_Solve.mono _ _ _ _)
   | (with_reducible exact LeO.refl _)
   | (with_reducible exact LeO.none _)
   | (with_reducible refine LeO.ite ?_ ?_)
   | (with_reducible refine LeO.bind ?_ (fun _ => ?_))
   | exact ih0 _ _ _ _ _
   | exact ashlarlaw09_few.mono _ _
   | exact ashlarlaw09_shown.mono _
   | exact ashlarref09_Good.mono _ _ _ _ _ _
   | exact ashlarref09_Right.mono _ _ _
   | exact ashlarref09_Some.mono _ _ _
   | exact sat_Solve.mono _ _ _ _
   | exact LeO.none _
   | refine LeO.ite ?_ ?_
   | refine LeO.bind ?_ (fun _ => ?_)
set_option maxHeartbeats 8000000 in
set_option maxRecDepth 100000 in
theorem ashlarlaw09_SatKnows.calls (k : Nat) (A0 : Option Addr) (c0 : Nat) (l0 : List (List Int)) (a1 : Int) (r : Bool) (w : World) (hr0 : Kd.C (Kd.slice 3 (Kd.int .i64)) w A0 l0.length l0) (hc0 : l0.length ≤ c0) (h : ashlarlaw09_SatKnows.f k l0 a1 = some r) :
  Calls Try.prog 4 #[.slice A0 l0.length c0, .int .i64 a1] w fun e w' => e = .returned (.bool r) ∧ Below w.heap.size w w' := by
 have HR0 := Aside0.mk hr0
 have HC0 := Aside0.mk hc0
 clear hr0 hc0
 have HB := Aside0.mk (Below.refl w.heap.size w)
 have H : ((ashlarlaw09_shown.f k).bind fun t308 => ((ashlarlaw09_few.f k l0).bind fun t309 => ((ashlarref09_Right.f k t309 (Int.tmod (Go.bits .and .i64 a1 65535) 7)).bind fun t312 => (if t312 = true then (ashlarlaw09_SatKnows.l0 k t309 (Int.tmod (Go.bits .and .i64 a1 65535) 7) t308 1 0) else (some t308))))) = some r := h
 clear h
 replace H := Option.bind_eq_some_iff.mp H
 obtain ⟨t308, A30, H⟩ := H
 replace H : ((ashlarlaw09_few.f k l0).bind fun t309 => ((ashlarref09_Right.f k t309 (Int.tmod (Go.bits .and .i64 a1 65535) 7)).bind fun t312 => (if t312 = true then (ashlarlaw09_SatKnows.l0 k t309 (Int.tmod (Go.bits .and .i64 a1 65535) 7) t308 1 0) else (some t308)))) = some r := H
 have A3 := Aside0.mk A30
 clear A30
 replace H := Option.bind_eq_some_iff.mp H
 obtain ⟨t309, A40, H⟩ := H
 replace H : ((ashlarref09_Right.f k t309 (Int.tmod (Go.bits .and .i64 a1 65535) 7)).bind fun t312 => (if t312 = true then (ashlarlaw09_SatKnows.l0 k t309 (Int.tmod (Go.bits .and .i64 a1 65535) 7) t308 1 0) else (some t308))) = some r := H
 have A4 := Aside0.mk A40
 clear A40
 replace H := Option.bind_eq_some_iff.mp H
 obtain ⟨t312, A50, H⟩ := H
 replace H : (if t312 = true then (ashlarlaw09_SatKnows.l0 k t309 (Int.tmod (Go.bits .and .i64 a1 65535) 7) t308 1 0) else (some t308)) = some r := H
 have A5 := Aside0.mk A50
 clear A50
 by_cases c6 : t312 = true
 ·subst c6
  have H1 : (ashlarlaw09_SatKnows.l0 k t309 (Int.tmod (Go.bits .and .i64 a1 65535) 7) t308 1 0) = some r := by rw [if_pos rfl] at H; exact H
  clear H
  have H := H1
  clear H1
  have H' := Aside0.mk H
  clear H
  go_enter Try.func4, Try.ntmps4
  go_wp2_with (first | ((with_reducible refine gate_callee (f := 12) rfl ?_); refine goesL_ (some 13) rfl rfl Try.func12 (by kernel_rfl) rfl #[] rfl (by (try simp only [List.map_toArray, List.map_cons, List.map_nil]); first | done | rfl | (simp only [List.length_drop, List.length_take]; rfl)) ?_; (with_reducible refine (ashlarlaw09_shown.calls k  t308 _ A3.out).mono ?_); rintro e w7 ⟨rfl, hb⟩; refine ⟨_, rfl, ?_⟩; have n0_ := Aside0.mk (below_step (by repeat (first | (with_reducible first | exact HB.out | apply below_alloc | apply pw_below_drewN | apply below_drew1) | exact HB.out)) hb); clear HB; have HB := n0_; clear n0_; (try clear hb); (try clear hb2); (try clear hk); (try clear hi)) | ((with_reducible refine gate_callee (f := 13) rfl ?_); refine goesL_ (some 15) rfl rfl Try.func13 (by kernel_rfl) rfl #[.slice A0 l0.length c0] rfl (by (try simp only [List.map_toArray, List.map_cons, List.map_nil]); first | done | rfl | (simp only [List.length_drop, List.length_take]; rfl)) ?_; (with_reducible refine (ashlarlaw09_few.calls k _ _ l0 t309 _ ?side1 ?side2 A4.out).mono ?_); (case side1 => repeat (first | exact (Kd.C_below HR0.out HB.out) | (with_reducible refine Kd.C_alloc ?_ _) | (with_reducible refine Kd.C_drewN ?_ _) | (with_reducible refine Kd.C_drew ?_))); (case side2 => exact HC0.out); rintro e w8 ⟨v310, rfl, ho0, hb⟩; refine ⟨_, rfl, ?_⟩; have n0_ := Aside0.mk (Kd.S_lower ho0 (below_size (by repeat (first | (with_reducible first | exact HB.out | apply below_alloc | apply pw_below_drewN | apply below_drew1) | exact HB.out)))); have n1_ := Aside0.mk (below_step (by repeat (first | (with_reducible first | exact HB.out | apply below_alloc | apply pw_below_drewN | apply below_drew1) | exact HB.out)) hb); clear HB; have HO311 := n0_; have HB := n1_; clear n0_ n1_; (try clear hb); (try clear hb2); (try clear hk); (try clear hi); (try clear ho0); obtain ⟨Ao9, co9, eo9⟩ := Kd.S_slice HO311.out; subst eo9) | ((with_reducible refine gate_callee (f := 16) rfl ?_); refine goesL_ (some 21) rfl rfl Try.func16 (by kernel_rfl) rfl #[.slice Ao9 t309.length co9, .int .i64 (Int.tmod (Go.bits .and .i64 a1 65535) 7)] rfl (by (try simp only [List.map_toArray, List.map_cons, List.map_nil]); first | done | rfl | (simp only [List.length_drop, List.length_take]; rfl)) ?_; (with_reducible refine (ashlarref09_Right.calls k _ _ t309 (Int.tmod (Go.bits .and .i64 a1 65535) 7) true _ ?side1 ?side2 A5.out).mono ?_); (case side1 => repeat (first | exact (Kd.S_reads' HO311.out).2.2 | (with_reducible refine Kd.C_alloc ?_ _) | (with_reducible refine Kd.C_drewN ?_ _) | (with_reducible refine Kd.C_drew ?_))); (case side2 => exact (Kd.S_reads' HO311.out).2.1); rintro e w' ⟨rfl, ⟨nd, rfl⟩⟩; refine ⟨_, rfl, ?_⟩))
  go_loopg [7, 8] k (fun kq v7 v8 w' => ∃ (x7_1 : Int) (x8_1 : Int), v7 = .int .i64 x7_1 ∧ v8 = .int .i64 x8_1 ∧ Aside0 (ashlarlaw09_SatKnows.l0 kq t309 (Int.tmod (Go.bits .and .i64 a1 65535) 7) t308 x7_1 x8_1 = some r) ∧ Aside0 (kq ≤ k) ∧ Aside0 (Kd.S (Kd.slice 3 (Kd.int .i64)) 32 w' w.heap.size (fun _ => True) (.slice Ao9 t309.length co9) t309) ∧ Aside0 (Below w.heap.size w w'))
  case atStart => exact ⟨(1), (0), (by first | rfl | (simp; done) | (simp [*]; done)), (by first | rfl | (simp; done) | (simp [*]; done)), H', ⟨Nat.le_refl _⟩, ⟨by (with_reducible repeat (first | apply Kd.S_alloc | apply Kd.S_drewN | apply Kd.S_drew)); exact HO311.out⟩, ⟨by repeat (first | (with_reducible first | exact HB.out | apply below_alloc | apply pw_below_drewN | apply below_drew1) | exact HB.out)⟩⟩
  case round =>
   clear H'
   try clear c1
   try clear p2
   try clear c4
   try clear c6
   obtain ⟨x7_1, x8_1, rfl, rfl, HA, HK1, HO_0, HB⟩ := hrel
   cases gk with
   | zero => exact absurd HA.out (by simp [ashlarlaw09_SatKnows.l0])
   | succ k1 =>
    have H := HA.out
    clear HA
    simp only [ashlarlaw09_SatKnows.l0] at H
    by_cases c10 : x8_1 < (Int.tmod (Go.bits .and .i64 a1 65535) 7)
    ·rw [if_pos c10] at H
     have c10b0 : decide (x8_1 < (Int.tmod (Go.bits .and .i64 a1 65535) 7)) = true := decide_eq_true c10
     clear c10
     have H' := Aside0.mk H
     clear H
     go_wp2
     go_roundg k1
     case measure => have := HK1.out; omega
     case rel => exact ⟨(wrap64 (3 * x7_1)), (wrap64 (x8_1 + 1)), (by first | rfl | (simp; done) | (simp [*]; done)), (by first | rfl | (simp; done) | (simp [*]; done)), H', ⟨by have := HK1.out; omega⟩, ⟨by (with_reducible repeat (first | apply Kd.S_alloc | apply Kd.S_drewN | apply Kd.S_drew)); exact HO_0.out⟩, ⟨by repeat (first | (with_reducible first | exact HB.out | apply below_alloc | apply pw_below_drewN | apply below_drew1) | exact HB.out)⟩⟩
    ·rw [if_neg c10] at H
     have c10b0 : decide (x8_1 < (Int.tmod (Go.bits .and .i64 a1 65535) 7)) = false := decide_eq_false c10
     clear c10
     replace H := Option.bind_eq_some_iff.mp H
     obtain ⟨⟨t313, t314, t315⟩, A110, H⟩ := H
     replace H : ((ashlarref09_Some.f k1 t309 (Int.tmod (Go.bits .and .i64 a1 65535) 7)).bind fun t320 => (if t308 = true then ((ashlarref09_Good.f k1 t309 (Int.tmod (Go.bits .and .i64 a1 65535) 7) t313 t314 t315).bind fun t321 => (if t321 = true then (if ((t313 == 1) == t320) = true then (some ((t313 == 2) == (!t320))) else (some false)) else (some false))) else (some false))) = some r := H
     have A11 := Aside0.mk A110
     clear A110
     replace H := Option.bind_eq_some_iff.mp H
     obtain ⟨t320, A120, H⟩ := H
     replace H : (if t308 = true then ((ashlarref09_Good.f k1 t309 (Int.tmod (Go.bits .and .i64 a1 65535) 7) t313 t314 t315).bind fun t321 => (if t321 = true then (if ((t313 == 1) == t320) = true then (some ((t313 == 2) == (!t320))) else (some false)) else (some false))) else (some false)) = some r := H
     have A12 := Aside0.mk A120
     clear A120
     by_cases c13 : t308 = true
     ·subst c13
      have H1 : ((ashlarref09_Good.f k1 t309 (Int.tmod (Go.bits .and .i64 a1 65535) 7) t313 t314 t315).bind fun t321 => (if t321 = true then (if ((t313 == 1) == t320) = true then (some ((t313 == 2) == (!t320))) else (some false)) else (some false))) = some r := by rw [if_pos rfl] at H; exact H
      clear H
      have H := H1
      clear H1
      replace H := Option.bind_eq_some_iff.mp H
      obtain ⟨t321, A140, H⟩ := H
      replace H : (if t321 = true then (if ((t313 == 1) == t320) = true then (some ((t313 == 2) == (!t320))) else (some false)) else (some false)) = some r := H
      have A14 := Aside0.mk A140
      clear A140
      by_cases c15 : t321 = true
      ·subst c15
       have H1 : (if ((t313 == 1) == t320) = true then (some ((t313 == 2) == (!t320))) else (some false)) = some r := by rw [if_pos rfl] at H; exact H
       clear H
       have H := H1
       clear H1
       by_cases c16 : ((t313 == 1) == t320) = true
       ·rw [if_pos c16] at H
        have c16b0 : ((t313 == 1) == t320) = true := c16
        (try (have c16b1 : decide ((t313 == 1) = t320) = true := by simpa using c16))
        (try (have c16b2 : ((t313 == 1) == t320) = true := by simpa using c16))
        clear c16
        obtain rfl := Option.some.inj H
        go_wp2_with (first | ((with_reducible refine gate_callee (f := 14) rfl ?_); refine goesL_ (some 36) rfl rfl Try.func14 (by kernel_rfl) rfl #[.slice Ao9 t309.length co9, .int .i64 (Int.tmod (Go.bits .and .i64 a1 65535) 7), .int .i64 x7_1] rfl (by (try simp only [List.map_toArray, List.map_cons, List.map_nil]); first | done | rfl | (simp only [List.length_drop, List.length_take]; rfl)) ?_; (with_reducible refine (sat_Solve.calls k1 _ _ t309 (Int.tmod (Go.bits .and .i64 a1 65535) 7) x7_1 t313 t314 t315 _ ?side1 ?side2 A11.out).mono ?_); (case side1 => repeat (first | exact (Kd.S_reads' HO_0.out).2.2 | (with_reducible refine Kd.C_alloc ?_ _) | (with_reducible refine Kd.C_drewN ?_ _) | (with_reducible refine Kd.C_drew ?_))); (case side2 => exact (Kd.S_reads' HO_0.out).2.1); rintro e w17 ⟨v316, v318, rfl, ho0, ho1, hb⟩; refine ⟨_, rfl, ?_⟩; have n0_ := Aside0.mk (Kd.S_elder' (by (with_reducible repeat (first | apply Kd.S_alloc | apply Kd.S_drewN | apply Kd.S_drew)); exact HO_0.out) (Kd.S_base ho1) hb); have n1_ := Aside0.mk (Kd.R_lower ho0 (below_size (by repeat (first | (with_reducible first | exact HB.out | apply below_alloc | apply pw_below_drewN | apply below_drew1) | exact HB.out)))); have n2_ := Aside0.mk (Kd.S_lower (Kd.S_new' ho1 (Kd.S_lt (by (with_reducible repeat (first | apply Kd.S_alloc | apply Kd.S_drewN | apply Kd.S_drew)); exact HO_0.out))) (below_size (by repeat (first | (with_reducible first | exact HB.out | apply below_alloc | apply pw_below_drewN | apply below_drew1) | exact HB.out)))); have n3_ := Aside0.mk (below_step (by repeat (first | (with_reducible first | exact HB.out | apply below_alloc | apply pw_below_drewN | apply below_drew1) | exact HB.out)) hb); clear HO_0; clear HB; have HO_0 := n0_; have HO317 := n1_; have HO319 := n2_; have HB := n3_; clear n0_ n1_ n2_ n3_; (try clear hb); (try clear hb2); (try clear hk); (try clear hi); (try clear ho0); (try clear ho1)) | ((with_reducible refine gate_callee (f := 18) rfl ?_); refine goesL_ (some 42) rfl rfl Try.func18 (by kernel_rfl) rfl #[.slice Ao9 t309.length co9, .int .i64 (Int.tmod (Go.bits .and .i64 a1 65535) 7)] rfl (by (try simp only [List.map_toArray, List.map_cons, List.map_nil]); first | done | rfl | (simp only [List.length_drop, List.length_take]; rfl)) ?_; (with_reducible refine (ashlarref09_Some.calls k1 _ _ t309 (Int.tmod (Go.bits .and .i64 a1 65535) 7) t320 _ ?side1 ?side2 A12.out).mono ?_); (case side1 => repeat (first | exact (Kd.S_reads' HO_0.out).2.2 | (with_reducible refine Kd.C_alloc ?_ _) | (with_reducible refine Kd.C_drewN ?_ _) | (with_reducible refine Kd.C_drew ?_))); (case side2 => exact (Kd.S_reads' HO_0.out).2.1); rintro e w18 ⟨rfl, hb⟩; refine ⟨_, rfl, ?_⟩; have n0_ := Aside0.mk (Kd.S_below (by (with_reducible repeat (first | apply Kd.S_alloc | apply Kd.S_drewN | apply Kd.S_drew)); exact HO_0.out) hb); have n1_ := Aside0.mk (Kd.R_below (by (with_reducible repeat (first | apply Kd.R_alloc | apply Kd.R_drewN | apply Kd.R_drew)); exact HO317.out) hb); have n2_ := Aside0.mk (Kd.S_below (by (with_reducible repeat (first | apply Kd.S_alloc | apply Kd.S_drewN | apply Kd.S_drew)); exact HO319.out) hb); have n3_ := Aside0.mk (below_step (by repeat (first | (with_reducible first | exact HB.out | apply below_alloc | apply pw_below_drewN | apply below_drew1) | exact HB.out)) hb); clear HO_0; clear HO317; clear HO319; clear HB; have HO_0 := n0_; have HO317 := n1_; have HO319 := n2_; have HB := n3_; clear n0_ n1_ n2_ n3_; (try clear hb); (try clear hb2); (try clear hk); (try clear hi); obtain ⟨Ao19, co19, eo19⟩ := Kd.R_slice HO317.out; subst eo19; obtain ⟨Ao20, co20, eo20⟩ := Kd.S_slice HO319.out; subst eo20) | (go_at_call 17; (with_reducible refine (ashlarref09_Good.calls k1 _ _ t309 (Int.tmod (Go.bits .and .i64 a1 65535) 7) t313 _ _ t314 _ _ t315 true _ ?side1 ?side2 ?side3 ?side4 ?side5 ?side6 A14.out).mono ?_); (case side1 => repeat (first | exact (Kd.S_reads' HO_0.out).2.2 | (with_reducible refine Kd.C_alloc ?_ _) | (with_reducible refine Kd.C_drewN ?_ _) | (with_reducible refine Kd.C_drew ?_))); (case side2 => exact (Kd.S_reads' HO_0.out).2.1); (case side3 => repeat (first | exact (Kd.R_reads' HO317.out).2.2 | (with_reducible refine Kd.C_alloc ?_ _) | (with_reducible refine Kd.C_drewN ?_ _) | (with_reducible refine Kd.C_drew ?_))); (case side4 => exact (Kd.R_reads' HO317.out).2.1); (case side5 => repeat (first | exact (Kd.S_reads' HO319.out).2.2 | (with_reducible refine Kd.C_alloc ?_ _) | (with_reducible refine Kd.C_drewN ?_ _) | (with_reducible refine Kd.C_drew ?_))); (case side6 => exact (Kd.S_reads' HO319.out).2.1); rintro e w21 ⟨rfl, hb⟩; have n0_ := Aside0.mk (Kd.S_below (by (with_reducible repeat (first | apply Kd.S_alloc | apply Kd.S_drewN | apply Kd.S_drew)); exact HO_0.out) hb); have n1_ := Aside0.mk (Kd.R_below (by (with_reducible repeat (first | apply Kd.R_alloc | apply Kd.R_drewN | apply Kd.R_drew)); exact HO317.out) hb); have n2_ := Aside0.mk (Kd.S_below (by (with_reducible repeat (first | apply Kd.S_alloc | apply Kd.S_drewN | apply Kd.S_drew)); exact HO319.out) hb); have n3_ := Aside0.mk (below_step (by repeat (first | (with_reducible first | exact HB.out | apply below_alloc | apply pw_below_drewN | apply below_drew1) | exact HB.out)) hb); clear HO_0; clear HO317; clear HO319; clear HB; have HO_0 := n0_; have HO317 := n1_; have HO319 := n2_; have HB := n3_; clear n0_ n1_ n2_ n3_; (try clear hb); (try clear hb2); (try clear hk); (try clear hi)))
        go_ret
        exact ⟨by first | rfl | (simp [errW_none, errW_some] <;> rfl) | (simp [*, errW_none, errW_some] <;> rfl), by repeat (first | (with_reducible first | exact HB.out | apply below_alloc | apply pw_below_drewN | apply below_drew1) | exact HB.out)⟩
       ·rw [if_neg c16] at H
        have c16b0 : ((t313 == 1) == t320) = false := by simpa using c16
        (try (have c16b1 : decide ((t313 == 1) = t320) = false := by simpa using c16))
        (try (have c16b2 : ((t313 == 1) == t320) = false := by simpa using c16))
        (try (have c16b3 : ¬ ((t313 == 1) = t320) := by simpa using c16))
        clear c16
        obtain rfl := Option.some.inj H
        go_wp2_with (first | ((with_reducible refine gate_callee (f := 14) rfl ?_); refine goesL_ (some 36) rfl rfl Try.func14 (by kernel_rfl) rfl #[.slice Ao9 t309.length co9, .int .i64 (Int.tmod (Go.bits .and .i64 a1 65535) 7), .int .i64 x7_1] rfl (by (try simp only [List.map_toArray, List.map_cons, List.map_nil]); first | done | rfl | (simp only [List.length_drop, List.length_take]; rfl)) ?_; (with_reducible refine (sat_Solve.calls k1 _ _ t309 (Int.tmod (Go.bits .and .i64 a1 65535) 7) x7_1 t313 t314 t315 _ ?side1 ?side2 A11.out).mono ?_); (case side1 => repeat (first | exact (Kd.S_reads' HO_0.out).2.2 | (with_reducible refine Kd.C_alloc ?_ _) | (with_reducible refine Kd.C_drewN ?_ _) | (with_reducible refine Kd.C_drew ?_))); (case side2 => exact (Kd.S_reads' HO_0.out).2.1); rintro e w22 ⟨v316, v318, rfl, ho0, ho1, hb⟩; refine ⟨_, rfl, ?_⟩; have n0_ := Aside0.mk (Kd.S_elder' (by (with_reducible repeat (first | apply Kd.S_alloc | apply Kd.S_drewN | apply Kd.S_drew)); exact HO_0.out) (Kd.S_base ho1) hb); have n1_ := Aside0.mk (Kd.R_lower ho0 (below_size (by repeat (first | (with_reducible first | exact HB.out | apply below_alloc | apply pw_below_drewN | apply below_drew1) | exact HB.out)))); have n2_ := Aside0.mk (Kd.S_lower (Kd.S_new' ho1 (Kd.S_lt (by (with_reducible repeat (first | apply Kd.S_alloc | apply Kd.S_drewN | apply Kd.S_drew)); exact HO_0.out))) (below_size (by repeat (first | (with_reducible first | exact HB.out | apply below_alloc | apply pw_below_drewN | apply below_drew1) | exact HB.out)))); have n3_ := Aside0.mk (below_step (by repeat (first | (with_reducible first | exact HB.out | apply below_alloc | apply pw_below_drewN | apply below_drew1) | exact HB.out)) hb); clear HO_0; clear HB; have HO_0 := n0_; have HO317 := n1_; have HO319 := n2_; have HB := n3_; clear n0_ n1_ n2_ n3_; (try clear hb); (try clear hb2); (try clear hk); (try clear hi); (try clear ho0); (try clear ho1)) | ((with_reducible refine gate_callee (f := 18) rfl ?_); refine goesL_ (some 42) rfl rfl Try.func18 (by kernel_rfl) rfl #[.slice Ao9 t309.length co9, .int .i64 (Int.tmod (Go.bits .and .i64 a1 65535) 7)] rfl (by (try simp only [List.map_toArray, List.map_cons, List.map_nil]); first | done | rfl | (simp only [List.length_drop, List.length_take]; rfl)) ?_; (with_reducible refine (ashlarref09_Some.calls k1 _ _ t309 (Int.tmod (Go.bits .and .i64 a1 65535) 7) t320 _ ?side1 ?side2 A12.out).mono ?_); (case side1 => repeat (first | exact (Kd.S_reads' HO_0.out).2.2 | (with_reducible refine Kd.C_alloc ?_ _) | (with_reducible refine Kd.C_drewN ?_ _) | (with_reducible refine Kd.C_drew ?_))); (case side2 => exact (Kd.S_reads' HO_0.out).2.1); rintro e w23 ⟨rfl, hb⟩; refine ⟨_, rfl, ?_⟩; have n0_ := Aside0.mk (Kd.S_below (by (with_reducible repeat (first | apply Kd.S_alloc | apply Kd.S_drewN | apply Kd.S_drew)); exact HO_0.out) hb); have n1_ := Aside0.mk (Kd.R_below (by (with_reducible repeat (first | apply Kd.R_alloc | apply Kd.R_drewN | apply Kd.R_drew)); exact HO317.out) hb); have n2_ := Aside0.mk (Kd.S_below (by (with_reducible repeat (first | apply Kd.S_alloc | apply Kd.S_drewN | apply Kd.S_drew)); exact HO319.out) hb); have n3_ := Aside0.mk (below_step (by repeat (first | (with_reducible first | exact HB.out | apply below_alloc | apply pw_below_drewN | apply below_drew1) | exact HB.out)) hb); clear HO_0; clear HO317; clear HO319; clear HB; have HO_0 := n0_; have HO317 := n1_; have HO319 := n2_; have HB := n3_; clear n0_ n1_ n2_ n3_; (try clear hb); (try clear hb2); (try clear hk); (try clear hi); obtain ⟨Ao24, co24, eo24⟩ := Kd.R_slice HO317.out; subst eo24; obtain ⟨Ao25, co25, eo25⟩ := Kd.S_slice HO319.out; subst eo25) | (go_at_call 17; (with_reducible refine (ashlarref09_Good.calls k1 _ _ t309 (Int.tmod (Go.bits .and .i64 a1 65535) 7) t313 _ _ t314 _ _ t315 true _ ?side1 ?side2 ?side3 ?side4 ?side5 ?side6 A14.out).mono ?_); (case side1 => repeat (first | exact (Kd.S_reads' HO_0.out).2.2 | (with_reducible refine Kd.C_alloc ?_ _) | (with_reducible refine Kd.C_drewN ?_ _) | (with_reducible refine Kd.C_drew ?_))); (case side2 => exact (Kd.S_reads' HO_0.out).2.1); (case side3 => repeat (first | exact (Kd.R_reads' HO317.out).2.2 | (with_reducible refine Kd.C_alloc ?_ _) | (with_reducible refine Kd.C_drewN ?_ _) | (with_reducible refine Kd.C_drew ?_))); (case side4 => exact (Kd.R_reads' HO317.out).2.1); (case side5 => repeat (first | exact (Kd.S_reads' HO319.out).2.2 | (with_reducible refine Kd.C_alloc ?_ _) | (with_reducible refine Kd.C_drewN ?_ _) | (with_reducible refine Kd.C_drew ?_))); (case side6 => exact (Kd.S_reads' HO319.out).2.1); rintro e w26 ⟨rfl, hb⟩; have n0_ := Aside0.mk (Kd.S_below (by (with_reducible repeat (first | apply Kd.S_alloc | apply Kd.S_drewN | apply Kd.S_drew)); exact HO_0.out) hb); have n1_ := Aside0.mk (Kd.R_below (by (with_reducible repeat (first | apply Kd.R_alloc | apply Kd.R_drewN | apply Kd.R_drew)); exact HO317.out) hb); have n2_ := Aside0.mk (Kd.S_below (by (with_reducible repeat (first | apply Kd.S_alloc | apply Kd.S_drewN | apply Kd.S_drew)); exact HO319.out) hb); have n3_ := Aside0.mk (below_step (by repeat (first | (with_reducible first | exact HB.out | apply below_alloc | apply pw_below_drewN | apply below_drew1) | exact HB.out)) hb); clear HO_0; clear HO317; clear HO319; clear HB; have HO_0 := n0_; have HO317 := n1_; have HO319 := n2_; have HB := n3_; clear n0_ n1_ n2_ n3_; (try clear hb); (try clear hb2); (try clear hk); (try clear hi)))
        go_ret
        exact ⟨by first | rfl | (simp [errW_none, errW_some] <;> rfl) | (simp [*, errW_none, errW_some] <;> rfl), by repeat (first | (with_reducible first | exact HB.out | apply below_alloc | apply pw_below_drewN | apply below_drew1) | exact HB.out)⟩
      ·replace c15 := Bool.eq_false_iff.mpr c15
       subst c15
       have H1 : (some false) = some r := by rw [if_neg (show ¬ (false = true) by decide)] at H; exact H
       clear H
       have H := H1
       clear H1
       obtain rfl := Option.some.inj H
       go_wp2_with (first | ((with_reducible refine gate_callee (f := 14) rfl ?_); refine goesL_ (some 36) rfl rfl Try.func14 (by kernel_rfl) rfl #[.slice Ao9 t309.length co9, .int .i64 (Int.tmod (Go.bits .and .i64 a1 65535) 7), .int .i64 x7_1] rfl (by (try simp only [List.map_toArray, List.map_cons, List.map_nil]); first | done | rfl | (simp only [List.length_drop, List.length_take]; rfl)) ?_; (with_reducible refine (sat_Solve.calls k1 _ _ t309 (Int.tmod (Go.bits .and .i64 a1 65535) 7) x7_1 t313 t314 t315 _ ?side1 ?side2 A11.out).mono ?_); (case side1 => repeat (first | exact (Kd.S_reads' HO_0.out).2.2 | (with_reducible refine Kd.C_alloc ?_ _) | (with_reducible refine Kd.C_drewN ?_ _) | (with_reducible refine Kd.C_drew ?_))); (case side2 => exact (Kd.S_reads' HO_0.out).2.1); rintro e w27 ⟨v316, v318, rfl, ho0, ho1, hb⟩; refine ⟨_, rfl, ?_⟩; have n0_ := Aside0.mk (Kd.S_elder' (by (with_reducible repeat (first | apply Kd.S_alloc | apply Kd.S_drewN | apply Kd.S_drew)); exact HO_0.out) (Kd.S_base ho1) hb); have n1_ := Aside0.mk (Kd.R_lower ho0 (below_size (by repeat (first | (with_reducible first | exact HB.out | apply below_alloc | apply pw_below_drewN | apply below_drew1) | exact HB.out)))); have n2_ := Aside0.mk (Kd.S_lower (Kd.S_new' ho1 (Kd.S_lt (by (with_reducible repeat (first | apply Kd.S_alloc | apply Kd.S_drewN | apply Kd.S_drew)); exact HO_0.out))) (below_size (by repeat (first | (with_reducible first | exact HB.out | apply below_alloc | apply pw_below_drewN | apply below_drew1) | exact HB.out)))); have n3_ := Aside0.mk (below_step (by repeat (first | (with_reducible first | exact HB.out | apply below_alloc | apply pw_below_drewN | apply below_drew1) | exact HB.out)) hb); clear HO_0; clear HB; have HO_0 := n0_; have HO317 := n1_; have HO319 := n2_; have HB := n3_; clear n0_ n1_ n2_ n3_; (try clear hb); (try clear hb2); (try clear hk); (try clear hi); (try clear ho0); (try clear ho1)) | ((with_reducible refine gate_callee (f := 18) rfl ?_); refine goesL_ (some 42) rfl rfl Try.func18 (by kernel_rfl) rfl #[.slice Ao9 t309.length co9, .int .i64 (Int.tmod (Go.bits .and .i64 a1 65535) 7)] rfl (by (try simp only [List.map_toArray, List.map_cons, List.map_nil]); first | done | rfl | (simp only [List.length_drop, List.length_take]; rfl)) ?_; (with_reducible refine (ashlarref09_Some.calls k1 _ _ t309 (Int.tmod (Go.bits .and .i64 a1 65535) 7) t320 _ ?side1 ?side2 A12.out).mono ?_); (case side1 => repeat (first | exact (Kd.S_reads' HO_0.out).2.2 | (with_reducible refine Kd.C_alloc ?_ _) | (with_reducible refine Kd.C_drewN ?_ _) | (with_reducible refine Kd.C_drew ?_))); (case side2 => exact (Kd.S_reads' HO_0.out).2.1); rintro e w28 ⟨rfl, hb⟩; refine ⟨_, rfl, ?_⟩; have n0_ := Aside0.mk (Kd.S_below (by (with_reducible repeat (first | apply Kd.S_alloc | apply Kd.S_drewN | apply Kd.S_drew)); exact HO_0.out) hb); have n1_ := Aside0.mk (Kd.R_below (by (with_reducible repeat (first | apply Kd.R_alloc | apply Kd.R_drewN | apply Kd.R_drew)); exact HO317.out) hb); have n2_ := Aside0.mk (Kd.S_below (by (with_reducible repeat (first | apply Kd.S_alloc | apply Kd.S_drewN | apply Kd.S_drew)); exact HO319.out) hb); have n3_ := Aside0.mk (below_step (by repeat (first | (with_reducible first | exact HB.out | apply below_alloc | apply pw_below_drewN | apply below_drew1) | exact HB.out)) hb); clear HO_0; clear HO317; clear HO319; clear HB; have HO_0 := n0_; have HO317 := n1_; have HO319 := n2_; have HB := n3_; clear n0_ n1_ n2_ n3_; (try clear hb); (try clear hb2); (try clear hk); (try clear hi); obtain ⟨Ao29, co29, eo29⟩ := Kd.R_slice HO317.out; subst eo29; obtain ⟨Ao30, co30, eo30⟩ := Kd.S_slice HO319.out; subst eo30) | (go_at_call 17; (with_reducible refine (ashlarref09_Good.calls k1 _ _ t309 (Int.tmod (Go.bits .and .i64 a1 65535) 7) t313 _ _ t314 _ _ t315 false _ ?side1 ?side2 ?side3 ?side4 ?side5 ?side6 A14.out).mono ?_); (case side1 => repeat (first | exact (Kd.S_reads' HO_0.out).2.2 | (with_reducible refine Kd.C_alloc ?_ _) | (with_reducible refine Kd.C_drewN ?_ _) | (with_reducible refine Kd.C_drew ?_))); (case side2 => exact (Kd.S_reads' HO_0.out).2.1); (case side3 => repeat (first | exact (Kd.R_reads' HO317.out).2.2 | (with_reducible refine Kd.C_alloc ?_ _) | (with_reducible refine Kd.C_drewN ?_ _) | (with_reducible refine Kd.C_drew ?_))); (case side4 => exact (Kd.R_reads' HO317.out).2.1); (case side5 => repeat (first | exact (Kd.S_reads' HO319.out).2.2 | (with_reducible refine Kd.C_alloc ?_ _) | (with_reducible refine Kd.C_drewN ?_ _) | (with_reducible refine Kd.C_drew ?_))); (case side6 => exact (Kd.S_reads' HO319.out).2.1); rintro e w31 ⟨rfl, hb⟩; have n0_ := Aside0.mk (Kd.S_below (by (with_reducible repeat (first | apply Kd.S_alloc | apply Kd.S_drewN | apply Kd.S_drew)); exact HO_0.out) hb); have n1_ := Aside0.mk (Kd.R_below (by (with_reducible repeat (first | apply Kd.R_alloc | apply Kd.R_drewN | apply Kd.R_drew)); exact HO317.out) hb); have n2_ := Aside0.mk (Kd.S_below (by (with_reducible repeat (first | apply Kd.S_alloc | apply Kd.S_drewN | apply Kd.S_drew)); exact HO319.out) hb); have n3_ := Aside0.mk (below_step (by repeat (first | (with_reducible first | exact HB.out | apply below_alloc | apply pw_below_drewN | apply below_drew1) | exact HB.out)) hb); clear HO_0; clear HO317; clear HO319; clear HB; have HO_0 := n0_; have HO317 := n1_; have HO319 := n2_; have HB := n3_; clear n0_ n1_ n2_ n3_; (try clear hb); (try clear hb2); (try clear hk); (try clear hi)))
       go_ret
       exact ⟨by first | rfl | (simp [errW_none, errW_some] <;> rfl) | (simp [*, errW_none, errW_some] <;> rfl), by repeat (first | (with_reducible first | exact HB.out | apply below_alloc | apply pw_below_drewN | apply below_drew1) | exact HB.out)⟩
     ·replace c13 := Bool.eq_false_iff.mpr c13
      subst c13
      have H1 : (some false) = some r := by rw [if_neg (show ¬ (false = true) by decide)] at H; exact H
      clear H
      have H := H1
      clear H1
      obtain rfl := Option.some.inj H
      go_wp2_with (first | ((with_reducible refine gate_callee (f := 14) rfl ?_); refine goesL_ (some 36) rfl rfl Try.func14 (by kernel_rfl) rfl #[.slice Ao9 t309.length co9, .int .i64 (Int.tmod (Go.bits .and .i64 a1 65535) 7), .int .i64 x7_1] rfl (by (try simp only [List.map_toArray, List.map_cons, List.map_nil]); first | done | rfl | (simp only [List.length_drop, List.length_take]; rfl)) ?_; (with_reducible refine (sat_Solve.calls k1 _ _ t309 (Int.tmod (Go.bits .and .i64 a1 65535) 7) x7_1 t313 t314 t315 _ ?side1 ?side2 A11.out).mono ?_); (case side1 => repeat (first | exact (Kd.S_reads' HO_0.out).2.2 | (with_reducible refine Kd.C_alloc ?_ _) | (with_reducible refine Kd.C_drewN ?_ _) | (with_reducible refine Kd.C_drew ?_))); (case side2 => exact (Kd.S_reads' HO_0.out).2.1); rintro e w32 ⟨v316, v318, rfl, ho0, ho1, hb⟩; refine ⟨_, rfl, ?_⟩; have n0_ := Aside0.mk (Kd.S_elder' (by (with_reducible repeat (first | apply Kd.S_alloc | apply Kd.S_drewN | apply Kd.S_drew)); exact HO_0.out) (Kd.S_base ho1) hb); have n1_ := Aside0.mk (Kd.R_lower ho0 (below_size (by repeat (first | (with_reducible first | exact HB.out | apply below_alloc | apply pw_below_drewN | apply below_drew1) | exact HB.out)))); have n2_ := Aside0.mk (Kd.S_lower (Kd.S_new' ho1 (Kd.S_lt (by (with_reducible repeat (first | apply Kd.S_alloc | apply Kd.S_drewN | apply Kd.S_drew)); exact HO_0.out))) (below_size (by repeat (first | (with_reducible first | exact HB.out | apply below_alloc | apply pw_below_drewN | apply below_drew1) | exact HB.out)))); have n3_ := Aside0.mk (below_step (by repeat (first | (with_reducible first | exact HB.out | apply below_alloc | apply pw_below_drewN | apply below_drew1) | exact HB.out)) hb); clear HO_0; clear HB; have HO_0 := n0_; have HO317 := n1_; have HO319 := n2_; have HB := n3_; clear n0_ n1_ n2_ n3_; (try clear hb); (try clear hb2); (try clear hk); (try clear hi); (try clear ho0); (try clear ho1)) | ((with_reducible refine gate_callee (f := 18) rfl ?_); refine goesL_ (some 42) rfl rfl Try.func18 (by kernel_rfl) rfl #[.slice Ao9 t309.length co9, .int .i64 (Int.tmod (Go.bits .and .i64 a1 65535) 7)] rfl (by (try simp only [List.map_toArray, List.map_cons, List.map_nil]); first | done | rfl | (simp only [List.length_drop, List.length_take]; rfl)) ?_; (with_reducible refine (ashlarref09_Some.calls k1 _ _ t309 (Int.tmod (Go.bits .and .i64 a1 65535) 7) t320 _ ?side1 ?side2 A12.out).mono ?_); (case side1 => repeat (first | exact (Kd.S_reads' HO_0.out).2.2 | (with_reducible refine Kd.C_alloc ?_ _) | (with_reducible refine Kd.C_drewN ?_ _) | (with_reducible refine Kd.C_drew ?_))); (case side2 => exact (Kd.S_reads' HO_0.out).2.1); rintro e w33 ⟨rfl, hb⟩; refine ⟨_, rfl, ?_⟩; have n0_ := Aside0.mk (Kd.S_below (by (with_reducible repeat (first | apply Kd.S_alloc | apply Kd.S_drewN | apply Kd.S_drew)); exact HO_0.out) hb); have n1_ := Aside0.mk (Kd.R_below (by (with_reducible repeat (first | apply Kd.R_alloc | apply Kd.R_drewN | apply Kd.R_drew)); exact HO317.out) hb); have n2_ := Aside0.mk (Kd.S_below (by (with_reducible repeat (first | apply Kd.S_alloc | apply Kd.S_drewN | apply Kd.S_drew)); exact HO319.out) hb); have n3_ := Aside0.mk (below_step (by repeat (first | (with_reducible first | exact HB.out | apply below_alloc | apply pw_below_drewN | apply below_drew1) | exact HB.out)) hb); clear HO_0; clear HO317; clear HO319; clear HB; have HO_0 := n0_; have HO317 := n1_; have HO319 := n2_; have HB := n3_; clear n0_ n1_ n2_ n3_; (try clear hb); (try clear hb2); (try clear hk); (try clear hi)))
      go_ret
      exact ⟨by first | rfl | (simp [errW_none, errW_some] <;> rfl) | (simp [*, errW_none, errW_some] <;> rfl), by repeat (first | (with_reducible first | exact HB.out | apply below_alloc | apply pw_below_drewN | apply below_drew1) | exact HB.out)⟩
 ·replace c6 := Bool.eq_false_iff.mpr c6
  subst c6
  have H1 : (some t308) = some r := by rw [if_neg (show ¬ (false = true) by decide)] at H; exact H
  clear H
  have H := H1
  clear H1
  obtain rfl := Option.some.inj H
  go_enter Try.func4, Try.ntmps4
  go_wp2_with (first | ((with_reducible refine gate_callee (f := 12) rfl ?_); refine goesL_ (some 13) rfl rfl Try.func12 (by kernel_rfl) rfl #[] rfl (by (try simp only [List.map_toArray, List.map_cons, List.map_nil]); first | done | rfl | (simp only [List.length_drop, List.length_take]; rfl)) ?_; (with_reducible refine (ashlarlaw09_shown.calls k  t308 _ A3.out).mono ?_); rintro e w34 ⟨rfl, hb⟩; refine ⟨_, rfl, ?_⟩; have n0_ := Aside0.mk (below_step (by repeat (first | (with_reducible first | exact HB.out | apply below_alloc | apply pw_below_drewN | apply below_drew1) | exact HB.out)) hb); clear HB; have HB := n0_; clear n0_; (try clear hb); (try clear hb2); (try clear hk); (try clear hi)) | ((with_reducible refine gate_callee (f := 13) rfl ?_); refine goesL_ (some 15) rfl rfl Try.func13 (by kernel_rfl) rfl #[.slice A0 l0.length c0] rfl (by (try simp only [List.map_toArray, List.map_cons, List.map_nil]); first | done | rfl | (simp only [List.length_drop, List.length_take]; rfl)) ?_; (with_reducible refine (ashlarlaw09_few.calls k _ _ l0 t309 _ ?side1 ?side2 A4.out).mono ?_); (case side1 => repeat (first | exact (Kd.C_below HR0.out HB.out) | (with_reducible refine Kd.C_alloc ?_ _) | (with_reducible refine Kd.C_drewN ?_ _) | (with_reducible refine Kd.C_drew ?_))); (case side2 => exact HC0.out); rintro e w35 ⟨v310, rfl, ho0, hb⟩; refine ⟨_, rfl, ?_⟩; have n0_ := Aside0.mk (Kd.S_lower ho0 (below_size (by repeat (first | (with_reducible first | exact HB.out | apply below_alloc | apply pw_below_drewN | apply below_drew1) | exact HB.out)))); have n1_ := Aside0.mk (below_step (by repeat (first | (with_reducible first | exact HB.out | apply below_alloc | apply pw_below_drewN | apply below_drew1) | exact HB.out)) hb); clear HB; have HO311 := n0_; have HB := n1_; clear n0_ n1_; (try clear hb); (try clear hb2); (try clear hk); (try clear hi); (try clear ho0); obtain ⟨Ao36, co36, eo36⟩ := Kd.S_slice HO311.out; subst eo36) | ((with_reducible refine gate_callee (f := 16) rfl ?_); refine goesL_ (some 21) rfl rfl Try.func16 (by kernel_rfl) rfl #[.slice Ao36 t309.length co36, .int .i64 (Int.tmod (Go.bits .and .i64 a1 65535) 7)] rfl (by (try simp only [List.map_toArray, List.map_cons, List.map_nil]); first | done | rfl | (simp only [List.length_drop, List.length_take]; rfl)) ?_; (with_reducible refine (ashlarref09_Right.calls k _ _ t309 (Int.tmod (Go.bits .and .i64 a1 65535) 7) false _ ?side1 ?side2 A5.out).mono ?_); (case side1 => repeat (first | exact (Kd.S_reads' HO311.out).2.2 | (with_reducible refine Kd.C_alloc ?_ _) | (with_reducible refine Kd.C_drewN ?_ _) | (with_reducible refine Kd.C_drew ?_))); (case side2 => exact (Kd.S_reads' HO311.out).2.1); rintro e w' ⟨rfl, ⟨nd, rfl⟩⟩; refine ⟨_, rfl, ?_⟩))
  go_ret
  exact ⟨by first | rfl | (simp [errW_none, errW_some] <;> rfl) | (simp [*, errW_none, errW_some] <;> rfl), by repeat (first | (with_reducible first | exact HB.out | apply below_alloc | apply pw_below_drewN | apply below_drew1) | exact HB.out)⟩

end Go.Proofs.Ytmdjlhmifhnpdaa.Q
