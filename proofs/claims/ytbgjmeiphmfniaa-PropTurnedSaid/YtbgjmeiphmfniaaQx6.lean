/- written by a program of this session (wip/tools/printx.py, over the kit's printing program) out of the translation -/
import Derived.Test.YtbgjmeiphmfniaaQx0
import Derived.Test.YtbgjmeiphmfniaaQx1
import Derived.Test.YtbgjmeiphmfniaaQx2
import Derived.Test.YtbgjmeiphmfniaaQx3
import Derived.Test.YtbgjmeiphmfniaaQx5
namespace Go.Proofs.Ytbgjmeiphmfniaa.Q
open Go.RowKit Go.Proofs.YtbgjmeiphmfniaaW.PrintWords Go.Proofs.YtbgjmeiphmfniaaW.PrintLast Go.Proofs.YtbgjmeiphmfniaaW.PrintMore
attribute [local go_sem] max2_int min2_int max_two min_two max_three min_three max_four min_four   -- for this text's walks alone
set_option linter.unusedVariables false
set_option linter.unusedSimpArgs false

/-! ### ashlarlaw08_PropTurned: function 8 -/
def ashlarlaw08_PropTurned.u (k : Nat) (t200 : Bool) (l0 : List (List Int)) (l1 : List Int) (a2 : Int) (l3 : List (List Int)) (l4 : List Int) : Option Bool := (prop_Unit.f k l0 l1).bind fun bt201 => ((prop_Unit.f k l3 l4).bind fun bt205 => (if a2 ≥ (bt205.1.length : Int) then (some false) else (if 0 ≤ a2 then (if a2 < (bt205.1.length : Int) then (if t200 = true then (if (bt201.2 == bt205.2) = true then ((ashlarlaw08_same.f k bt201.1 (bt205.1.set (a2 : Int).toNat (IntKind.i8.wrap (-(rd bt205.1 a2))))).bind fun t211 => (if t211 = true then ((prop_Eval.f k l0 l1).bind fun t212 => ((prop_Eval.f k l3 l4).bind fun t213 => (some (t212 == t213)))) else (some false))) else (some false)) else (some false)) else (none)) else (none))))
def ashlarlaw08_PropTurned.s (L : List (List Int)) (h : Bool) (A : List Int) (v : Int) (k : Nat) (M : List (List Int)) (B : List Int) : Option Bool := if 0 ≤ v then (if v < (B.length : Int) then (if v < (A.length : Int) then ashlarlaw08_PropTurned.u k h L (A.set v.toNat (mx (rd A v) (-1))) v M (B.set v.toNat (IntKind.i8.wrap (-(mx (rd B v) (-1))))) else none) else none) else none
mutual
def ashlarlaw08_PropTurned.l0 (T : Nat → List (List Int) → List Int → Option Bool) : Nat → List Int → Int → List (List Int) → List Int → Int → Option (Bool)
  | 0, _, _, _, _, _ => none
  | k + 1, x1, x2, x8, x9, x10 => if x10 < (x8.length : Int) then (ashlarlaw08_PropTurned.l1 T k x1 x2 x8 x9 x10 0) else (T k x8 x9)
def ashlarlaw08_PropTurned.l1 (T : Nat → List (List Int) → List Int → Option Bool) : Nat → List Int → Int → List (List Int) → List Int → Int → Int → Option (Bool)
  | 0, _, _, _, _, _, _ => none
  | k + 1, x1, x2, x8, x9, x10, x11 => if 0 ≤ x10 then (if x10 < (x8.length : Int) then (if x11 < ((rd_L2 x8 x10).length : Int) then (if 0 ≤ x11 then (if (rd (rd_L2 x8 x10) x11) = x2 then (ashlarlaw08_PropTurned.l1 T k x1 x2 (x8.set (x10 : Int).toNat ((rd_L2 x8 x10).set (x11 : Int).toNat (wrap64 (-(rd (rd_L2 x8 x10) x11))))) x9 x10 (wrap64 (x11 + 1))) else (if (rd (rd_L2 x8 x10) x11) = (wrap64 (-x2)) then (ashlarlaw08_PropTurned.l1 T k x1 x2 (x8.set (x10 : Int).toNat ((rd_L2 x8 x10).set (x11 : Int).toNat (wrap64 (-(rd (rd_L2 x8 x10) x11))))) x9 x10 (wrap64 (x11 + 1))) else (ashlarlaw08_PropTurned.l1 T k x1 x2 x8 x9 x10 (wrap64 (x11 + 1))))) else (none)) else (ashlarlaw08_PropTurned.l0 T k x1 x2 x8 x9 (wrap64 (x10 + 1)))) else (none)) else (none)
end
def ashlarlaw08_PropTurned.g (k : Nat) (l0 : List (List Int)) (l1 : List Int) (a2 : Int) : Option (Bool) := (ashlarlaw08_shown.f k).bind fun t200 => (if (l1.length : Int) < 2 then (some t200) else (if (wrap64 ((l1.length : Int) - 1)) = 0 then (none) else ((ashlarlaw08_few.f k l0 l1).bind fun bt201 => (ashlarlaw08_PropTurned.l0 (ashlarlaw08_PropTurned.s l0 t200 l1 (wrap64 (1 + (Int.tmod (Go.bits .and .i64 a2 65535) (wrap64 ((l1.length : Int) - 1)))))) k l1 (wrap64 (1 + (Int.tmod (Go.bits .and .i64 a2 65535) (wrap64 ((l1.length : Int) - 1))))) bt201.1 bt201.2 0))))
def ashlarlaw08_PropTurned.f (k : Nat) (lA : List (List Int)) (lB : List Int) (a2 : Int) : Option (Bool) := (ashlarlaw08_few.f k lA lB).bind fun bt => ashlarlaw08_PropTurned.g k bt.1 bt.2 a2
def ashlarlaw08_PropTurned.T14 : Bool × List (List Nat × List Nat) := (true, [([], []), ([], []), ([0, 1], [0, 1]), ([2], [2]), ([], []), ([], []), ([], []), ([5, 6], [5, 6]), ([7], [7]), ([], []), ([8, 9], [8, 9]), ([10], [10]), ([11], [11]), ([3, 4, 0, 1, 2, 3, 4, 5, 6, 7, 8, 9, 10, 11, 12], [3, 4]), ([13, 12, 0, 1, 2, 3, 4, 5, 6, 7, 8, 9, 10, 11, 12], [12, 13])])
def ashlarlaw08_PropTurned.B14 : List Nat := [0, 0, 3, 7, 0, 0, 0, 96, 224, 0, 992, 2016, 4064, 8191, 16383]
theorem ashlarlaw08_PropTurned.tab14 : rtab .any (opsOf Try.f8 14) = ashlarlaw08_PropTurned.T14 := by kernel_rfl
theorem ashlarlaw08_PropTurned.bits14 : waitsOk ashlarlaw08_PropTurned.T14.2 ashlarlaw08_PropTurned.B14 = true := by kernel_rfl
set_option maxHeartbeats 8000000 in
set_option maxRecDepth 100000 in
theorem ashlarlaw08_PropTurned.calls (k : Nat) (AA : Option Addr) (cA : Nat) (lA : List (List Int)) (AB : Option Addr) (cB : Nat) (lB : List Int) (a2 : Int) (r : Bool) (wA : World) (hr0 : Kd.C (Kd.slice 3 (Kd.int .i64)) wA AA lA.length lA) (hc0 : lA.length ≤ cA) (hr1 : Kd.C (Kd.int .i8) wA AB lB.length lB) (hc1 : lB.length ≤ cB) (h0 : ashlarlaw08_PropTurned.f k lA lB a2 = some r) :
    Calls Try.prog 8 #[.slice AA lA.length cA, .slice AB lB.length cB, .int .i64 a2] wA fun e w' => e = .returned (.bool r) ∧ Below wA.heap.size wA w' := by
  have HRA := Aside0.mk hr0
  have HCA := Aside0.mk hc0
  have HRB := Aside0.mk hr1
  have HCB := Aside0.mk hc1
  clear hr0 hc0 hr1 hc1
  have HBA := Aside0.mk (Below.refl wA.heap.size wA)
  obtain ⟨⟨l0, l1⟩, hf0, h⟩ := Option.bind_eq_some_iff.mp h0
  have AF := Aside0.mk hf0
  clear hf0 h0
  unfold ashlarlaw08_PropTurned.g at h
  have H : ((ashlarlaw08_shown.f k).bind fun t200 => (if (l1.length : Int) < 2 then (some t200) else (if (wrap64 ((l1.length : Int) - 1)) = 0 then (none) else ((ashlarlaw08_few.f k l0 l1).bind fun bt201 => (ashlarlaw08_PropTurned.l0 (ashlarlaw08_PropTurned.s l0 t200 l1 (wrap64 (1 + (Int.tmod (Go.bits .and .i64 a2 65535) (wrap64 ((l1.length : Int) - 1)))))) k l1 (wrap64 (1 + (Int.tmod (Go.bits .and .i64 a2 65535) (wrap64 ((l1.length : Int) - 1))))) bt201.1 bt201.2 0))))) = some r := h
  clear h
  replace H := Option.bind_eq_some_iff.mp H
  obtain ⟨t200, A40, H⟩ := H
  replace H : (if (l1.length : Int) < 2 then (some t200) else (if (wrap64 ((l1.length : Int) - 1)) = 0 then (none) else ((ashlarlaw08_few.f k l0 l1).bind fun bt201 => (ashlarlaw08_PropTurned.l0 (ashlarlaw08_PropTurned.s l0 t200 l1 (wrap64 (1 + (Int.tmod (Go.bits .and .i64 a2 65535) (wrap64 ((l1.length : Int) - 1)))))) k l1 (wrap64 (1 + (Int.tmod (Go.bits .and .i64 a2 65535) (wrap64 ((l1.length : Int) - 1))))) bt201.1 bt201.2 0)))) = some r := H
  have A4 := Aside0.mk A40
  clear A40
  by_cases c5 : (l1.length : Int) < 2
  · rw [if_pos c5] at H
    have c5b0 : decide ((l1.length : Int) < 2) = true := decide_eq_true c5
    have c5b1 : decide (l1.length < 2) = true := decide_eq_true (by omega)
    clear c5
    obtain rfl := Option.some.inj H
    go_enter Try.func8, Try.ntmps8
    go_wp2_with (first | ((with_reducible refine gate_callee (f := 12) rfl ?_); refine goesL_ (some 16) rfl rfl Try.func12 (by kernel_rfl) rfl #[] rfl (by (try simp only [List.map_toArray, List.map_cons, List.map_nil]); first | done | rfl | (simp only [List.length_drop, List.length_take]; rfl)) ?_; (with_reducible refine (ashlarlaw08_shown.calls k  t200 _ A4.out).mono ?_); rintro e w6 ⟨rfl, hb⟩; refine ⟨_, rfl, ?_⟩; have n0_ := Aside0.mk (below_step (by repeat (first | (with_reducible first | exact HBA.out | apply below_alloc | apply pw_below_drewN | apply below_drew1) | exact HBA.out)) hb); clear HBA; have HBA := n0_; clear n0_; (try clear hb); (try clear hb2); (try clear hk); (try clear hi)) | ((with_reducible refine gate_callee (f := 13) rfl ?_); refine goesL_ (some 20) rfl rfl Try.func13 (by kernel_rfl) rfl #[.slice AA lA.length cA, .slice AB lB.length cB] rfl (by (try simp only [List.map_toArray, List.map_cons, List.map_nil]); first | done | rfl | (simp only [List.length_drop, List.length_take]; rfl)) ?_; (with_reducible refine (ashlarlaw08_few.calls k AA cA lA AB cB lB l0 l1 _ (Kd.C_below HRA.out (by repeat (first | (with_reducible first | exact HBA.out | apply below_alloc | apply pw_below_drewN | apply below_drew1) | exact HBA.out))) HCA.out (Kd.C_below HRB.out (by repeat (first | (with_reducible first | exact HBA.out | apply below_alloc | apply pw_below_drewN | apply below_drew1) | exact HBA.out))) HCB.out AF.out).mono ?_); rintro e w ⟨vL, vA, rfl, ho0, ho1, hb⟩; clear AF HRA HCA HRB HCB; obtain ⟨A0, c0, eA⟩ := Kd.S_slice ho0; subst eA; obtain ⟨A1, c1, eB⟩ := Kd.R_slice ho1; subst eB; refine ⟨_, rfl, ?_⟩; have HOL := Aside0.mk (Kd.S_lower ho0 (below_size (by repeat (first | (with_reducible first | exact HBA.out | apply below_alloc | apply pw_below_drewN | apply below_drew1) | exact HBA.out)))); have HOA := Aside0.mk (Kd.R_lower ho1 (below_size (by repeat (first | (with_reducible first | exact HBA.out | apply below_alloc | apply pw_below_drewN | apply below_drew1) | exact HBA.out)))); have n0_ := Aside0.mk (below_step (by repeat (first | (with_reducible first | exact HBA.out | apply below_alloc | apply pw_below_drewN | apply below_drew1) | exact HBA.out)) hb); clear HBA; have HBA := n0_; clear n0_; have HR0 := Aside0.mk (Kd.S_reads' ho0).2.2; have HC0 := Aside0.mk (Kd.S_reads' ho0).2.1; have HR1 := Aside0.mk (Kd.R_reads' ho1).2.2; have HC1 := Aside0.mk (Kd.R_reads' ho1).2.1; have HB := Aside0.mk (Below.refl w.heap.size w); clear ho0 ho1 hb))
    go_ret
    exact ⟨by first | rfl | (simp [errW_none, errW_some] <;> rfl) | (simp [*, errW_none, errW_some] <;> rfl), below_step HBA.out (by repeat (first | (with_reducible first | exact HB.out | apply below_alloc | apply pw_below_drewN | apply below_drew1) | exact HB.out))⟩
  · rw [if_neg c5] at H
    have c5b0 : decide ((l1.length : Int) < 2) = false := decide_eq_false c5
    have c5b1 : decide (l1.length < 2) = false := decide_eq_false (by omega)
    clear c5
    by_cases c7 : (wrap64 ((l1.length : Int) - 1)) = 0
    · rw [if_pos c7] at H
      exact absurd H (by simp)
    · rw [if_neg c7] at H
      have c7b0 : ((wrap64 ((l1.length : Int) - 1)) == 0) = false := beq_eq_false_iff_ne.mpr c7
      have c7b1 : ((wrap64 ((l1.length : Int) - 1)) != 0) = true := bne_iff_ne.mpr c7
      replace H := Option.bind_eq_some_iff.mp H
      obtain ⟨⟨t201, t202⟩, A80, H⟩ := H
      replace H : (ashlarlaw08_PropTurned.l0 (ashlarlaw08_PropTurned.s l0 t200 l1 (wrap64 (1 + (Int.tmod (Go.bits .and .i64 a2 65535) (wrap64 ((l1.length : Int) - 1)))))) k l1 (wrap64 (1 + (Int.tmod (Go.bits .and .i64 a2 65535) (wrap64 ((l1.length : Int) - 1))))) t201 t202 0) = some r := H
      have A8 := Aside0.mk A80
      clear A80
      have H' := Aside0.mk H
      clear H
      go_enter Try.func8, Try.ntmps8
      go_wp2_with (first | ((with_reducible refine gate_callee (f := 12) rfl ?_); refine goesL_ (some 16) rfl rfl Try.func12 (by kernel_rfl) rfl #[] rfl (by (try simp only [List.map_toArray, List.map_cons, List.map_nil]); first | done | rfl | (simp only [List.length_drop, List.length_take]; rfl)) ?_; (with_reducible refine (ashlarlaw08_shown.calls k  t200 _ A4.out).mono ?_); rintro e w9 ⟨rfl, hb⟩; refine ⟨_, rfl, ?_⟩; have n0_ := Aside0.mk (below_step (by repeat (first | (with_reducible first | exact HBA.out | apply below_alloc | apply pw_below_drewN | apply below_drew1) | exact HBA.out)) hb); clear HBA; have HBA := n0_; clear n0_; (try clear hb); (try clear hb2); (try clear hk); (try clear hi)) | ((with_reducible refine gate_callee (f := 13) rfl ?_); refine goesL_ (some 20) rfl rfl Try.func13 (by kernel_rfl) rfl #[.slice AA lA.length cA, .slice AB lB.length cB] rfl (by (try simp only [List.map_toArray, List.map_cons, List.map_nil]); first | done | rfl | (simp only [List.length_drop, List.length_take]; rfl)) ?_; (with_reducible refine (ashlarlaw08_few.calls k AA cA lA AB cB lB l0 l1 _ (Kd.C_below HRA.out (by repeat (first | (with_reducible first | exact HBA.out | apply below_alloc | apply pw_below_drewN | apply below_drew1) | exact HBA.out))) HCA.out (Kd.C_below HRB.out (by repeat (first | (with_reducible first | exact HBA.out | apply below_alloc | apply pw_below_drewN | apply below_drew1) | exact HBA.out))) HCB.out AF.out).mono ?_); rintro e w ⟨vL, vA, rfl, ho0, ho1, hb⟩; clear AF HRA HCA HRB HCB; obtain ⟨A0, c0, eA⟩ := Kd.S_slice ho0; subst eA; obtain ⟨A1, c1, eB⟩ := Kd.R_slice ho1; subst eB; refine ⟨_, rfl, ?_⟩; have HOL := Aside0.mk (Kd.S_lower ho0 (below_size (by repeat (first | (with_reducible first | exact HBA.out | apply below_alloc | apply pw_below_drewN | apply below_drew1) | exact HBA.out)))); have HOA := Aside0.mk (Kd.R_lower ho1 (below_size (by repeat (first | (with_reducible first | exact HBA.out | apply below_alloc | apply pw_below_drewN | apply below_drew1) | exact HBA.out)))); have n0_ := Aside0.mk (below_step (by repeat (first | (with_reducible first | exact HBA.out | apply below_alloc | apply pw_below_drewN | apply below_drew1) | exact HBA.out)) hb); clear HBA; have HBA := n0_; clear n0_; have HR0 := Aside0.mk (Kd.S_reads' ho0).2.2; have HC0 := Aside0.mk (Kd.S_reads' ho0).2.1; have HR1 := Aside0.mk (Kd.R_reads' ho1).2.2; have HC1 := Aside0.mk (Kd.R_reads' ho1).2.1; have HB := Aside0.mk (Below.refl w.heap.size w); clear ho0 ho1 hb) | ((with_reducible refine gate_callee (f := 13) rfl ?_); refine goesL_ (some 37) rfl rfl Try.func13 (by kernel_rfl) rfl #[.slice A0 l0.length c0, .slice A1 l1.length c1] rfl (by (try simp only [List.map_toArray, List.map_cons, List.map_nil]); first | done | rfl | (simp only [List.length_drop, List.length_take]; rfl)) ?_; (with_reducible refine (ashlarlaw08_few.calls k _ _ l0 _ _ l1 t201 t202 _ ?side1 ?side2 ?side3 ?side4 A8.out).mono ?_); (case side1 => repeat (first | exact (Kd.C_below HR0.out HB.out) | (with_reducible refine Kd.C_alloc ?_ _) | (with_reducible refine Kd.C_drewN ?_ _) | (with_reducible refine Kd.C_drew ?_))); (case side2 => exact HC0.out); (case side3 => repeat (first | exact (Kd.C_below HR1.out HB.out) | (with_reducible refine Kd.C_alloc ?_ _) | (with_reducible refine Kd.C_drewN ?_ _) | (with_reducible refine Kd.C_drew ?_))); (case side4 => exact HC1.out); rintro e w10 ⟨v203, v205, rfl, ho0, ho1, hb⟩; refine ⟨_, rfl, ?_⟩; have n0_ := Aside0.mk (Kd.S_lower ho0 (below_size (by repeat (first | (with_reducible first | exact HB.out | apply below_alloc | apply pw_below_drewN | apply below_drew1) | exact HB.out)))); have n1_ := Aside0.mk (Kd.R_lower ho1 (below_size (by repeat (first | (with_reducible first | exact HB.out | apply below_alloc | apply pw_below_drewN | apply below_drew1) | exact HB.out)))); have n2_ := Aside0.mk (below_step (by repeat (first | (with_reducible first | exact HB.out | apply below_alloc | apply pw_below_drewN | apply below_drew1) | exact HB.out)) hb); clear HB; have HO204 := n0_; have HO206 := n1_; have HB := n2_; clear n0_ n1_ n2_; (try clear hb); (try clear hb2); (try clear hk); (try clear hi); (try clear ho0); (try clear ho1)))
      go_loopg [10] k (fun kq v10 w' => ∃ (x8_1 : List (List Int)) (x10_1 : Int), v10 = .int .i64 x10_1 ∧ Aside0 (ashlarlaw08_PropTurned.l0 (ashlarlaw08_PropTurned.s l0 t200 l1 (wrap64 (1 + (Int.tmod (Go.bits .and .i64 a2 65535) (wrap64 ((l1.length : Int) - 1)))))) kq l1 (wrap64 (1 + (Int.tmod (Go.bits .and .i64 a2 65535) (wrap64 ((l1.length : Int) - 1))))) x8_1 t202 x10_1 = some r) ∧ Aside0 (kq ≤ k) ∧ Aside0 (Kd.S (Kd.slice 3 (Kd.int .i64)) 35 w' w.heap.size (fun _ => True) v203 x8_1) ∧ Aside0 (Kd.R (Kd.int .i8) 30 w' w.heap.size (fun _ => True) v205 t202) ∧ Aside0 (Below w.heap.size w w'))
      case atStart => exact ⟨(t201), (0), (by first | rfl | (simp; done) | (simp [*]; done)), H', ⟨Nat.le_refl _⟩, ⟨by (with_reducible repeat (first | apply Kd.S_alloc | apply Kd.S_drewN | apply Kd.S_drew)); exact HO204.out⟩, ⟨by (with_reducible repeat (first | apply Kd.R_alloc | apply Kd.R_drewN | apply Kd.R_drew)); exact HO206.out⟩, ⟨by repeat (first | (with_reducible first | exact HB.out | apply below_alloc | apply pw_below_drewN | apply below_drew1) | exact HB.out)⟩⟩
      case round =>
        clear H'
        try clear c1
        try clear p2
        try clear c5
        try clear c5b0
        try clear c5b1
        try clear p6
        try clear c7
        try clear c7b0
        try clear c7b1
        try clear c8
        obtain ⟨x8_1, x10_1, rfl, HA, HK1, HO_8, HO_9, HB⟩ := hrel
        cases gk with
        | zero => exact absurd HA.out (by simp [ashlarlaw08_PropTurned.l0])
        | succ k1 =>
          have H := HA.out
          clear HA
          simp only [ashlarlaw08_PropTurned.l0] at H
          by_cases c11 : x10_1 < (x8_1.length : Int)
          · rw [if_pos c11] at H
            have c11b0 : decide (x10_1 < (x8_1.length : Int)) = true := decide_eq_true c11
            clear c11
            have H' := Aside0.mk H
            clear H
            obtain ⟨Ao12, co12, eo12⟩ := Kd.S_slice HO_8.out
            subst eo12
            go_wp2
            go_loopg [11] k1 (fun kq v11 w' => ∃ (x8_2 : List (List Int)) (x11_2 : Int), v11 = .int .i64 x11_2 ∧ Aside0 (ashlarlaw08_PropTurned.l1 (ashlarlaw08_PropTurned.s l0 t200 l1 (wrap64 (1 + (Int.tmod (Go.bits .and .i64 a2 65535) (wrap64 ((l1.length : Int) - 1)))))) kq l1 (wrap64 (1 + (Int.tmod (Go.bits .and .i64 a2 65535) (wrap64 ((l1.length : Int) - 1))))) x8_2 t202 x10_1 x11_2 = some r) ∧ Aside0 (kq ≤ k1) ∧ Aside0 (Kd.S (Kd.slice 3 (Kd.int .i64)) 35 w' w.heap.size (fun _ => True) (.slice Ao12 x8_1.length co12) x8_2) ∧ Aside0 (Kd.R (Kd.int .i8) 30 w' w.heap.size (fun _ => True) v205 t202) ∧ Aside0 (Below w.heap.size w w'))
            case atStart => exact ⟨(x8_1), (0), (by first | rfl | (simp; done) | (simp [*]; done)), H', ⟨Nat.le_refl _⟩, ⟨by (with_reducible repeat (first | apply Kd.S_alloc | apply Kd.S_drewN | apply Kd.S_drew)); exact HO_8.out⟩, ⟨by (with_reducible repeat (first | apply Kd.R_alloc | apply Kd.R_drewN | apply Kd.R_drew)); exact HO_9.out⟩, ⟨by repeat (first | (with_reducible first | exact HB.out | apply below_alloc | apply pw_below_drewN | apply below_drew1) | exact HB.out)⟩⟩
            case round =>
              clear H'
              try clear c1
              try clear p2
              try clear c5
              try clear c5b0
              try clear c5b1
              try clear p6
              try clear c7
              try clear c7b0
              try clear c7b1
              try clear c8
              try clear c11
              try clear c11b0
              try clear c12
              try clear p2
              try clear p6
              obtain ⟨x8_2, x11_2, rfl, HA, HK2, HO_8, HO_9, HB⟩ := hrel
              have hl8_2 := (Kd.S_reads' HO_8.out).1
              rw [hl8_2] at HO_8
              (try simp only [hl8_2])
              (try simp only [hl8_2] at HO_9)
              cases gk with
              | zero => exact absurd HA.out (by simp [ashlarlaw08_PropTurned.l1])
              | succ k2 =>
                have H := HA.out
                clear HA
                simp only [ashlarlaw08_PropTurned.l1] at H
                by_cases c13 : 0 ≤ x10_1
                · rw [if_pos c13] at H
                  have c13b0 : decide (0 ≤ x10_1) = true := decide_eq_true c13
                  clear c13
                  by_cases c14 : x10_1 < (x8_2.length : Int)
                  · rw [if_pos c14] at H
                    have c14b0 : decide (x10_1 < (x8_2.length : Int)) = true := decide_eq_true c14
                    clear c14
                    by_cases c15 : x11_2 < ((rd_L2 x8_2 x10_1).length : Int)
                    · rw [if_pos c15] at H
                      have c15b0 : decide (x11_2 < ((rd_L2 x8_2 x10_1).length : Int)) = true := decide_eq_true c15
                      clear c15
                      by_cases c16 : 0 ≤ x11_2
                      · rw [if_pos c16] at H
                        have c16b0 : decide (0 ≤ x11_2) = true := decide_eq_true c16
                        clear c16
                        by_cases c17 : (rd (rd_L2 x8_2 x10_1) x11_2) = (wrap64 (1 + (Int.tmod (Go.bits .and .i64 a2 65535) (wrap64 ((l1.length : Int) - 1)))))
                        · rw [if_pos c17] at H
                          have c17b0 : ((rd (rd_L2 x8_2 x10_1) x11_2) == (wrap64 (1 + (Int.tmod (Go.bits .and .i64 a2 65535) (wrap64 ((l1.length : Int) - 1)))))) = true := beq_iff_eq.mpr c17
                          have c17b1 : ((rd (rd_L2 x8_2 x10_1) x11_2) != (wrap64 (1 + (Int.tmod (Go.bits .and .i64 a2 65535) (wrap64 ((l1.length : Int) - 1)))))) = false := bne_eq_false_iff_eq.mpr c17
                          clear c17
                          obtain ⟨y214, hy214⟩ : ∃ y_ : List Int, y_ = ((rd_L2 x8_2 x10_1).set (x11_2 : Int).toNat (wrap64 (-(rd (rd_L2 x8_2 x10_1) x11_2)))) := ⟨_, rfl⟩
                          replace H : (ashlarlaw08_PropTurned.l1 (ashlarlaw08_PropTurned.s l0 t200 l1 (wrap64 (1 + (Int.tmod (Go.bits .and .i64 a2 65535) (wrap64 ((l1.length : Int) - 1)))))) k2 l1 (wrap64 (1 + (Int.tmod (Go.bits .and .i64 a2 65535) (wrap64 ((l1.length : Int) - 1))))) (x8_2.set (x10_1 : Int).toNat y214) t202 x10_1 (wrap64 (x11_2 + 1))) = some r := by first | (rw [hy214]; with_reducible exact H) | (have H2_ := (Option.bind_some _ _).symm.trans H; rw [hy214]; with_reducible exact H2_) | (have H2_ := (Option.bind_some _ _).symm.trans H; with_reducible exact H2_) | with_reducible exact H | (rw [hy214]; exact H) | exact H
                          have Ny214 := Aside0.mk hy214
                          clear hy214
                          obtain ⟨y216, hy216⟩ : ∃ y_ : List (List Int), y_ = (x8_2.set (x10_1 : Int).toNat y214) := ⟨_, rfl⟩
                          replace H : (ashlarlaw08_PropTurned.l1 (ashlarlaw08_PropTurned.s l0 t200 l1 (wrap64 (1 + (Int.tmod (Go.bits .and .i64 a2 65535) (wrap64 ((l1.length : Int) - 1)))))) k2 l1 (wrap64 (1 + (Int.tmod (Go.bits .and .i64 a2 65535) (wrap64 ((l1.length : Int) - 1))))) y216 t202 x10_1 (wrap64 (x11_2 + 1))) = some r := by first | (rw [hy216]; with_reducible exact H) | (have H2_ := (Option.bind_some _ _).symm.trans H; rw [hy216]; with_reducible exact H2_) | (have H2_ := (Option.bind_some _ _).symm.trans H; with_reducible exact H2_) | with_reducible exact H | (rw [hy216]; exact H) | exact H
                          have Ny216 := Aside0.mk hy216
                          clear hy216
                          have H' := Aside0.mk H
                          clear H
                          have p208 : 0 ≤ (x10_1 : Int) := of_decide_eq_true (by first | (with_reducible assumption) | assumption)
                          have q208 : x10_1 < (x8_2.length : Int) := of_decide_eq_true (by first | (with_reducible assumption) | assumption)
                          obtain ⟨ad208, A208_0, c208_0, e208, hx208_0, hl208_0, hi208_0⟩ := at_L2 (Kd.S_reads' HO_8.out).2.2 x10_1 p208 q208
                          cases e208
                          obtain ⟨ce208, hce208, hMe208, hcc208⟩ := Kd.S_get HO_8.out [] x10_1 p208 (by first | exact q208 | exact of_decide_eq_true (by first | (with_reducible assumption) | assumption) | (have e_ := (Kd.S_reads' HO_8.out).1; omega))
                          obtain ⟨ve208_0, rfl, ge208_0⟩ := hMe208
                          have hv208_0 := hcc208 0 _ rfl
                          rw [Nat.add_zero, show ((Kd.slice 3 (Kd.int .i64))).sz = 1 from rfl, Nat.mul_one] at hv208_0
                          replace hv208_0 := Option.some.inj (hv208_0.symm.trans hx208_0)
                          rw [hv208_0] at ge208_0
                          have HL208_0 := Aside0.mk (show Kd.R (Kd.int .i64) 3 _ _ _ _ (rd_L2 x8_2 x10_1) from ge208_0)
                          clear hv208_0 ge208_0
                          have HX208_0 := Aside0.mk hx208_0
                          clear hcc208 hce208
                          have HR208_0 := Aside0.mk hi208_0
                          have HC208_0 := Aside0.mk hl208_0
                          clear hi208_0 hl208_0
                          replace p208 := eq_true p208
                          replace q208 := eq_true q208
                          have p209 : 0 ≤ (x10_1 : Int) := of_decide_eq_true (by first | (with_reducible assumption) | assumption)
                          have q209 : x10_1 < (x8_2.length : Int) := of_decide_eq_true (by first | (with_reducible assumption) | assumption)
                          obtain ⟨ad209, A209_0, c209_0, e209, hx209_0, hl209_0, hi209_0⟩ := at_L2 (Kd.S_reads' HO_8.out).2.2 x10_1 p209 q209
                          obtain rfl : ad208 = ad209 := (by injection e209)
                          obtain ⟨ce209, hce209, hMe209, hcc209⟩ := Kd.S_get HO_8.out [] x10_1 p209 (by first | exact q209 | exact of_decide_eq_true (by first | (with_reducible assumption) | assumption) | (have e_ := (Kd.S_reads' HO_8.out).1; omega))
                          obtain ⟨ve209_0, rfl, ge209_0⟩ := hMe209
                          have hv209_0 := hcc209 0 _ rfl
                          rw [Nat.add_zero, show ((Kd.slice 3 (Kd.int .i64))).sz = 1 from rfl, Nat.mul_one] at hv209_0
                          replace hv209_0 := Option.some.inj (hv209_0.symm.trans hx209_0)
                          rw [hv209_0] at ge209_0
                          have HL209_0 := Aside0.mk (show Kd.R (Kd.int .i64) 3 _ _ _ _ (rd_L2 x8_2 x10_1) from ge209_0)
                          clear hv209_0 ge209_0
                          have HX209_0 := Aside0.mk hx209_0
                          clear hcc209 hce209
                          have HR209_0 := Aside0.mk hi209_0
                          have HC209_0 := Aside0.mk hl209_0
                          clear hi209_0 hl209_0
                          replace p209 := eq_true p209
                          replace q209 := eq_true q209
                          have ea_ := Option.some.inj (hx208_0.symm.trans hx209_0)
                          injection ea_ with ea_ en_ ec_
                          subst ea_
                          subst ec_
                          clear en_
                          have p210 : 0 ≤ (x11_2 : Int) := of_decide_eq_true (by first | (with_reducible assumption) | assumption)
                          have q210 : x11_2 < ((rd_L2 x8_2 x10_1).length : Int) := of_decide_eq_true (by first | (with_reducible assumption) | assumption)
                          obtain ⟨ad210, e210, hx210_0⟩ := Kd.at_int (by repeat (first | (with_reducible exact HR209_0.out) | (with_reducible refine Kd.C_alloc ?_ _) | (with_reducible refine Kd.C_drewN ?_ _) | (with_reducible refine Kd.C_drew ?_) | exact HR209_0.out)) x11_2 p210 q210
                          cases e210
                          replace p210 := eq_true p210
                          replace q210 := eq_true q210
                          try go_wp2
                          have n0_ := Aside0.mk (Kd.S_drew HO_8.out)
                          have n1_ := Aside0.mk (Kd.R_drew HO_9.out)
                          have n2_ := Aside0.mk (Kd.R_drew HL208_0.out)
                          have n3_ := Aside0.mk (Kd.R_drew HL209_0.out)
                          have n4_ := Aside0.mk (Kd.C_drew HR208_0.out)
                          have n5_ := Aside0.mk (Kd.C_drew HR209_0.out)
                          have n6_ := Aside0.mk (below_drew1 HB.out)
                          clear HO_8
                          clear HO_9
                          clear HL208_0
                          clear HL209_0
                          clear HR208_0
                          clear HR209_0
                          clear HB
                          have HO_8 := n0_
                          have HO_9 := n1_
                          have HL208_0 := n2_
                          have HL209_0 := n3_
                          have HR208_0 := n4_
                          have HR209_0 := n5_
                          have HB := n6_
                          clear n0_ n1_ n2_ n3_ n4_ n5_ n6_
                          have p211 : 0 ≤ (x10_1 : Int) := of_decide_eq_true (by first | (with_reducible assumption) | assumption)
                          have q211 : x10_1 < (x8_2.length : Int) := of_decide_eq_true (by first | (with_reducible assumption) | assumption)
                          obtain ⟨ad211, A211_0, c211_0, e211, hx211_0, hl211_0, hi211_0⟩ := at_L2 (Kd.S_reads' HO_8.out).2.2 x10_1 p211 q211
                          obtain rfl : ad208 = ad211 := (by injection e211)
                          obtain ⟨ce211, hce211, hMe211, hcc211⟩ := Kd.S_get HO_8.out [] x10_1 p211 (by first | exact q211 | exact of_decide_eq_true (by first | (with_reducible assumption) | assumption) | (have e_ := (Kd.S_reads' HO_8.out).1; omega))
                          obtain ⟨ve211_0, rfl, ge211_0⟩ := hMe211
                          have hv211_0 := hcc211 0 _ rfl
                          rw [Nat.add_zero, show ((Kd.slice 3 (Kd.int .i64))).sz = 1 from rfl, Nat.mul_one] at hv211_0
                          replace hv211_0 := Option.some.inj (hv211_0.symm.trans hx211_0)
                          rw [hv211_0] at ge211_0
                          have HL211_0 := Aside0.mk (show Kd.R (Kd.int .i64) 3 _ _ _ _ (rd_L2 x8_2 x10_1) from ge211_0)
                          clear hv211_0 ge211_0
                          have HX211_0 := Aside0.mk hx211_0
                          clear hcc211 hce211
                          have HR211_0 := Aside0.mk hi211_0
                          have HC211_0 := Aside0.mk hl211_0
                          clear hi211_0 hl211_0
                          replace p211 := eq_true p211
                          replace q211 := eq_true q211
                          have p212 : 0 ≤ (x10_1 : Int) := of_decide_eq_true (by first | (with_reducible assumption) | assumption)
                          have q212 : x10_1 < (x8_2.length : Int) := of_decide_eq_true (by first | (with_reducible assumption) | assumption)
                          obtain ⟨ad212, A212_0, c212_0, e212, hx212_0, hl212_0, hi212_0⟩ := at_L2 (Kd.S_reads' HO_8.out).2.2 x10_1 p212 q212
                          obtain rfl : ad208 = ad212 := (by injection e212)
                          obtain ⟨ce212, hce212, hMe212, hcc212⟩ := Kd.S_get HO_8.out [] x10_1 p212 (by first | exact q212 | exact of_decide_eq_true (by first | (with_reducible assumption) | assumption) | (have e_ := (Kd.S_reads' HO_8.out).1; omega))
                          obtain ⟨ve212_0, rfl, ge212_0⟩ := hMe212
                          have hv212_0 := hcc212 0 _ rfl
                          rw [Nat.add_zero, show ((Kd.slice 3 (Kd.int .i64))).sz = 1 from rfl, Nat.mul_one] at hv212_0
                          replace hv212_0 := Option.some.inj (hv212_0.symm.trans hx212_0)
                          rw [hv212_0] at ge212_0
                          have HL212_0 := Aside0.mk (show Kd.R (Kd.int .i64) 3 _ _ _ _ (rd_L2 x8_2 x10_1) from ge212_0)
                          clear hv212_0 ge212_0
                          have HX212_0 := Aside0.mk hx212_0
                          clear hcc212 hce212
                          have HR212_0 := Aside0.mk hi212_0
                          have HC212_0 := Aside0.mk hl212_0
                          clear hi212_0 hl212_0
                          replace p212 := eq_true p212
                          replace q212 := eq_true q212
                          have ea_ := Option.some.inj (hx211_0.symm.trans hx212_0)
                          injection ea_ with ea_ en_ ec_
                          subst ea_
                          subst ec_
                          clear en_
                          have p213 : 0 ≤ (x11_2 : Int) := of_decide_eq_true (by first | (with_reducible assumption) | assumption)
                          have q213 : x11_2 < ((rd_L2 x8_2 x10_1).length : Int) := of_decide_eq_true (by first | (with_reducible assumption) | assumption)
                          obtain ⟨ad213, e213, hx213_0⟩ := Kd.at_int (by repeat (first | (with_reducible exact HR212_0.out) | (with_reducible refine Kd.C_alloc ?_ _) | (with_reducible refine Kd.C_drewN ?_ _) | (with_reducible refine Kd.C_drew ?_) | exact HR212_0.out)) x11_2 p213 q213
                          cases e213
                          replace p213 := eq_true p213
                          replace q213 := eq_true q213
                          have p18 : 0 ≤ (x11_2 : Int) := of_decide_eq_true (by first | (with_reducible assumption) | assumption)
                          have q18 : (x11_2 : Int) < (((rd_L2 x8_2 x10_1).length : Int) : Int) := of_decide_eq_true (by first | (with_reducible assumption) | assumption)
                          obtain ⟨go18, co18, eo18, gb18, gl18, cl18, HG18⟩ := Kd.R_form HL211_0.out (by omega)
                          (first | cases eo18 | (injection eo18 with ea_ en_ ec_; (first | subst ea_ | (injection ea_ with ea_; subst ea_)); subst ec_; clear en_))
                          have GB18 := Aside0.mk gb18
                          have GG18 := Aside0.mk HG18
                          clear gb18 gl18 HG18
                          (first | simp only [add_plain] at hx213_0 | skip)
                          obtain ⟨hx18_0, hf18_0⟩ := Kd.R_celln 0 HL211_0.out (x11_2 : Int) p18 q18
                          replace p18 := eq_true p18
                          replace q18 := eq_true q18
                          have hq20 : (x10_1 : Int) < (x8_2.length : Int) := (by have h_ : (x10_1 : Int) < ((x8_2.length : Int) : Int) := of_decide_eq_true (by first | (with_reducible assumption) | assumption); first | exact h_ | (have e_ := (Kd.S_reads' HO_8.out).1; omega) | simpa only [List.length_set, List.length_set] using h_)
                          obtain ⟨oki20, ce20, hcl20, hM20, hcc20, hok20, hbk20⟩ := Kd.S_borrow HO_8.out [] (x10_1 : Int) (of_decide_eq_true (by first | (with_reducible assumption) | assumption)) hq20
                          obtain ⟨ve20_0, rfl, ge20_0⟩ := hM20
                          have hv20 := hcc20 0 _ rfl
                          rw [Nat.add_zero, show ((Kd.slice 3 (Kd.int .i64))).sz = 1 from rfl, Nat.mul_one] at hv20
                          replace hv20 := Option.some.inj (hv20.symm.trans HX211_0.out)
                          subst hv20
                          clear hcc20 hcl20
                          replace ge20_0 := (show Kd.R (Kd.int .i64) 3 _ _ _ _ (rd_L2 x8_2 x10_1) from ge20_0)
                          have HP20 := Kd.R_putg ge20_0 (x11_2 : Int) (wrap64 (-(rd (rd_L2 x8_2 x10_1) x11_2)))
                          rw [← Ny214.out] at HP20
                          have HS20 := hbk20 HP20.2 (fun k_ e_ => by injection e_ with e_; subst e_; exact ge20_0.1 _ rfl) (x' := y214) (Kd.M_row HP20.1)
                          rw [← Ny216.out] at HS20
                          have HQ20 := Aside0.mk HS20
                          clear HP20 HS20 hbk20 hok20
                          refine start_ (n := 15) (S := fun w' => w'.cell? (ad208.add (x10_1).toNat) = some (.slice (some ⟨go18, 0, none⟩) (rd_L2 x8_2 x10_1).length c211_0) ∧ w'.cell? (ad208.add (x10_1).toNat) = some (.slice (some ⟨go18, 0, none⟩) (rd_L2 x8_2 x10_1).length c211_0) ∧ w'.cell? ⟨go18, (x11_2).toNat, none⟩ = some (.int .i64 (rd (rd_L2 x8_2 x10_1) x11_2))) (ds := [14]) #[false, false, false, false, false, false, false, false, false, false, false, false, false, false, false] (by kernel_rfl) rfl rfl ⟨hx211_0, hx212_0, hx213_0⟩ (fun hHeld => ?_); refine with_tabW ashlarlaw08_PropTurned.tab14 ashlarlaw08_PropTurned.bits14 (fun HT_ HW_ => ?_)
                          generalize wr.drew = w19 at HO_8 HO_9 HL208_0 HL209_0 HR208_0 HR209_0 HB GG18 HL211_0 HL212_0 HQ20 HR211_0 HR212_0 HX211_0 HX212_0 hf18_0 hx18_0 hx211_0 hx212_0 hx213_0 hHeld ⊢
                          refine pure_ (i := 0) (N := some 76) (v := ?_) (a' := ?_) #[true, false, false, false, false, false, false, false, false, false, false, false, false, false, false] rfl rfl (any_of HT_.out (by kernel_rfl)) (fun _ _ _ h => h) (Or.inl ⟨by rfl, ?_⟩) ?_ ?_
                          rotate_left
                          · intro w'
                            go_simp
                            with_reducible rfl
                          rotate_left
                          · simp only [Act.put, List.setIfInBounds_toArray, List.set_cons_zero, List.set_cons_succ, i64_w, i32_w]
                            rfl
                          refine pure_ (i := 1) (N := some 77) (v := ?_) (a' := ?_) #[true, true, false, false, false, false, false, false, false, false, false, false, false, false, false] rfl rfl (any_of HT_.out (by kernel_rfl)) (fun _ _ _ h => h) (Or.inl ⟨by rfl, ?_⟩) ?_ ?_
                          rotate_left
                          · intro w'
                            go_simp
                            with_reducible rfl
                          rotate_left
                          · simp only [Act.put, List.setIfInBounds_toArray, List.set_cons_zero, List.set_cons_succ, i64_w, i32_w]
                            rfl
                          refine pure_ (i := 2) (N := some 78) (v := ?_) (a' := ?_) #[true, true, true, false, false, false, false, false, false, false, false, false, false, false, false] rfl rfl (any_of HT_.out (by kernel_rfl)) (fun _ _ _ h => h) (Or.inl ⟨by rfl, ?_⟩) ?_ ?_
                          rotate_left
                          · intro w'
                            go_simp
                            with_reducible rfl
                          rotate_left
                          · simp only [Act.put, List.setIfInBounds_toArray, List.set_cons_zero, List.set_cons_succ, i64_w, i32_w]
                            rfl
                          refine pure_ (i := 4) (N := some 80) (v := ?_) (a' := ?_) #[true, true, true, false, true, false, false, false, false, false, false, false, false, false, false] rfl rfl (any_of HT_.out (by kernel_rfl)) (fun _ _ _ h => h) (Or.inl ⟨by rfl, ?_⟩) ?_ ?_
                          rotate_left
                          · intro w'
                            go_simp
                            with_reducible rfl
                          rotate_left
                          · simp only [Act.put, List.setIfInBounds_toArray, List.set_cons_zero, List.set_cons_succ, i64_w, i32_w]
                            rfl
                          refine pure_ (i := 5) (N := some 81) (v := ?_) (a' := ?_) #[true, true, true, false, true, true, false, false, false, false, false, false, false, false, false] rfl rfl (any_of HT_.out (by kernel_rfl)) (fun _ _ _ h => h) (Or.inl ⟨by rfl, ?_⟩) ?_ ?_
                          rotate_left
                          · intro w'
                            go_simp
                            with_reducible rfl
                          rotate_left
                          · simp only [Act.put, List.setIfInBounds_toArray, List.set_cons_zero, List.set_cons_succ, i64_w, i32_w]
                            rfl
                          refine pure_ (i := 6) (N := some 82) (v := ?_) (a' := ?_) #[true, true, true, false, true, true, true, false, false, false, false, false, false, false, false] rfl rfl (any_of HT_.out (by kernel_rfl)) (fun _ _ _ h => h) (Or.inl ⟨by rfl, ?_⟩) ?_ ?_
                          rotate_left
                          · intro w'
                            go_simp
                            with_reducible rfl
                          rotate_left
                          · simp only [Act.put, List.setIfInBounds_toArray, List.set_cons_zero, List.set_cons_succ, i64_w, i32_w]
                            rfl
                          refine pure_ (i := 7) (N := some 83) (v := ?_) (a' := ?_) #[true, true, true, false, true, true, true, true, false, false, false, false, false, false, false] rfl rfl (any_of HT_.out (by kernel_rfl)) (fun _ _ _ h => h) (Or.inl ⟨by rfl, ?_⟩) ?_ ?_
                          rotate_left
                          · intro w'
                            go_simp
                            with_reducible rfl
                          rotate_left
                          · simp only [Act.put, List.setIfInBounds_toArray, List.set_cons_zero, List.set_cons_succ, i64_w, i32_w]
                            rfl
                          refine pure_ (i := 9) (N := some 85) (v := ?_) (a' := ?_) #[true, true, true, false, true, true, true, true, false, true, false, false, false, false, false] rfl rfl (any_of HT_.out (by kernel_rfl)) (fun _ _ _ h => h) (Or.inl ⟨by rfl, ?_⟩) ?_ ?_
                          rotate_left
                          · intro w'
                            go_simp
                            with_reducible rfl
                          rotate_left
                          · simp only [Act.put, List.setIfInBounds_toArray, List.set_cons_zero, List.set_cons_succ, i64_w, i32_w]
                            rfl
                          refine take_ (i := 3) (N := some 79) (v := ?_) (a' := ?_) #[true, true, true, true, true, true, true, true, false, true, false, false, false, false, false] rfl rfl (take_ofW HT_.out HW_.out (by kernel_rfl)) (fun _ _ _ h => h) (Or.inl ⟨by rfl, ?_⟩) hHeld ?_ ?_
                          rotate_left
                          · rintro w' ⟨s0, s1, s2⟩
                            go_simp
                            with_reducible rfl
                          rotate_left
                          · simp only [Act.put, List.setIfInBounds_toArray, List.set_cons_zero, List.set_cons_succ, i64_w, i32_w]
                            rfl
                          refine take_ (i := 8) (N := some 84) (v := ?_) (a' := ?_) #[true, true, true, true, true, true, true, true, true, true, false, false, false, false, false] rfl rfl (take_ofW HT_.out HW_.out (by kernel_rfl)) (fun _ _ _ h => h) (Or.inl ⟨by rfl, ?_⟩) hHeld ?_ ?_
                          rotate_left
                          · rintro w' ⟨s0, s1, s2⟩
                            go_simp
                            with_reducible rfl
                          rotate_left
                          · simp only [Act.put, List.setIfInBounds_toArray, List.set_cons_zero, List.set_cons_succ, i64_w, i32_w]
                            rfl
                          refine pure_ (i := 10) (N := some 86) (v := ?_) (a' := ?_) #[true, true, true, true, true, true, true, true, true, true, true, false, false, false, false] rfl rfl (any_of HT_.out (by kernel_rfl)) (fun _ _ _ h => h) (Or.inl ⟨by rfl, ?_⟩) ?_ ?_
                          rotate_left
                          · intro w'
                            go_simp
                            with_reducible rfl
                          rotate_left
                          · simp only [Act.put, List.setIfInBounds_toArray, List.set_cons_zero, List.set_cons_succ, i64_w, i32_w]
                            rfl
                          refine take_ (i := 11) (N := some 87) (v := ?_) (a' := ?_) #[true, true, true, true, true, true, true, true, true, true, true, true, false, false, false] rfl rfl (take_ofW HT_.out HW_.out (by kernel_rfl)) (fun _ _ _ h => h) (Or.inl ⟨by rfl, ?_⟩) hHeld ?_ ?_
                          rotate_left
                          · rintro w' ⟨s0, s1, s2⟩
                            go_simp
                            with_reducible rfl
                          rotate_left
                          · simp only [Act.put, List.setIfInBounds_toArray, List.set_cons_zero, List.set_cons_succ, i64_w, i32_w]
                            rfl
                          refine pure_ (i := 12) (N := some 88) (v := ?_) (a' := ?_) #[true, true, true, true, true, true, true, true, true, true, true, true, true, false, false] rfl rfl (any_of HT_.out (by kernel_rfl)) (fun _ _ _ h => h) (Or.inl ⟨by rfl, ?_⟩) ?_ ?_
                          rotate_left
                          · intro w'
                            go_simp
                            with_reducible rfl
                          rotate_left
                          · simp only [Act.put, List.setIfInBounds_toArray, List.set_cons_zero, List.set_cons_succ, i64_w, i32_w]
                            rfl
                          refine pure_ (i := 13) (N := some 89) (v := ?_) (a' := ?_) #[true, true, true, true, true, true, true, true, true, true, true, true, true, true, false] rfl rfl (any_of HT_.out (by kernel_rfl)) (fun _ _ _ h => h) (Or.inl ⟨by rfl, ?_⟩) ?_ ?_
                          rotate_left
                          · intro w'
                            go_simp
                            with_reducible rfl
                          rotate_left
                          · simp only [Act.put, List.setIfInBounds_toArray, List.set_cons_zero, List.set_cons_succ, i64_w, i32_w]
                            rfl
                          refine last_ (i := 14) (N := none) #[true, true, true, true, true, true, true, true, true, true, true, true, true, true, true] rfl rfl (one_of HT_.out (by kernel_rfl)) (by decide) (fun K hK => ?_)
                          refine skip_ (w1 := ?_) (by rfl) rfl ?_ ?_
                          rotate_left
                          · go_simp
                            rfl
                          refine hK.out _ _ ?_
                          clear hK K
                          refine done_ (done_of HT_.out (by kernel_rfl)) ?_
                          try go_wp2
                          (try simp only [← hl8_2])
                          go_roundg k2
                          case measure => have := HK1.out; have := HK2.out; omega
                          case rel => exact ⟨(y216), (wrap64 (x11_2 + 1)), (by first | rfl | (simp; done) | (simp [*]; done)), H', ⟨by have := HK1.out; have := HK2.out; omega⟩, ⟨by (try simp only [hl8_2]); (with_reducible repeat (first | apply Kd.S_alloc | apply Kd.S_drewN | apply Kd.S_drew)); exact HQ20.out⟩, ⟨by (try simp only [hl8_2]); (with_reducible repeat (first | apply Kd.R_alloc | apply Kd.R_drewN | apply Kd.R_drew)); exact Kd.R_mono (Kd.R_far (p := ⟨go18, (x11_2 : Int).toNat, none⟩) (Kd.R_types HO_9.out GG18.out (by decide)) (fun _ hk => hk.2) (.int .i64 (wrap64 (-(rd (rd_L2 x8_2 x10_1) x11_2))))) (fun _ hk => trivial)⟩, ⟨by repeat (first | (with_reducible first | exact HB.out | apply below_alloc | apply pw_below_drewN | apply below_drew1 | refine below_set ?_ GB18.out) | exact HB.out)⟩⟩
                        · rw [if_neg c17] at H
                          have c17b0 : ((rd (rd_L2 x8_2 x10_1) x11_2) == (wrap64 (1 + (Int.tmod (Go.bits .and .i64 a2 65535) (wrap64 ((l1.length : Int) - 1)))))) = false := beq_eq_false_iff_ne.mpr c17
                          have c17b1 : ((rd (rd_L2 x8_2 x10_1) x11_2) != (wrap64 (1 + (Int.tmod (Go.bits .and .i64 a2 65535) (wrap64 ((l1.length : Int) - 1)))))) = true := bne_iff_ne.mpr c17
                          by_cases c22 : (rd (rd_L2 x8_2 x10_1) x11_2) = (wrap64 (-(wrap64 (1 + (Int.tmod (Go.bits .and .i64 a2 65535) (wrap64 ((l1.length : Int) - 1)))))))
                          · rw [if_pos c22] at H
                            have c22b0 : ((rd (rd_L2 x8_2 x10_1) x11_2) == (wrap64 (-(wrap64 (1 + (Int.tmod (Go.bits .and .i64 a2 65535) (wrap64 ((l1.length : Int) - 1)))))))) = true := beq_iff_eq.mpr c22
                            have c22b1 : ((rd (rd_L2 x8_2 x10_1) x11_2) != (wrap64 (-(wrap64 (1 + (Int.tmod (Go.bits .and .i64 a2 65535) (wrap64 ((l1.length : Int) - 1)))))))) = false := bne_eq_false_iff_eq.mpr c22
                            clear c22
                            obtain ⟨y222, hy222⟩ : ∃ y_ : List Int, y_ = ((rd_L2 x8_2 x10_1).set (x11_2 : Int).toNat (wrap64 (-(rd (rd_L2 x8_2 x10_1) x11_2)))) := ⟨_, rfl⟩
                            replace H : (ashlarlaw08_PropTurned.l1 (ashlarlaw08_PropTurned.s l0 t200 l1 (wrap64 (1 + (Int.tmod (Go.bits .and .i64 a2 65535) (wrap64 ((l1.length : Int) - 1)))))) k2 l1 (wrap64 (1 + (Int.tmod (Go.bits .and .i64 a2 65535) (wrap64 ((l1.length : Int) - 1))))) (x8_2.set (x10_1 : Int).toNat y222) t202 x10_1 (wrap64 (x11_2 + 1))) = some r := by first | (rw [hy222]; with_reducible exact H) | (have H2_ := (Option.bind_some _ _).symm.trans H; rw [hy222]; with_reducible exact H2_) | (have H2_ := (Option.bind_some _ _).symm.trans H; with_reducible exact H2_) | with_reducible exact H | (rw [hy222]; exact H) | exact H
                            have Ny222 := Aside0.mk hy222
                            clear hy222
                            obtain ⟨y224, hy224⟩ : ∃ y_ : List (List Int), y_ = (x8_2.set (x10_1 : Int).toNat y222) := ⟨_, rfl⟩
                            replace H : (ashlarlaw08_PropTurned.l1 (ashlarlaw08_PropTurned.s l0 t200 l1 (wrap64 (1 + (Int.tmod (Go.bits .and .i64 a2 65535) (wrap64 ((l1.length : Int) - 1)))))) k2 l1 (wrap64 (1 + (Int.tmod (Go.bits .and .i64 a2 65535) (wrap64 ((l1.length : Int) - 1))))) y224 t202 x10_1 (wrap64 (x11_2 + 1))) = some r := by first | (rw [hy224]; with_reducible exact H) | (have H2_ := (Option.bind_some _ _).symm.trans H; rw [hy224]; with_reducible exact H2_) | (have H2_ := (Option.bind_some _ _).symm.trans H; with_reducible exact H2_) | with_reducible exact H | (rw [hy224]; exact H) | exact H
                            have Ny224 := Aside0.mk hy224
                            clear hy224
                            have H' := Aside0.mk H
                            clear H
                            have p208 : 0 ≤ (x10_1 : Int) := of_decide_eq_true (by first | (with_reducible assumption) | assumption)
                            have q208 : x10_1 < (x8_2.length : Int) := of_decide_eq_true (by first | (with_reducible assumption) | assumption)
                            obtain ⟨ad208, A208_0, c208_0, e208, hx208_0, hl208_0, hi208_0⟩ := at_L2 (Kd.S_reads' HO_8.out).2.2 x10_1 p208 q208
                            cases e208
                            obtain ⟨ce208, hce208, hMe208, hcc208⟩ := Kd.S_get HO_8.out [] x10_1 p208 (by first | exact q208 | exact of_decide_eq_true (by first | (with_reducible assumption) | assumption) | (have e_ := (Kd.S_reads' HO_8.out).1; omega))
                            obtain ⟨ve208_0, rfl, ge208_0⟩ := hMe208
                            have hv208_0 := hcc208 0 _ rfl
                            rw [Nat.add_zero, show ((Kd.slice 3 (Kd.int .i64))).sz = 1 from rfl, Nat.mul_one] at hv208_0
                            replace hv208_0 := Option.some.inj (hv208_0.symm.trans hx208_0)
                            rw [hv208_0] at ge208_0
                            have HL208_0 := Aside0.mk (show Kd.R (Kd.int .i64) 3 _ _ _ _ (rd_L2 x8_2 x10_1) from ge208_0)
                            clear hv208_0 ge208_0
                            have HX208_0 := Aside0.mk hx208_0
                            clear hcc208 hce208
                            have HR208_0 := Aside0.mk hi208_0
                            have HC208_0 := Aside0.mk hl208_0
                            clear hi208_0 hl208_0
                            replace p208 := eq_true p208
                            replace q208 := eq_true q208
                            have p209 : 0 ≤ (x10_1 : Int) := of_decide_eq_true (by first | (with_reducible assumption) | assumption)
                            have q209 : x10_1 < (x8_2.length : Int) := of_decide_eq_true (by first | (with_reducible assumption) | assumption)
                            obtain ⟨ad209, A209_0, c209_0, e209, hx209_0, hl209_0, hi209_0⟩ := at_L2 (Kd.S_reads' HO_8.out).2.2 x10_1 p209 q209
                            obtain rfl : ad208 = ad209 := (by injection e209)
                            obtain ⟨ce209, hce209, hMe209, hcc209⟩ := Kd.S_get HO_8.out [] x10_1 p209 (by first | exact q209 | exact of_decide_eq_true (by first | (with_reducible assumption) | assumption) | (have e_ := (Kd.S_reads' HO_8.out).1; omega))
                            obtain ⟨ve209_0, rfl, ge209_0⟩ := hMe209
                            have hv209_0 := hcc209 0 _ rfl
                            rw [Nat.add_zero, show ((Kd.slice 3 (Kd.int .i64))).sz = 1 from rfl, Nat.mul_one] at hv209_0
                            replace hv209_0 := Option.some.inj (hv209_0.symm.trans hx209_0)
                            rw [hv209_0] at ge209_0
                            have HL209_0 := Aside0.mk (show Kd.R (Kd.int .i64) 3 _ _ _ _ (rd_L2 x8_2 x10_1) from ge209_0)
                            clear hv209_0 ge209_0
                            have HX209_0 := Aside0.mk hx209_0
                            clear hcc209 hce209
                            have HR209_0 := Aside0.mk hi209_0
                            have HC209_0 := Aside0.mk hl209_0
                            clear hi209_0 hl209_0
                            replace p209 := eq_true p209
                            replace q209 := eq_true q209
                            have ea_ := Option.some.inj (hx208_0.symm.trans hx209_0)
                            injection ea_ with ea_ en_ ec_
                            subst ea_
                            subst ec_
                            clear en_
                            have p210 : 0 ≤ (x11_2 : Int) := of_decide_eq_true (by first | (with_reducible assumption) | assumption)
                            have q210 : x11_2 < ((rd_L2 x8_2 x10_1).length : Int) := of_decide_eq_true (by first | (with_reducible assumption) | assumption)
                            obtain ⟨ad210, e210, hx210_0⟩ := Kd.at_int (by repeat (first | (with_reducible exact HR209_0.out) | (with_reducible refine Kd.C_alloc ?_ _) | (with_reducible refine Kd.C_drewN ?_ _) | (with_reducible refine Kd.C_drew ?_) | exact HR209_0.out)) x11_2 p210 q210
                            cases e210
                            replace p210 := eq_true p210
                            replace q210 := eq_true q210
                            have p217 : 0 ≤ (x10_1 : Int) := of_decide_eq_true (by first | (with_reducible assumption) | assumption)
                            have q217 : x10_1 < (x8_2.length : Int) := of_decide_eq_true (by first | (with_reducible assumption) | assumption)
                            obtain ⟨ad217, A217_0, c217_0, e217, hx217_0, hl217_0, hi217_0⟩ := at_L2 (Kd.S_reads' HO_8.out).2.2 x10_1 p217 q217
                            obtain rfl : ad208 = ad217 := (by injection e217)
                            obtain ⟨ce217, hce217, hMe217, hcc217⟩ := Kd.S_get HO_8.out [] x10_1 p217 (by first | exact q217 | exact of_decide_eq_true (by first | (with_reducible assumption) | assumption) | (have e_ := (Kd.S_reads' HO_8.out).1; omega))
                            obtain ⟨ve217_0, rfl, ge217_0⟩ := hMe217
                            have hv217_0 := hcc217 0 _ rfl
                            rw [Nat.add_zero, show ((Kd.slice 3 (Kd.int .i64))).sz = 1 from rfl, Nat.mul_one] at hv217_0
                            replace hv217_0 := Option.some.inj (hv217_0.symm.trans hx217_0)
                            rw [hv217_0] at ge217_0
                            have HL217_0 := Aside0.mk (show Kd.R (Kd.int .i64) 3 _ _ _ _ (rd_L2 x8_2 x10_1) from ge217_0)
                            clear hv217_0 ge217_0
                            have HX217_0 := Aside0.mk hx217_0
                            clear hcc217 hce217
                            have HR217_0 := Aside0.mk hi217_0
                            have HC217_0 := Aside0.mk hl217_0
                            clear hi217_0 hl217_0
                            replace p217 := eq_true p217
                            replace q217 := eq_true q217
                            have ea_ := Option.some.inj (hx208_0.symm.trans hx217_0)
                            injection ea_ with ea_ en_ ec_
                            subst ea_
                            subst ec_
                            clear en_
                            have p218 : 0 ≤ (x11_2 : Int) := of_decide_eq_true (by first | (with_reducible assumption) | assumption)
                            have q218 : x11_2 < ((rd_L2 x8_2 x10_1).length : Int) := of_decide_eq_true (by first | (with_reducible assumption) | assumption)
                            obtain ⟨ad218, e218, hx218_0⟩ := Kd.at_int (by repeat (first | (with_reducible exact HR217_0.out) | (with_reducible refine Kd.C_alloc ?_ _) | (with_reducible refine Kd.C_drewN ?_ _) | (with_reducible refine Kd.C_drew ?_) | exact HR217_0.out)) x11_2 p218 q218
                            cases e218
                            replace p218 := eq_true p218
                            replace q218 := eq_true q218
                            try go_wp2
                            have n0_ := Aside0.mk (Kd.S_drew HO_8.out)
                            have n1_ := Aside0.mk (Kd.R_drew HO_9.out)
                            have n2_ := Aside0.mk (Kd.R_drew HL208_0.out)
                            have n3_ := Aside0.mk (Kd.R_drew HL209_0.out)
                            have n4_ := Aside0.mk (Kd.R_drew HL217_0.out)
                            have n5_ := Aside0.mk (Kd.C_drew HR208_0.out)
                            have n6_ := Aside0.mk (Kd.C_drew HR209_0.out)
                            have n7_ := Aside0.mk (Kd.C_drew HR217_0.out)
                            have n8_ := Aside0.mk (below_drew1 HB.out)
                            clear HO_8
                            clear HO_9
                            clear HL208_0
                            clear HL209_0
                            clear HL217_0
                            clear HR208_0
                            clear HR209_0
                            clear HR217_0
                            clear HB
                            have HO_8 := n0_
                            have HO_9 := n1_
                            have HL208_0 := n2_
                            have HL209_0 := n3_
                            have HL217_0 := n4_
                            have HR208_0 := n5_
                            have HR209_0 := n6_
                            have HR217_0 := n7_
                            have HB := n8_
                            clear n0_ n1_ n2_ n3_ n4_ n5_ n6_ n7_ n8_
                            have p219 : 0 ≤ (x10_1 : Int) := of_decide_eq_true (by first | (with_reducible assumption) | assumption)
                            have q219 : x10_1 < (x8_2.length : Int) := of_decide_eq_true (by first | (with_reducible assumption) | assumption)
                            obtain ⟨ad219, A219_0, c219_0, e219, hx219_0, hl219_0, hi219_0⟩ := at_L2 (Kd.S_reads' HO_8.out).2.2 x10_1 p219 q219
                            obtain rfl : ad208 = ad219 := (by injection e219)
                            obtain ⟨ce219, hce219, hMe219, hcc219⟩ := Kd.S_get HO_8.out [] x10_1 p219 (by first | exact q219 | exact of_decide_eq_true (by first | (with_reducible assumption) | assumption) | (have e_ := (Kd.S_reads' HO_8.out).1; omega))
                            obtain ⟨ve219_0, rfl, ge219_0⟩ := hMe219
                            have hv219_0 := hcc219 0 _ rfl
                            rw [Nat.add_zero, show ((Kd.slice 3 (Kd.int .i64))).sz = 1 from rfl, Nat.mul_one] at hv219_0
                            replace hv219_0 := Option.some.inj (hv219_0.symm.trans hx219_0)
                            rw [hv219_0] at ge219_0
                            have HL219_0 := Aside0.mk (show Kd.R (Kd.int .i64) 3 _ _ _ _ (rd_L2 x8_2 x10_1) from ge219_0)
                            clear hv219_0 ge219_0
                            have HX219_0 := Aside0.mk hx219_0
                            clear hcc219 hce219
                            have HR219_0 := Aside0.mk hi219_0
                            have HC219_0 := Aside0.mk hl219_0
                            clear hi219_0 hl219_0
                            replace p219 := eq_true p219
                            replace q219 := eq_true q219
                            have p220 : 0 ≤ (x10_1 : Int) := of_decide_eq_true (by first | (with_reducible assumption) | assumption)
                            have q220 : x10_1 < (x8_2.length : Int) := of_decide_eq_true (by first | (with_reducible assumption) | assumption)
                            obtain ⟨ad220, A220_0, c220_0, e220, hx220_0, hl220_0, hi220_0⟩ := at_L2 (Kd.S_reads' HO_8.out).2.2 x10_1 p220 q220
                            obtain rfl : ad208 = ad220 := (by injection e220)
                            obtain ⟨ce220, hce220, hMe220, hcc220⟩ := Kd.S_get HO_8.out [] x10_1 p220 (by first | exact q220 | exact of_decide_eq_true (by first | (with_reducible assumption) | assumption) | (have e_ := (Kd.S_reads' HO_8.out).1; omega))
                            obtain ⟨ve220_0, rfl, ge220_0⟩ := hMe220
                            have hv220_0 := hcc220 0 _ rfl
                            rw [Nat.add_zero, show ((Kd.slice 3 (Kd.int .i64))).sz = 1 from rfl, Nat.mul_one] at hv220_0
                            replace hv220_0 := Option.some.inj (hv220_0.symm.trans hx220_0)
                            rw [hv220_0] at ge220_0
                            have HL220_0 := Aside0.mk (show Kd.R (Kd.int .i64) 3 _ _ _ _ (rd_L2 x8_2 x10_1) from ge220_0)
                            clear hv220_0 ge220_0
                            have HX220_0 := Aside0.mk hx220_0
                            clear hcc220 hce220
                            have HR220_0 := Aside0.mk hi220_0
                            have HC220_0 := Aside0.mk hl220_0
                            clear hi220_0 hl220_0
                            replace p220 := eq_true p220
                            replace q220 := eq_true q220
                            have ea_ := Option.some.inj (hx219_0.symm.trans hx220_0)
                            injection ea_ with ea_ en_ ec_
                            subst ea_
                            subst ec_
                            clear en_
                            have p221 : 0 ≤ (x11_2 : Int) := of_decide_eq_true (by first | (with_reducible assumption) | assumption)
                            have q221 : x11_2 < ((rd_L2 x8_2 x10_1).length : Int) := of_decide_eq_true (by first | (with_reducible assumption) | assumption)
                            obtain ⟨ad221, e221, hx221_0⟩ := Kd.at_int (by repeat (first | (with_reducible exact HR220_0.out) | (with_reducible refine Kd.C_alloc ?_ _) | (with_reducible refine Kd.C_drewN ?_ _) | (with_reducible refine Kd.C_drew ?_) | exact HR220_0.out)) x11_2 p221 q221
                            cases e221
                            replace p221 := eq_true p221
                            replace q221 := eq_true q221
                            have p23 : 0 ≤ (x11_2 : Int) := of_decide_eq_true (by first | (with_reducible assumption) | assumption)
                            have q23 : (x11_2 : Int) < (((rd_L2 x8_2 x10_1).length : Int) : Int) := of_decide_eq_true (by first | (with_reducible assumption) | assumption)
                            obtain ⟨go23, co23, eo23, gb23, gl23, cl23, HG23⟩ := Kd.R_form HL219_0.out (by omega)
                            (first | cases eo23 | (injection eo23 with ea_ en_ ec_; (first | subst ea_ | (injection ea_ with ea_; subst ea_)); subst ec_; clear en_))
                            have GB23 := Aside0.mk gb23
                            have GG23 := Aside0.mk HG23
                            clear gb23 gl23 HG23
                            (first | simp only [add_plain] at hx221_0 | skip)
                            obtain ⟨hx23_0, hf23_0⟩ := Kd.R_celln 0 HL219_0.out (x11_2 : Int) p23 q23
                            replace p23 := eq_true p23
                            replace q23 := eq_true q23
                            have hq25 : (x10_1 : Int) < (x8_2.length : Int) := (by have h_ : (x10_1 : Int) < ((x8_2.length : Int) : Int) := of_decide_eq_true (by first | (with_reducible assumption) | assumption); first | exact h_ | (have e_ := (Kd.S_reads' HO_8.out).1; omega) | simpa only [List.length_set, List.length_set] using h_)
                            obtain ⟨oki25, ce25, hcl25, hM25, hcc25, hok25, hbk25⟩ := Kd.S_borrow HO_8.out [] (x10_1 : Int) (of_decide_eq_true (by first | (with_reducible assumption) | assumption)) hq25
                            obtain ⟨ve25_0, rfl, ge25_0⟩ := hM25
                            have hv25 := hcc25 0 _ rfl
                            rw [Nat.add_zero, show ((Kd.slice 3 (Kd.int .i64))).sz = 1 from rfl, Nat.mul_one] at hv25
                            replace hv25 := Option.some.inj (hv25.symm.trans HX219_0.out)
                            subst hv25
                            clear hcc25 hcl25
                            replace ge25_0 := (show Kd.R (Kd.int .i64) 3 _ _ _ _ (rd_L2 x8_2 x10_1) from ge25_0)
                            have HP25 := Kd.R_putg ge25_0 (x11_2 : Int) (wrap64 (-(rd (rd_L2 x8_2 x10_1) x11_2)))
                            rw [← Ny222.out] at HP25
                            have HS25 := hbk25 HP25.2 (fun k_ e_ => by injection e_ with e_; subst e_; exact ge25_0.1 _ rfl) (x' := y222) (Kd.M_row HP25.1)
                            rw [← Ny224.out] at HS25
                            have HQ25 := Aside0.mk HS25
                            clear HP25 HS25 hbk25 hok25
                            refine start_ (n := 15) (S := fun w' => w'.cell? (ad208.add (x10_1).toNat) = some (.slice (some ⟨go23, 0, none⟩) (rd_L2 x8_2 x10_1).length c219_0) ∧ w'.cell? (ad208.add (x10_1).toNat) = some (.slice (some ⟨go23, 0, none⟩) (rd_L2 x8_2 x10_1).length c219_0) ∧ w'.cell? ⟨go23, (x11_2).toNat, none⟩ = some (.int .i64 (rd (rd_L2 x8_2 x10_1) x11_2))) (ds := [14]) #[false, false, false, false, false, false, false, false, false, false, false, false, false, false, false] (by kernel_rfl) rfl rfl ⟨hx219_0, hx220_0, hx221_0⟩ (fun hHeld => ?_); refine with_tabW ashlarlaw08_PropTurned.tab14 ashlarlaw08_PropTurned.bits14 (fun HT_ HW_ => ?_)
                            generalize wr.drew = w24 at HO_8 HO_9 HL208_0 HL209_0 HL217_0 HR208_0 HR209_0 HR217_0 HB GG23 HL219_0 HL220_0 HQ25 HR219_0 HR220_0 HX219_0 HX220_0 hf23_0 hx219_0 hx220_0 hx221_0 hx23_0 hHeld ⊢
                            refine pure_ (i := 0) (N := some 76) (v := ?_) (a' := ?_) #[true, false, false, false, false, false, false, false, false, false, false, false, false, false, false] rfl rfl (any_of HT_.out (by kernel_rfl)) (fun _ _ _ h => h) (Or.inl ⟨by rfl, ?_⟩) ?_ ?_
                            rotate_left
                            · intro w'
                              go_simp
                              with_reducible rfl
                            rotate_left
                            · simp only [Act.put, List.setIfInBounds_toArray, List.set_cons_zero, List.set_cons_succ, i64_w, i32_w]
                              rfl
                            refine pure_ (i := 1) (N := some 77) (v := ?_) (a' := ?_) #[true, true, false, false, false, false, false, false, false, false, false, false, false, false, false] rfl rfl (any_of HT_.out (by kernel_rfl)) (fun _ _ _ h => h) (Or.inl ⟨by rfl, ?_⟩) ?_ ?_
                            rotate_left
                            · intro w'
                              go_simp
                              with_reducible rfl
                            rotate_left
                            · simp only [Act.put, List.setIfInBounds_toArray, List.set_cons_zero, List.set_cons_succ, i64_w, i32_w]
                              rfl
                            refine pure_ (i := 2) (N := some 78) (v := ?_) (a' := ?_) #[true, true, true, false, false, false, false, false, false, false, false, false, false, false, false] rfl rfl (any_of HT_.out (by kernel_rfl)) (fun _ _ _ h => h) (Or.inl ⟨by rfl, ?_⟩) ?_ ?_
                            rotate_left
                            · intro w'
                              go_simp
                              with_reducible rfl
                            rotate_left
                            · simp only [Act.put, List.setIfInBounds_toArray, List.set_cons_zero, List.set_cons_succ, i64_w, i32_w]
                              rfl
                            refine pure_ (i := 4) (N := some 80) (v := ?_) (a' := ?_) #[true, true, true, false, true, false, false, false, false, false, false, false, false, false, false] rfl rfl (any_of HT_.out (by kernel_rfl)) (fun _ _ _ h => h) (Or.inl ⟨by rfl, ?_⟩) ?_ ?_
                            rotate_left
                            · intro w'
                              go_simp
                              with_reducible rfl
                            rotate_left
                            · simp only [Act.put, List.setIfInBounds_toArray, List.set_cons_zero, List.set_cons_succ, i64_w, i32_w]
                              rfl
                            refine pure_ (i := 5) (N := some 81) (v := ?_) (a' := ?_) #[true, true, true, false, true, true, false, false, false, false, false, false, false, false, false] rfl rfl (any_of HT_.out (by kernel_rfl)) (fun _ _ _ h => h) (Or.inl ⟨by rfl, ?_⟩) ?_ ?_
                            rotate_left
                            · intro w'
                              go_simp
                              with_reducible rfl
                            rotate_left
                            · simp only [Act.put, List.setIfInBounds_toArray, List.set_cons_zero, List.set_cons_succ, i64_w, i32_w]
                              rfl
                            refine pure_ (i := 6) (N := some 82) (v := ?_) (a' := ?_) #[true, true, true, false, true, true, true, false, false, false, false, false, false, false, false] rfl rfl (any_of HT_.out (by kernel_rfl)) (fun _ _ _ h => h) (Or.inl ⟨by rfl, ?_⟩) ?_ ?_
                            rotate_left
                            · intro w'
                              go_simp
                              with_reducible rfl
                            rotate_left
                            · simp only [Act.put, List.setIfInBounds_toArray, List.set_cons_zero, List.set_cons_succ, i64_w, i32_w]
                              rfl
                            refine pure_ (i := 7) (N := some 83) (v := ?_) (a' := ?_) #[true, true, true, false, true, true, true, true, false, false, false, false, false, false, false] rfl rfl (any_of HT_.out (by kernel_rfl)) (fun _ _ _ h => h) (Or.inl ⟨by rfl, ?_⟩) ?_ ?_
                            rotate_left
                            · intro w'
                              go_simp
                              with_reducible rfl
                            rotate_left
                            · simp only [Act.put, List.setIfInBounds_toArray, List.set_cons_zero, List.set_cons_succ, i64_w, i32_w]
                              rfl
                            refine pure_ (i := 9) (N := some 85) (v := ?_) (a' := ?_) #[true, true, true, false, true, true, true, true, false, true, false, false, false, false, false] rfl rfl (any_of HT_.out (by kernel_rfl)) (fun _ _ _ h => h) (Or.inl ⟨by rfl, ?_⟩) ?_ ?_
                            rotate_left
                            · intro w'
                              go_simp
                              with_reducible rfl
                            rotate_left
                            · simp only [Act.put, List.setIfInBounds_toArray, List.set_cons_zero, List.set_cons_succ, i64_w, i32_w]
                              rfl
                            refine take_ (i := 3) (N := some 79) (v := ?_) (a' := ?_) #[true, true, true, true, true, true, true, true, false, true, false, false, false, false, false] rfl rfl (take_ofW HT_.out HW_.out (by kernel_rfl)) (fun _ _ _ h => h) (Or.inl ⟨by rfl, ?_⟩) hHeld ?_ ?_
                            rotate_left
                            · rintro w' ⟨s0, s1, s2⟩
                              go_simp
                              with_reducible rfl
                            rotate_left
                            · simp only [Act.put, List.setIfInBounds_toArray, List.set_cons_zero, List.set_cons_succ, i64_w, i32_w]
                              rfl
                            refine take_ (i := 8) (N := some 84) (v := ?_) (a' := ?_) #[true, true, true, true, true, true, true, true, true, true, false, false, false, false, false] rfl rfl (take_ofW HT_.out HW_.out (by kernel_rfl)) (fun _ _ _ h => h) (Or.inl ⟨by rfl, ?_⟩) hHeld ?_ ?_
                            rotate_left
                            · rintro w' ⟨s0, s1, s2⟩
                              go_simp
                              with_reducible rfl
                            rotate_left
                            · simp only [Act.put, List.setIfInBounds_toArray, List.set_cons_zero, List.set_cons_succ, i64_w, i32_w]
                              rfl
                            refine pure_ (i := 10) (N := some 86) (v := ?_) (a' := ?_) #[true, true, true, true, true, true, true, true, true, true, true, false, false, false, false] rfl rfl (any_of HT_.out (by kernel_rfl)) (fun _ _ _ h => h) (Or.inl ⟨by rfl, ?_⟩) ?_ ?_
                            rotate_left
                            · intro w'
                              go_simp
                              with_reducible rfl
                            rotate_left
                            · simp only [Act.put, List.setIfInBounds_toArray, List.set_cons_zero, List.set_cons_succ, i64_w, i32_w]
                              rfl
                            refine take_ (i := 11) (N := some 87) (v := ?_) (a' := ?_) #[true, true, true, true, true, true, true, true, true, true, true, true, false, false, false] rfl rfl (take_ofW HT_.out HW_.out (by kernel_rfl)) (fun _ _ _ h => h) (Or.inl ⟨by rfl, ?_⟩) hHeld ?_ ?_
                            rotate_left
                            · rintro w' ⟨s0, s1, s2⟩
                              go_simp
                              with_reducible rfl
                            rotate_left
                            · simp only [Act.put, List.setIfInBounds_toArray, List.set_cons_zero, List.set_cons_succ, i64_w, i32_w]
                              rfl
                            refine pure_ (i := 12) (N := some 88) (v := ?_) (a' := ?_) #[true, true, true, true, true, true, true, true, true, true, true, true, true, false, false] rfl rfl (any_of HT_.out (by kernel_rfl)) (fun _ _ _ h => h) (Or.inl ⟨by rfl, ?_⟩) ?_ ?_
                            rotate_left
                            · intro w'
                              go_simp
                              with_reducible rfl
                            rotate_left
                            · simp only [Act.put, List.setIfInBounds_toArray, List.set_cons_zero, List.set_cons_succ, i64_w, i32_w]
                              rfl
                            refine pure_ (i := 13) (N := some 89) (v := ?_) (a' := ?_) #[true, true, true, true, true, true, true, true, true, true, true, true, true, true, false] rfl rfl (any_of HT_.out (by kernel_rfl)) (fun _ _ _ h => h) (Or.inl ⟨by rfl, ?_⟩) ?_ ?_
                            rotate_left
                            · intro w'
                              go_simp
                              with_reducible rfl
                            rotate_left
                            · simp only [Act.put, List.setIfInBounds_toArray, List.set_cons_zero, List.set_cons_succ, i64_w, i32_w]
                              rfl
                            refine last_ (i := 14) (N := none) #[true, true, true, true, true, true, true, true, true, true, true, true, true, true, true] rfl rfl (one_of HT_.out (by kernel_rfl)) (by decide) (fun K hK => ?_)
                            refine skip_ (w1 := ?_) (by rfl) rfl ?_ ?_
                            rotate_left
                            · go_simp
                              rfl
                            refine hK.out _ _ ?_
                            clear hK K
                            refine done_ (done_of HT_.out (by kernel_rfl)) ?_
                            try go_wp2
                            (try simp only [← hl8_2])
                            go_roundg k2
                            case measure => have := HK1.out; have := HK2.out; omega
                            case rel => exact ⟨(y224), (wrap64 (x11_2 + 1)), (by first | rfl | (simp; done) | (simp [*]; done)), H', ⟨by have := HK1.out; have := HK2.out; omega⟩, ⟨by (try simp only [hl8_2]); (with_reducible repeat (first | apply Kd.S_alloc | apply Kd.S_drewN | apply Kd.S_drew)); exact HQ25.out⟩, ⟨by (try simp only [hl8_2]); (with_reducible repeat (first | apply Kd.R_alloc | apply Kd.R_drewN | apply Kd.R_drew)); exact Kd.R_mono (Kd.R_far (p := ⟨go23, (x11_2 : Int).toNat, none⟩) (Kd.R_types HO_9.out GG23.out (by decide)) (fun _ hk => hk.2) (.int .i64 (wrap64 (-(rd (rd_L2 x8_2 x10_1) x11_2))))) (fun _ hk => trivial)⟩, ⟨by repeat (first | (with_reducible first | exact HB.out | apply below_alloc | apply pw_below_drewN | apply below_drew1 | refine below_set ?_ GB23.out) | exact HB.out)⟩⟩
                          · rw [if_neg c22] at H
                            have c22b0 : ((rd (rd_L2 x8_2 x10_1) x11_2) == (wrap64 (-(wrap64 (1 + (Int.tmod (Go.bits .and .i64 a2 65535) (wrap64 ((l1.length : Int) - 1)))))))) = false := beq_eq_false_iff_ne.mpr c22
                            have c22b1 : ((rd (rd_L2 x8_2 x10_1) x11_2) != (wrap64 (-(wrap64 (1 + (Int.tmod (Go.bits .and .i64 a2 65535) (wrap64 ((l1.length : Int) - 1)))))))) = true := bne_iff_ne.mpr c22
                            have H' := Aside0.mk H
                            clear H
                            have p208 : 0 ≤ (x10_1 : Int) := of_decide_eq_true (by first | (with_reducible assumption) | assumption)
                            have q208 : x10_1 < (x8_2.length : Int) := of_decide_eq_true (by first | (with_reducible assumption) | assumption)
                            obtain ⟨ad208, A208_0, c208_0, e208, hx208_0, hl208_0, hi208_0⟩ := at_L2 (Kd.S_reads' HO_8.out).2.2 x10_1 p208 q208
                            cases e208
                            obtain ⟨ce208, hce208, hMe208, hcc208⟩ := Kd.S_get HO_8.out [] x10_1 p208 (by first | exact q208 | exact of_decide_eq_true (by first | (with_reducible assumption) | assumption) | (have e_ := (Kd.S_reads' HO_8.out).1; omega))
                            obtain ⟨ve208_0, rfl, ge208_0⟩ := hMe208
                            have hv208_0 := hcc208 0 _ rfl
                            rw [Nat.add_zero, show ((Kd.slice 3 (Kd.int .i64))).sz = 1 from rfl, Nat.mul_one] at hv208_0
                            replace hv208_0 := Option.some.inj (hv208_0.symm.trans hx208_0)
                            rw [hv208_0] at ge208_0
                            have HL208_0 := Aside0.mk (show Kd.R (Kd.int .i64) 3 _ _ _ _ (rd_L2 x8_2 x10_1) from ge208_0)
                            clear hv208_0 ge208_0
                            have HX208_0 := Aside0.mk hx208_0
                            clear hcc208 hce208
                            have HR208_0 := Aside0.mk hi208_0
                            have HC208_0 := Aside0.mk hl208_0
                            clear hi208_0 hl208_0
                            replace p208 := eq_true p208
                            replace q208 := eq_true q208
                            have p209 : 0 ≤ (x10_1 : Int) := of_decide_eq_true (by first | (with_reducible assumption) | assumption)
                            have q209 : x10_1 < (x8_2.length : Int) := of_decide_eq_true (by first | (with_reducible assumption) | assumption)
                            obtain ⟨ad209, A209_0, c209_0, e209, hx209_0, hl209_0, hi209_0⟩ := at_L2 (Kd.S_reads' HO_8.out).2.2 x10_1 p209 q209
                            obtain rfl : ad208 = ad209 := (by injection e209)
                            obtain ⟨ce209, hce209, hMe209, hcc209⟩ := Kd.S_get HO_8.out [] x10_1 p209 (by first | exact q209 | exact of_decide_eq_true (by first | (with_reducible assumption) | assumption) | (have e_ := (Kd.S_reads' HO_8.out).1; omega))
                            obtain ⟨ve209_0, rfl, ge209_0⟩ := hMe209
                            have hv209_0 := hcc209 0 _ rfl
                            rw [Nat.add_zero, show ((Kd.slice 3 (Kd.int .i64))).sz = 1 from rfl, Nat.mul_one] at hv209_0
                            replace hv209_0 := Option.some.inj (hv209_0.symm.trans hx209_0)
                            rw [hv209_0] at ge209_0
                            have HL209_0 := Aside0.mk (show Kd.R (Kd.int .i64) 3 _ _ _ _ (rd_L2 x8_2 x10_1) from ge209_0)
                            clear hv209_0 ge209_0
                            have HX209_0 := Aside0.mk hx209_0
                            clear hcc209 hce209
                            have HR209_0 := Aside0.mk hi209_0
                            have HC209_0 := Aside0.mk hl209_0
                            clear hi209_0 hl209_0
                            replace p209 := eq_true p209
                            replace q209 := eq_true q209
                            have ea_ := Option.some.inj (hx208_0.symm.trans hx209_0)
                            injection ea_ with ea_ en_ ec_
                            subst ea_
                            subst ec_
                            clear en_
                            have p210 : 0 ≤ (x11_2 : Int) := of_decide_eq_true (by first | (with_reducible assumption) | assumption)
                            have q210 : x11_2 < ((rd_L2 x8_2 x10_1).length : Int) := of_decide_eq_true (by first | (with_reducible assumption) | assumption)
                            obtain ⟨ad210, e210, hx210_0⟩ := Kd.at_int (by repeat (first | (with_reducible exact HR209_0.out) | (with_reducible refine Kd.C_alloc ?_ _) | (with_reducible refine Kd.C_drewN ?_ _) | (with_reducible refine Kd.C_drew ?_) | exact HR209_0.out)) x11_2 p210 q210
                            cases e210
                            replace p210 := eq_true p210
                            replace q210 := eq_true q210
                            have p217 : 0 ≤ (x10_1 : Int) := of_decide_eq_true (by first | (with_reducible assumption) | assumption)
                            have q217 : x10_1 < (x8_2.length : Int) := of_decide_eq_true (by first | (with_reducible assumption) | assumption)
                            obtain ⟨ad217, A217_0, c217_0, e217, hx217_0, hl217_0, hi217_0⟩ := at_L2 (Kd.S_reads' HO_8.out).2.2 x10_1 p217 q217
                            obtain rfl : ad208 = ad217 := (by injection e217)
                            obtain ⟨ce217, hce217, hMe217, hcc217⟩ := Kd.S_get HO_8.out [] x10_1 p217 (by first | exact q217 | exact of_decide_eq_true (by first | (with_reducible assumption) | assumption) | (have e_ := (Kd.S_reads' HO_8.out).1; omega))
                            obtain ⟨ve217_0, rfl, ge217_0⟩ := hMe217
                            have hv217_0 := hcc217 0 _ rfl
                            rw [Nat.add_zero, show ((Kd.slice 3 (Kd.int .i64))).sz = 1 from rfl, Nat.mul_one] at hv217_0
                            replace hv217_0 := Option.some.inj (hv217_0.symm.trans hx217_0)
                            rw [hv217_0] at ge217_0
                            have HL217_0 := Aside0.mk (show Kd.R (Kd.int .i64) 3 _ _ _ _ (rd_L2 x8_2 x10_1) from ge217_0)
                            clear hv217_0 ge217_0
                            have HX217_0 := Aside0.mk hx217_0
                            clear hcc217 hce217
                            have HR217_0 := Aside0.mk hi217_0
                            have HC217_0 := Aside0.mk hl217_0
                            clear hi217_0 hl217_0
                            replace p217 := eq_true p217
                            replace q217 := eq_true q217
                            have ea_ := Option.some.inj (hx208_0.symm.trans hx217_0)
                            injection ea_ with ea_ en_ ec_
                            subst ea_
                            subst ec_
                            clear en_
                            have p218 : 0 ≤ (x11_2 : Int) := of_decide_eq_true (by first | (with_reducible assumption) | assumption)
                            have q218 : x11_2 < ((rd_L2 x8_2 x10_1).length : Int) := of_decide_eq_true (by first | (with_reducible assumption) | assumption)
                            obtain ⟨ad218, e218, hx218_0⟩ := Kd.at_int (by repeat (first | (with_reducible exact HR217_0.out) | (with_reducible refine Kd.C_alloc ?_ _) | (with_reducible refine Kd.C_drewN ?_ _) | (with_reducible refine Kd.C_drew ?_) | exact HR217_0.out)) x11_2 p218 q218
                            cases e218
                            replace p218 := eq_true p218
                            replace q218 := eq_true q218
                            go_wp2
                            (try simp only [← hl8_2])
                            go_roundg k2
                            case measure => have := HK1.out; have := HK2.out; omega
                            case rel => exact ⟨(x8_2), (wrap64 (x11_2 + 1)), (by first | rfl | (simp; done) | (simp [*]; done)), H', ⟨by have := HK1.out; have := HK2.out; omega⟩, ⟨by (try simp only [hl8_2]); (with_reducible repeat (first | apply Kd.S_alloc | apply Kd.S_drewN | apply Kd.S_drew)); exact HO_8.out⟩, ⟨by (try simp only [hl8_2]); (with_reducible repeat (first | apply Kd.R_alloc | apply Kd.R_drewN | apply Kd.R_drew)); exact HO_9.out⟩, ⟨by repeat (first | (with_reducible first | exact HB.out | apply below_alloc | apply pw_below_drewN | apply below_drew1) | exact HB.out)⟩⟩
                      · rw [if_neg c16] at H
                        exact absurd H (by simp)
                    · rw [if_neg c15] at H
                      have c15b0 : decide (x11_2 < ((rd_L2 x8_2 x10_1).length : Int)) = false := decide_eq_false c15
                      clear c15
                      have H' := Aside0.mk H
                      clear H
                      have p208 : 0 ≤ (x10_1 : Int) := of_decide_eq_true (by first | (with_reducible assumption) | assumption)
                      have q208 : x10_1 < (x8_2.length : Int) := of_decide_eq_true (by first | (with_reducible assumption) | assumption)
                      obtain ⟨ad208, A208_0, c208_0, e208, hx208_0, hl208_0, hi208_0⟩ := at_L2 (Kd.S_reads' HO_8.out).2.2 x10_1 p208 q208
                      cases e208
                      obtain ⟨ce208, hce208, hMe208, hcc208⟩ := Kd.S_get HO_8.out [] x10_1 p208 (by first | exact q208 | exact of_decide_eq_true (by first | (with_reducible assumption) | assumption) | (have e_ := (Kd.S_reads' HO_8.out).1; omega))
                      obtain ⟨ve208_0, rfl, ge208_0⟩ := hMe208
                      have hv208_0 := hcc208 0 _ rfl
                      rw [Nat.add_zero, show ((Kd.slice 3 (Kd.int .i64))).sz = 1 from rfl, Nat.mul_one] at hv208_0
                      replace hv208_0 := Option.some.inj (hv208_0.symm.trans hx208_0)
                      rw [hv208_0] at ge208_0
                      have HL208_0 := Aside0.mk (show Kd.R (Kd.int .i64) 3 _ _ _ _ (rd_L2 x8_2 x10_1) from ge208_0)
                      clear hv208_0 ge208_0
                      have HX208_0 := Aside0.mk hx208_0
                      clear hcc208 hce208
                      have HR208_0 := Aside0.mk hi208_0
                      have HC208_0 := Aside0.mk hl208_0
                      clear hi208_0 hl208_0
                      replace p208 := eq_true p208
                      replace q208 := eq_true q208
                      go_wp2
                      (try simp only [← hl8_2])
                      go_roundg k2
                      case measure => have := HK1.out; have := HK2.out; omega
                      case rel => exact ⟨(x8_2), (wrap64 (x10_1 + 1)), (by first | rfl | (simp; done) | (simp [*]; done)), H', ⟨by have := HK1.out; have := HK2.out; omega⟩, ⟨by (try simp only [hl8_2]); (with_reducible repeat (first | apply Kd.S_alloc | apply Kd.S_drewN | apply Kd.S_drew)); exact HO_8.out⟩, ⟨by (try simp only [hl8_2]); (with_reducible repeat (first | apply Kd.R_alloc | apply Kd.R_drewN | apply Kd.R_drew)); exact HO_9.out⟩, ⟨by repeat (first | (with_reducible first | exact HB.out | apply below_alloc | apply pw_below_drewN | apply below_drew1) | exact HB.out)⟩⟩
                  · rw [if_neg c14] at H
                    exact absurd H (by simp)
                · rw [if_neg c13] at H
                  exact absurd H (by simp)
          · rw [if_neg c11] at H
            have c11b0 : decide (x10_1 < (x8_1.length : Int)) = false := decide_eq_false c11
            clear c11
            generalize (wrap64 (1 + (Int.tmod (Go.bits .and .i64 a2 65535) (wrap64 ((l1.length : Int) - 1))))) = vv at H ⊢
            unfold ashlarlaw08_PropTurned.s at H
            by_cases v0 : 0 ≤ vv
            case neg => rw [if_neg v0] at H; cases H
            rw [if_pos v0] at H
            by_cases vb : vv < (t202.length : Int)
            case neg => rw [if_neg vb] at H; cases H
            rw [if_pos vb] at H
            by_cases va : vv < (l1.length : Int)
            case neg => rw [if_neg va] at H; cases H
            rw [if_pos va] at H
            obtain ⟨jb, hjb⟩ : ∃ j : Int, mx (rd t202 vv) (-1) = j := ⟨_, rfl⟩
            obtain ⟨ja, hja⟩ : ∃ j : Int, mx (rd l1 vv) (-1) = j := ⟨_, rfl⟩
            rw [hjb, hja] at H
            have hjb_ : (if rd t202 vv < -1 then -1 else rd t202 vv) = jb := hjb
            have hja_ : (if rd l1 vv < -1 then -1 else rd l1 vv) = ja := hja
            clear hjb hja
            obtain ⟨A5, hA5⟩ : ∃ x : List Int, l1.set vv.toNat ja = x := ⟨_, rfl⟩
            obtain ⟨B5, hB5⟩ : ∃ x : List Int, t202.set vv.toNat (IntKind.i8.wrap (-jb)) = x := ⟨_, rfl⟩
            rw [hA5, hB5] at H
            have HA5 := Aside0.mk hA5
            have HB5 := Aside0.mk hB5
            have HLA := Aside0.mk (show l1.length = A5.length by rw [← hA5, List.length_set])
            have HLB := Aside0.mk (show t202.length = B5.length by rw [← hB5, List.length_set])
            clear hA5 hB5
            obtain ⟨Am, cm8, em⟩ := Kd.S_slice HO_8.out
            subst em
            obtain ⟨gb, cb, eb, gbb, gbl, cellb, HGb⟩ := Kd.R_form HO_9.out (by omega)
            subst eb
            obtain ⟨ga, ca, ea, gab, gal, cella, HGa0⟩ := Kd.R_form HOA.out (by omega)
            injection ea with ea1 ea2 ea3
            subst ea1 ea3
            have GBB := Aside0.mk gbb
            have GAB := Aside0.mk gab
            have GNE := Aside0.mk (show some ga ≠ some gb from fun e_ => by injection e_ with e_; omega)
            obtain ⟨hxb, hfb⟩ := Kd.R_celln 0 HO_9.out vv v0 vb
            replace hxb : wr.cell? ⟨gb, vv.toNat, none⟩ = some (.int .i8 (rd t202 vv)) := hxb
            have HPB := Kd.R_putg HO_9.out vv (IntKind.i8.wrap (-jb))
            have HMB := Kd.S_set HO_8.out HGb (by decide) vv.toNat (.int .i8 (IntKind.i8.wrap (-jb)))
            have p1 := eq_true v0
            have p2 := eq_true vb
            have p3 := eq_true va
            clear gbb gbl gab gal HGb HGa0
            have VVA := Aside0.mk va
            have VV0 := Aside0.mk v0
            clear v0 vb va
            unfold ashlarlaw08_PropTurned.u at H
            replace H := Option.bind_eq_some_iff.mp H
            obtain ⟨⟨s201, s202⟩, A70, H⟩ := H
            replace H : ((prop_Unit.f k1 x8_1 B5).bind fun bt205 => (if vv ≥ (bt205.1.length : Int) then (some false) else (if 0 ≤ vv then (if vv < (bt205.1.length : Int) then (if t200 = true then (if (s202 == bt205.2) = true then ((ashlarlaw08_same.f k1 s201 (bt205.1.set (vv : Int).toNat (IntKind.i8.wrap (-(rd bt205.1 vv))))).bind fun s211 => (if s211 = true then ((prop_Eval.f k1 l0 A5).bind fun s212 => ((prop_Eval.f k1 x8_1 B5).bind fun s213 => (some (s212 == s213)))) else (some false))) else (some false)) else (some false)) else (none)) else (none)))) = some r := H
            have A7 := Aside0.mk A70
            clear A70
            replace H := Option.bind_eq_some_iff.mp H
            obtain ⟨⟨s205, s206⟩, A80, H⟩ := H
            replace H : (if vv ≥ (s205.length : Int) then (some false) else (if 0 ≤ vv then (if vv < (s205.length : Int) then (if t200 = true then (if (s202 == s206) = true then ((ashlarlaw08_same.f k1 s201 (s205.set (vv : Int).toNat (IntKind.i8.wrap (-(rd s205 vv))))).bind fun s211 => (if s211 = true then ((prop_Eval.f k1 l0 A5).bind fun s212 => ((prop_Eval.f k1 x8_1 B5).bind fun s213 => (some (s212 == s213)))) else (some false))) else (some false)) else (some false)) else (none)) else (none))) = some r := H
            have A8 := Aside0.mk A80
            clear A80
            by_cases c9 : vv ≥ (s205.length : Int)
            · rw [if_pos c9] at H
              have c9b0 : decide ((s205.length : Int) ≤ vv) = true := decide_eq_true c9
              clear c9
              obtain rfl := Option.some.inj H
              go_wp2_with (first | ((with_reducible refine gate_store (t := 30) (p := 98) rfl ?_); refine store_event (t := 30) (p := 98) (v := ?vo_w21) (w1 := (wr.setCell ⟨gb, vv.toNat, none⟩ (.int .i8 (IntKind.i8.wrap (-jb))))) ?hg ?ho ?hn ?hr ?_; (case ho => rfl); (case hg => rfl); (case hn => rfl); (case hr => first | (go_simp; done) | (go_simp; rfl)); intro w21 hw; have n0_ := Aside0.mk (by rw [hw, ← HB5.out]; exact HPB.1 : Kd.R (Kd.int .i8) 30 w21 w.heap.size (fun _ => True) (.slice (some ⟨gb, 0, none⟩) t202.length cb) B5); have n1_ := Aside0.mk (by rw [hw]; exact HMB : Kd.S (Kd.slice 3 (Kd.int .i64)) 35 w21 w.heap.size (fun _ => True) (.slice Am x8_1.length cm8) x8_1); have n2_ := Aside0.mk (by rw [hw]; exact below_set HB.out GBB.out : Below w.heap.size w w21); clear HPB HMB HO_8 HO_9 HB hw hxb hfb hjb_; have HO_9 := n0_; have HO_8 := n1_; have HB := n2_; clear n0_ n1_ n2_; have n0_ := Aside0.mk (Kd.R_below HOA.out HB.out); have n1_ := Aside0.mk (Kd.S_below HOL.out HB.out); have n2_ := Aside0.mk (below_step HBA.out HB.out); clear HOA HOL HBA HB; have HOA := n0_; have HOL := n1_; have HBA := n2_; clear n0_ n1_ n2_; obtain ⟨ga2, ca2, ea, gab2, gal2, cella2, HGa⟩ := Kd.R_form HOA.out (by have := VVA.out; have := VV0.out; omega); injection ea with ea1 ea2 ea3; injection ea1 with ea1; injection ea1 with ea1; subst ea1; obtain ⟨hxa, hfa⟩ := Kd.R_celln 0 HOA.out vv VV0.out VVA.out; replace hxa : w21.cell? ⟨ga, vv.toNat, none⟩ = some (.int .i8 (rd l1 vv)) := hxa; have HPA := Kd.R_putg HOA.out vv ja; have HLS := Kd.S_set HOL.out HGa (by decide) vv.toNat (.int .i8 ja); have HMS := Kd.S_set HO_8.out HGa (by decide) vv.toNat (.int .i8 ja); have HBS := Kd.R_grown1 HO_9.out rfl HPA.2 GNE.out; clear gab2 gal2 HGa ea2 ea3) | ((with_reducible refine gate_store (t := 30) (p := 106) rfl ?_); refine store_event (t := 30) (p := 106) (v := ?vo_w22) (w1 := (w21.setCell ⟨ga, vv.toNat, none⟩ (.int .i8 ja))) ?hg ?ho ?hn ?hr ?_; (case ho => rfl); (case hg => rfl); (case hn => rfl); (case hr => first | (go_simp; done) | (go_simp; rfl)); intro w3 hw; rw [← hw] at HPA HLS HMS HBS; have n0_ := Aside0.mk (by rw [hw]; exact below_set HBA.out GAB.out : Below wA.heap.size wA w3); clear HBA hw hxa hfa hja_; have HBA := n0_; clear n0_; have hla := HLA.out; have hlb := HLB.out; have hpa := HPA.1; rw [HA5.out] at hpa; rw [hla] at hpa ⊢; rw [hlb] at HBS ⊢; have HR0 := Aside0.mk (Kd.S_reads' HLS).2.2; have HR1 := Aside0.mk (Kd.R_reads' hpa).2.2; have HC1 := Aside0.mk (Kd.R_reads' hpa).2.1; have HR3 := Aside0.mk (Kd.S_reads' HMS).2.2; have HC3 := Aside0.mk (Kd.S_reads' HMS).2.1; have HR4 := Aside0.mk (Kd.R_reads' HBS).2.2; have HC4 := Aside0.mk (Kd.R_reads' HBS).2.1; have HB := Aside0.mk (Below.refl w3.heap.size w3); clear HPA HLS HMS HBS hpa HOA HOL HO_8 HO_9 GBB GAB GNE HLA HLB p1 p2 p3 hla hlb HA5 HB5) | ((with_reducible refine gate_callee (f := 12) rfl ?_); refine goesL_ (some 16) rfl rfl Try.func12 (by kernel_rfl) rfl #[] rfl (by (try simp only [List.map_toArray, List.map_cons, List.map_nil]); first | done | rfl | (simp only [List.length_drop, List.length_take]; rfl)) ?_; (with_reducible refine (ashlarlaw08_shown.calls k1  t200 _ A6.out).mono ?_); rintro e w10 ⟨rfl, hb⟩; refine ⟨_, rfl, ?_⟩; have n0_ := Aside0.mk (below_step (by repeat (first | (with_reducible first | exact HB.out | apply below_alloc | apply pw_below_drewN | apply below_drew1) | exact HB.out)) hb); clear HB; have HB := n0_; clear n0_; (try clear hb); (try clear hb2); (try clear hk); (try clear hi)) | ((with_reducible refine gate_callee (f := 14) rfl ?_); refine goesL_ (some 110) rfl rfl Try.func14 (by kernel_rfl) rfl #[.slice A0 l0.length c0, .slice (some ⟨ga, 0, none⟩) A5.length c1] rfl (by (try simp only [List.map_toArray, List.map_cons, List.map_nil]); first | done | rfl | (simp only [List.length_drop, List.length_take]; rfl)) ?_; (with_reducible refine (prop_Unit.calls k1 _ _ l0 _ _ A5 s201 s202 _ ?side1 ?side2 ?side3 ?side4 A7.out).mono ?_); (case side1 => repeat (first | exact (Kd.C_below HR0.out HB.out) | (with_reducible refine Kd.C_alloc ?_ _) | (with_reducible refine Kd.C_drewN ?_ _) | (with_reducible refine Kd.C_drew ?_))); (case side2 => exact HC0.out); (case side3 => repeat (first | exact (Kd.C_below HR1.out HB.out) | (with_reducible refine Kd.C_alloc ?_ _) | (with_reducible refine Kd.C_drewN ?_ _) | (with_reducible refine Kd.C_drew ?_))); (case side4 => exact HC1.out); rintro e w11 ⟨v203, rfl, ho0, hb⟩; refine ⟨_, rfl, ?_⟩; have n0_ := Aside0.mk (Kd.R_lower ho0 (below_size (by repeat (first | (with_reducible first | exact HB.out | apply below_alloc | apply pw_below_drewN | apply below_drew1) | exact HB.out)))); have n1_ := Aside0.mk (below_step (by repeat (first | (with_reducible first | exact HB.out | apply below_alloc | apply pw_below_drewN | apply below_drew1) | exact HB.out)) hb); clear HB; have HO204 := n0_; have HB := n1_; clear n0_ n1_; (try clear hb); (try clear hb2); (try clear hk); (try clear hi); (try clear ho0)) | ((with_reducible refine gate_callee (f := 14) rfl ?_); refine goesL_ (some 116) rfl rfl Try.func14 (by kernel_rfl) rfl #[.slice Am x8_1.length cm8, .slice (some ⟨gb, 0, none⟩) B5.length cb] rfl (by (try simp only [List.map_toArray, List.map_cons, List.map_nil]); first | done | rfl | (simp only [List.length_drop, List.length_take]; rfl)) ?_; (with_reducible refine (prop_Unit.calls k1 _ _ x8_1 _ _ B5 s205 s206 _ ?side1 ?side2 ?side3 ?side4 A8.out).mono ?_); (case side1 => repeat (first | exact (Kd.C_below HR3.out HB.out) | (with_reducible refine Kd.C_alloc ?_ _) | (with_reducible refine Kd.C_drewN ?_ _) | (with_reducible refine Kd.C_drew ?_))); (case side2 => exact HC3.out); (case side3 => repeat (first | exact (Kd.C_below HR4.out HB.out) | (with_reducible refine Kd.C_alloc ?_ _) | (with_reducible refine Kd.C_drewN ?_ _) | (with_reducible refine Kd.C_drew ?_))); (case side4 => exact HC4.out); rintro e w12 ⟨v207, rfl, ho0, hb⟩; refine ⟨_, rfl, ?_⟩; have n0_ := Aside0.mk (Kd.R_elder' (by (with_reducible repeat (first | apply Kd.R_alloc | apply Kd.R_drewN | apply Kd.R_drew)); exact HO204.out) (Kd.R_base ho0) hb); have n1_ := Aside0.mk (Kd.R_lower (Kd.R_new' ho0 (Kd.R_lt (by (with_reducible repeat (first | apply Kd.R_alloc | apply Kd.R_drewN | apply Kd.R_drew)); exact HO204.out))) (below_size (by repeat (first | (with_reducible first | exact HB.out | apply below_alloc | apply pw_below_drewN | apply below_drew1) | exact HB.out)))); have n2_ := Aside0.mk (below_step (by repeat (first | (with_reducible first | exact HB.out | apply below_alloc | apply pw_below_drewN | apply below_drew1) | exact HB.out)) hb); clear HO204; clear HB; have HO204 := n0_; have HO208 := n1_; have HB := n2_; clear n0_ n1_ n2_; (try clear hb); (try clear hb2); (try clear hk); (try clear hi); (try clear ho0); obtain ⟨Ao13, co13, eo13⟩ := Kd.R_slice HO208.out; subst eo13))
              go_ret
              exact ⟨by first | rfl | (simp [errW_none, errW_some] <;> rfl) | (simp [*, errW_none, errW_some] <;> rfl), below_step HBA.out (by repeat (first | (with_reducible first | exact HB.out | apply below_alloc | apply pw_below_drewN | apply below_drew1) | exact HB.out))⟩
            · rw [if_neg c9] at H
              have c9b0 : decide ((s205.length : Int) ≤ vv) = false := decide_eq_false c9
              clear c9
              by_cases c14 : 0 ≤ vv
              · rw [if_pos c14] at H
                have c14b0 : decide (0 ≤ vv) = true := decide_eq_true c14
                clear c14
                by_cases c15 : vv < (s205.length : Int)
                · rw [if_pos c15] at H
                  have c15b0 : decide (vv < (s205.length : Int)) = true := decide_eq_true c15
                  clear c15
                  obtain ⟨y210, hy210⟩ : ∃ y_ : List Int, y_ = (s205.set (vv : Int).toNat (IntKind.i8.wrap (-(rd s205 vv)))) := ⟨_, rfl⟩
                  replace H : (if t200 = true then (if (s202 == s206) = true then ((ashlarlaw08_same.f k1 s201 y210).bind fun s211 => (if s211 = true then ((prop_Eval.f k1 l0 A5).bind fun s212 => ((prop_Eval.f k1 x8_1 B5).bind fun s213 => (some (s212 == s213)))) else (some false))) else (some false)) else (some false)) = some r := by first | (rw [hy210]; with_reducible exact H) | (have H2_ := (Option.bind_some _ _).symm.trans H; rw [hy210]; with_reducible exact H2_) | (have H2_ := (Option.bind_some _ _).symm.trans H; with_reducible exact H2_) | with_reducible exact H | (rw [hy210]; exact H) | exact H
                  have Ny210 := Aside0.mk hy210
                  clear hy210
                  by_cases c17 : t200 = true
                  · subst c17
                    have H1 : (if (s202 == s206) = true then ((ashlarlaw08_same.f k1 s201 y210).bind fun s211 => (if s211 = true then ((prop_Eval.f k1 l0 A5).bind fun s212 => ((prop_Eval.f k1 x8_1 B5).bind fun s213 => (some (s212 == s213)))) else (some false))) else (some false)) = some r := by rw [if_pos rfl] at H; exact H
                    clear H
                    have H := H1
                    clear H1
                    by_cases c18 : (s202 == s206) = true
                    · rw [if_pos c18] at H
                      have c18b0 : (s202 == s206) = true := c18
                      (try (have c18b1 : decide (s202 = s206) = true := by simpa using c18))
                      (try (have c18b2 : (s202 == s206) = true := by simpa using c18))
                      clear c18
                      replace H := Option.bind_eq_some_iff.mp H
                      obtain ⟨s211, A190, H⟩ := H
                      replace H : (if s211 = true then ((prop_Eval.f k1 l0 A5).bind fun s212 => ((prop_Eval.f k1 x8_1 B5).bind fun s213 => (some (s212 == s213)))) else (some false)) = some r := H
                      have A19 := Aside0.mk A190
                      clear A190
                      by_cases c20 : s211 = true
                      · subst c20
                        have H1 : ((prop_Eval.f k1 l0 A5).bind fun s212 => ((prop_Eval.f k1 x8_1 B5).bind fun s213 => (some (s212 == s213)))) = some r := by rw [if_pos rfl] at H; exact H
                        clear H
                        have H := H1
                        clear H1
                        replace H := Option.bind_eq_some_iff.mp H
                        obtain ⟨s212, A210, H⟩ := H
                        replace H : ((prop_Eval.f k1 x8_1 B5).bind fun s213 => (some (s212 == s213))) = some r := H
                        have A21 := Aside0.mk A210
                        clear A210
                        replace H := Option.bind_eq_some_iff.mp H
                        obtain ⟨s213, A220, H⟩ := H
                        replace H : (some (s212 == s213)) = some r := H
                        have A22 := Aside0.mk A220
                        clear A220
                        obtain rfl := Option.some.inj H
                        go_wp2_with (first | ((with_reducible refine gate_store (t := 30) (p := 98) rfl ?_); refine store_event (t := 30) (p := 98) (v := ?vo_w21) (w1 := (wr.setCell ⟨gb, vv.toNat, none⟩ (.int .i8 (IntKind.i8.wrap (-jb))))) ?hg ?ho ?hn ?hr ?_; (case ho => rfl); (case hg => rfl); (case hn => rfl); (case hr => first | (go_simp; done) | (go_simp; rfl)); intro w21 hw; have n0_ := Aside0.mk (by rw [hw, ← HB5.out]; exact HPB.1 : Kd.R (Kd.int .i8) 30 w21 w.heap.size (fun _ => True) (.slice (some ⟨gb, 0, none⟩) t202.length cb) B5); have n1_ := Aside0.mk (by rw [hw]; exact HMB : Kd.S (Kd.slice 3 (Kd.int .i64)) 35 w21 w.heap.size (fun _ => True) (.slice Am x8_1.length cm8) x8_1); have n2_ := Aside0.mk (by rw [hw]; exact below_set HB.out GBB.out : Below w.heap.size w w21); clear HPB HMB HO_8 HO_9 HB hw hxb hfb hjb_; have HO_9 := n0_; have HO_8 := n1_; have HB := n2_; clear n0_ n1_ n2_; have n0_ := Aside0.mk (Kd.R_below HOA.out HB.out); have n1_ := Aside0.mk (Kd.S_below HOL.out HB.out); have n2_ := Aside0.mk (below_step HBA.out HB.out); clear HOA HOL HBA HB; have HOA := n0_; have HOL := n1_; have HBA := n2_; clear n0_ n1_ n2_; obtain ⟨ga2, ca2, ea, gab2, gal2, cella2, HGa⟩ := Kd.R_form HOA.out (by have := VVA.out; have := VV0.out; omega); injection ea with ea1 ea2 ea3; injection ea1 with ea1; injection ea1 with ea1; subst ea1; obtain ⟨hxa, hfa⟩ := Kd.R_celln 0 HOA.out vv VV0.out VVA.out; replace hxa : w21.cell? ⟨ga, vv.toNat, none⟩ = some (.int .i8 (rd l1 vv)) := hxa; have HPA := Kd.R_putg HOA.out vv ja; have HLS := Kd.S_set HOL.out HGa (by decide) vv.toNat (.int .i8 ja); have HMS := Kd.S_set HO_8.out HGa (by decide) vv.toNat (.int .i8 ja); have HBS := Kd.R_grown1 HO_9.out rfl HPA.2 GNE.out; clear gab2 gal2 HGa ea2 ea3) | ((with_reducible refine gate_store (t := 30) (p := 106) rfl ?_); refine store_event (t := 30) (p := 106) (v := ?vo_w22) (w1 := (w21.setCell ⟨ga, vv.toNat, none⟩ (.int .i8 ja))) ?hg ?ho ?hn ?hr ?_; (case ho => rfl); (case hg => rfl); (case hn => rfl); (case hr => first | (go_simp; done) | (go_simp; rfl)); intro w3 hw; rw [← hw] at HPA HLS HMS HBS; have n0_ := Aside0.mk (by rw [hw]; exact below_set HBA.out GAB.out : Below wA.heap.size wA w3); clear HBA hw hxa hfa hja_; have HBA := n0_; clear n0_; have hla := HLA.out; have hlb := HLB.out; have hpa := HPA.1; rw [HA5.out] at hpa; rw [hla] at hpa ⊢; rw [hlb] at HBS ⊢; have HR0 := Aside0.mk (Kd.S_reads' HLS).2.2; have HR1 := Aside0.mk (Kd.R_reads' hpa).2.2; have HC1 := Aside0.mk (Kd.R_reads' hpa).2.1; have HR3 := Aside0.mk (Kd.S_reads' HMS).2.2; have HC3 := Aside0.mk (Kd.S_reads' HMS).2.1; have HR4 := Aside0.mk (Kd.R_reads' HBS).2.2; have HC4 := Aside0.mk (Kd.R_reads' HBS).2.1; have HB := Aside0.mk (Below.refl w3.heap.size w3); clear HPA HLS HMS HBS hpa HOA HOL HO_8 HO_9 GBB GAB GNE HLA HLB p1 p2 p3 hla hlb HA5 HB5) | ((with_reducible refine gate_callee (f := 12) rfl ?_); refine goesL_ (some 16) rfl rfl Try.func12 (by kernel_rfl) rfl #[] rfl (by (try simp only [List.map_toArray, List.map_cons, List.map_nil]); first | done | rfl | (simp only [List.length_drop, List.length_take]; rfl)) ?_; (with_reducible refine (ashlarlaw08_shown.calls k1  true _ A6.out).mono ?_); rintro e w23 ⟨rfl, hb⟩; refine ⟨_, rfl, ?_⟩; have n0_ := Aside0.mk (below_step (by repeat (first | (with_reducible first | exact HB.out | apply below_alloc | apply pw_below_drewN | apply below_drew1) | exact HB.out)) hb); clear HB; have HB := n0_; clear n0_; (try clear hb); (try clear hb2); (try clear hk); (try clear hi)) | ((with_reducible refine gate_callee (f := 14) rfl ?_); refine goesL_ (some 110) rfl rfl Try.func14 (by kernel_rfl) rfl #[.slice A0 l0.length c0, .slice (some ⟨ga, 0, none⟩) A5.length c1] rfl (by (try simp only [List.map_toArray, List.map_cons, List.map_nil]); first | done | rfl | (simp only [List.length_drop, List.length_take]; rfl)) ?_; (with_reducible refine (prop_Unit.calls k1 _ _ l0 _ _ A5 s201 s202 _ ?side1 ?side2 ?side3 ?side4 A7.out).mono ?_); (case side1 => repeat (first | exact (Kd.C_below HR0.out HB.out) | (with_reducible refine Kd.C_alloc ?_ _) | (with_reducible refine Kd.C_drewN ?_ _) | (with_reducible refine Kd.C_drew ?_))); (case side2 => exact HC0.out); (case side3 => repeat (first | exact (Kd.C_below HR1.out HB.out) | (with_reducible refine Kd.C_alloc ?_ _) | (with_reducible refine Kd.C_drewN ?_ _) | (with_reducible refine Kd.C_drew ?_))); (case side4 => exact HC1.out); rintro e w24 ⟨v203, rfl, ho0, hb⟩; refine ⟨_, rfl, ?_⟩; have n0_ := Aside0.mk (Kd.R_lower ho0 (below_size (by repeat (first | (with_reducible first | exact HB.out | apply below_alloc | apply pw_below_drewN | apply below_drew1) | exact HB.out)))); have n1_ := Aside0.mk (below_step (by repeat (first | (with_reducible first | exact HB.out | apply below_alloc | apply pw_below_drewN | apply below_drew1) | exact HB.out)) hb); clear HB; have HO204 := n0_; have HB := n1_; clear n0_ n1_; (try clear hb); (try clear hb2); (try clear hk); (try clear hi); (try clear ho0)) | ((with_reducible refine gate_callee (f := 14) rfl ?_); refine goesL_ (some 116) rfl rfl Try.func14 (by kernel_rfl) rfl #[.slice Am x8_1.length cm8, .slice (some ⟨gb, 0, none⟩) B5.length cb] rfl (by (try simp only [List.map_toArray, List.map_cons, List.map_nil]); first | done | rfl | (simp only [List.length_drop, List.length_take]; rfl)) ?_; (with_reducible refine (prop_Unit.calls k1 _ _ x8_1 _ _ B5 s205 s206 _ ?side1 ?side2 ?side3 ?side4 A8.out).mono ?_); (case side1 => repeat (first | exact (Kd.C_below HR3.out HB.out) | (with_reducible refine Kd.C_alloc ?_ _) | (with_reducible refine Kd.C_drewN ?_ _) | (with_reducible refine Kd.C_drew ?_))); (case side2 => exact HC3.out); (case side3 => repeat (first | exact (Kd.C_below HR4.out HB.out) | (with_reducible refine Kd.C_alloc ?_ _) | (with_reducible refine Kd.C_drewN ?_ _) | (with_reducible refine Kd.C_drew ?_))); (case side4 => exact HC4.out); rintro e w25 ⟨v207, rfl, ho0, hb⟩; refine ⟨_, rfl, ?_⟩; have n0_ := Aside0.mk (Kd.R_elder' (by (with_reducible repeat (first | apply Kd.R_alloc | apply Kd.R_drewN | apply Kd.R_drew)); exact HO204.out) (Kd.R_base ho0) hb); have n1_ := Aside0.mk (Kd.R_lower (Kd.R_new' ho0 (Kd.R_lt (by (with_reducible repeat (first | apply Kd.R_alloc | apply Kd.R_drewN | apply Kd.R_drew)); exact HO204.out))) (below_size (by repeat (first | (with_reducible first | exact HB.out | apply below_alloc | apply pw_below_drewN | apply below_drew1) | exact HB.out)))); have n2_ := Aside0.mk (below_step (by repeat (first | (with_reducible first | exact HB.out | apply below_alloc | apply pw_below_drewN | apply below_drew1) | exact HB.out)) hb); clear HO204; clear HB; have HO204 := n0_; have HO208 := n1_; have HB := n2_; clear n0_ n1_ n2_; (try clear hb); (try clear hb2); (try clear hk); (try clear hi); (try clear ho0); obtain ⟨Ao26, co26, eo26⟩ := Kd.R_slice HO208.out; subst eo26; have p209 : 0 ≤ (vv : Int) := of_decide_eq_true (by first | (with_reducible assumption) | assumption); have q209 : vv < (s205.length : Int) := of_decide_eq_true (by first | (with_reducible assumption) | assumption); obtain ⟨ad209, e209, hx209_0⟩ := Kd.at_int (Kd.R_reads' HO208.out).2.2 vv p209 q209; cases e209; replace p209 := eq_true p209; replace q209 := eq_true q209; have p16 : 0 ≤ (vv : Int) := of_decide_eq_true (by first | (with_reducible assumption) | assumption); have q16 : (vv : Int) < ((s205.length : Int) : Int) := of_decide_eq_true (by first | (with_reducible assumption) | assumption); obtain ⟨go16, co16, eo16, gb16, gl16, cl16, HG16⟩ := Kd.R_form HO208.out (by omega); (first | cases eo16 | (injection eo16 with ea_ en_ ec_; (first | subst ea_ | (injection ea_ with ea_; subst ea_)); subst ec_; clear en_)); have GB16 := Aside0.mk gb16; have GG16 := Aside0.mk HG16; clear gb16 gl16 HG16; (first | simp only [add_plain] at hx209_0 | skip); obtain ⟨hx16_0, hf16_0⟩ := Kd.R_celln 0 HO208.out (vv : Int) p16 q16; replace p16 := eq_true p16; replace q16 := eq_true q16; have n_ := Aside0.mk (Kd.R_mono (ok' := (fun k_ => some k_ ≠ (v203 : Value).ownBlock)) HO208.out (fun k_ hk => hk.2)); clear HO208; have HO208 := n_; clear n_; obtain ⟨hy27_, hz27_⟩ := Kd.R_celln 0 HO208.out (vv : Int) (of_decide_eq_true (by first | (with_reducible assumption) | assumption)) (of_decide_eq_true (by first | (with_reducible assumption) | assumption)); have HP27 := Kd.R_putg HO208.out (vv : Int) (IntKind.i8.wrap (-(rd s205 vv)))) | ((with_reducible refine gate_store (t := 30) (p := 130) rfl ?_); refine store_event (t := 30) (p := 130) (v := ?vo_w28) (w1 := (w25.setCell ⟨go16, (vv : Int).toNat, none⟩ (.int .i8 (IntKind.i8.wrap (-(rd s205 vv)))))) ?hg ?ho ?hn ?hr ?_; (case ho => rfl); (case hg => rfl); (case hn => rfl); (case hr => first | (go_simp; done) | (go_simp; rfl)); intro w28 hw; have hg : w25.grownBy w28 (some go16) := (by rw [hw]; exact HP27.2); have hp_ : Kd.R (Kd.int .i8) 30 w28 w3.heap.size (fun k_ => some k_ ≠ (v203 : Value).ownBlock) (.slice (some ⟨go16, 0, none⟩) s205.length co26) y210 := (by rw [hw, Ny210.out]; exact HP27.1); clear HP27; have n0_ := Aside0.mk (Kd.R_after (v := (.slice (some ⟨go16, 0, none⟩) s205.length co26)) (v1 := (.slice (some ⟨go16, 0, none⟩) s205.length co26)) (ok := (fun _ => True)) (by (with_reducible repeat (first | apply Kd.R_alloc | apply Kd.R_drewN | apply Kd.R_drew)); exact HO204.out) hg (.inl rfl)); have n1_ := Aside0.mk (hp_); have n2_ := Aside0.mk ((by rw [hw]; exact below_set (HB.out) GB16.out : Below w3.heap.size w3 w28)); clear HO204; clear HO208; clear HB; have HO204 := n0_; have HO208 := n1_; have HB := n2_; clear n0_ n1_ n2_; clear hg hw hp_; obtain ⟨Ao29, co29, eo29⟩ := Kd.R_slice HO204.out; subst eo29) | (go_at_call 16; refine calls_of_args (args' := #[.slice Ao29 s201.length co29, .slice (some ⟨go16, 0, none⟩) y210.length co26]) (by first | (rw [show y210.length = s205.length from (Kd.R_reads' HO208.out).1.symm] <;> rfl) | rfl) ?_; (with_reducible refine (ashlarlaw08_same.calls k1 _ _ s201 _ _ y210 true _ ?side1 ?side2 ?side3 ?side4 A19.out).mono ?_); (case side1 => repeat (first | exact (Kd.R_reads' HO204.out).2.2 | (with_reducible refine Kd.C_alloc ?_ _) | (with_reducible refine Kd.C_drewN ?_ _) | (with_reducible refine Kd.C_drew ?_))); (case side2 => exact (Kd.R_reads' HO204.out).2.1); (case side3 => repeat (first | exact (Kd.R_reads' HO208.out).2.2 | (with_reducible refine Kd.C_alloc ?_ _) | (with_reducible refine Kd.C_drewN ?_ _) | (with_reducible refine Kd.C_drew ?_))); (case side4 => rw [show y210.length = s205.length from (Kd.R_reads' HO208.out).1.symm]; exact (Kd.R_reads' HO208.out).2.1); rintro e w' ⟨rfl, ⟨nd, rfl⟩⟩) | (go_at_call 17; (with_reducible refine (prop_Eval.calls k1 _ _ l0 _ _ A5 s212 _ ?side1 ?side2 ?side3 ?side4 A21.out).mono ?_); (case side1 => repeat (first | exact (Kd.C_below HR0.out (by repeat (first | (with_reducible first | exact HB.out | apply below_alloc | apply pw_below_drewN | apply below_drew1) | exact HB.out))) | (with_reducible refine Kd.C_alloc ?_ _) | (with_reducible refine Kd.C_drewN ?_ _) | (with_reducible refine Kd.C_drew ?_))); (case side2 => exact HC0.out); (case side3 => repeat (first | exact (Kd.C_below HR1.out (by repeat (first | (with_reducible first | exact HB.out | apply below_alloc | apply pw_below_drewN | apply below_drew1) | exact HB.out))) | (with_reducible refine Kd.C_alloc ?_ _) | (with_reducible refine Kd.C_drewN ?_ _) | (with_reducible refine Kd.C_drew ?_))); (case side4 => exact HC1.out); rintro e w30 ⟨rfl, hb⟩; have n0_ := Aside0.mk (Kd.R_below (by (with_reducible repeat (first | apply Kd.R_alloc | apply Kd.R_drewN | apply Kd.R_drew)); exact HO204.out) hb); have n1_ := Aside0.mk (Kd.R_below (by (with_reducible repeat (first | apply Kd.R_alloc | apply Kd.R_drewN | apply Kd.R_drew)); exact HO208.out) hb); have n2_ := Aside0.mk (below_step (by repeat (first | (with_reducible first | exact HB.out | apply below_alloc | apply pw_below_drewN | apply below_drew1) | exact HB.out)) hb); clear HO204; clear HO208; clear HB; have HO204 := n0_; have HO208 := n1_; have HB := n2_; clear n0_ n1_ n2_; (try clear hb); (try clear hb2); (try clear hk); (try clear hi)) | (go_at_call 17; (with_reducible refine (prop_Eval.calls k1 _ _ x8_1 _ _ B5 s213 _ ?side1 ?side2 ?side3 ?side4 A22.out).mono ?_); (case side1 => repeat (first | exact (Kd.C_below HR3.out HB.out) | (with_reducible refine Kd.C_alloc ?_ _) | (with_reducible refine Kd.C_drewN ?_ _) | (with_reducible refine Kd.C_drew ?_))); (case side2 => exact HC3.out); (case side3 => repeat (first | exact (Kd.C_below HR4.out HB.out) | (with_reducible refine Kd.C_alloc ?_ _) | (with_reducible refine Kd.C_drewN ?_ _) | (with_reducible refine Kd.C_drew ?_))); (case side4 => exact HC4.out); rintro e w31 ⟨rfl, hb⟩; have n0_ := Aside0.mk (Kd.R_below (by (with_reducible repeat (first | apply Kd.R_alloc | apply Kd.R_drewN | apply Kd.R_drew)); exact HO204.out) hb); have n1_ := Aside0.mk (Kd.R_below (by (with_reducible repeat (first | apply Kd.R_alloc | apply Kd.R_drewN | apply Kd.R_drew)); exact HO208.out) hb); have n2_ := Aside0.mk (below_step (by repeat (first | (with_reducible first | exact HB.out | apply below_alloc | apply pw_below_drewN | apply below_drew1) | exact HB.out)) hb); clear HO204; clear HO208; clear HB; have HO204 := n0_; have HO208 := n1_; have HB := n2_; clear n0_ n1_ n2_; (try clear hb); (try clear hb2); (try clear hk); (try clear hi)))
                        go_ret
                        exact ⟨by first | rfl | (simp [errW_none, errW_some] <;> rfl) | (simp [*, errW_none, errW_some] <;> rfl), below_step HBA.out (by repeat (first | (with_reducible first | exact HB.out | apply below_alloc | apply pw_below_drewN | apply below_drew1) | exact HB.out))⟩
                      · replace c20 := Bool.eq_false_iff.mpr c20
                        subst c20
                        have H1 : (some false) = some r := by rw [if_neg (show ¬ (false = true) by decide)] at H; exact H
                        clear H
                        have H := H1
                        clear H1
                        obtain rfl := Option.some.inj H
                        go_wp2_with (first | ((with_reducible refine gate_store (t := 30) (p := 98) rfl ?_); refine store_event (t := 30) (p := 98) (v := ?vo_w21) (w1 := (wr.setCell ⟨gb, vv.toNat, none⟩ (.int .i8 (IntKind.i8.wrap (-jb))))) ?hg ?ho ?hn ?hr ?_; (case ho => rfl); (case hg => rfl); (case hn => rfl); (case hr => first | (go_simp; done) | (go_simp; rfl)); intro w21 hw; have n0_ := Aside0.mk (by rw [hw, ← HB5.out]; exact HPB.1 : Kd.R (Kd.int .i8) 30 w21 w.heap.size (fun _ => True) (.slice (some ⟨gb, 0, none⟩) t202.length cb) B5); have n1_ := Aside0.mk (by rw [hw]; exact HMB : Kd.S (Kd.slice 3 (Kd.int .i64)) 35 w21 w.heap.size (fun _ => True) (.slice Am x8_1.length cm8) x8_1); have n2_ := Aside0.mk (by rw [hw]; exact below_set HB.out GBB.out : Below w.heap.size w w21); clear HPB HMB HO_8 HO_9 HB hw hxb hfb hjb_; have HO_9 := n0_; have HO_8 := n1_; have HB := n2_; clear n0_ n1_ n2_; have n0_ := Aside0.mk (Kd.R_below HOA.out HB.out); have n1_ := Aside0.mk (Kd.S_below HOL.out HB.out); have n2_ := Aside0.mk (below_step HBA.out HB.out); clear HOA HOL HBA HB; have HOA := n0_; have HOL := n1_; have HBA := n2_; clear n0_ n1_ n2_; obtain ⟨ga2, ca2, ea, gab2, gal2, cella2, HGa⟩ := Kd.R_form HOA.out (by have := VVA.out; have := VV0.out; omega); injection ea with ea1 ea2 ea3; injection ea1 with ea1; injection ea1 with ea1; subst ea1; obtain ⟨hxa, hfa⟩ := Kd.R_celln 0 HOA.out vv VV0.out VVA.out; replace hxa : w21.cell? ⟨ga, vv.toNat, none⟩ = some (.int .i8 (rd l1 vv)) := hxa; have HPA := Kd.R_putg HOA.out vv ja; have HLS := Kd.S_set HOL.out HGa (by decide) vv.toNat (.int .i8 ja); have HMS := Kd.S_set HO_8.out HGa (by decide) vv.toNat (.int .i8 ja); have HBS := Kd.R_grown1 HO_9.out rfl HPA.2 GNE.out; clear gab2 gal2 HGa ea2 ea3) | ((with_reducible refine gate_store (t := 30) (p := 106) rfl ?_); refine store_event (t := 30) (p := 106) (v := ?vo_w22) (w1 := (w21.setCell ⟨ga, vv.toNat, none⟩ (.int .i8 ja))) ?hg ?ho ?hn ?hr ?_; (case ho => rfl); (case hg => rfl); (case hn => rfl); (case hr => first | (go_simp; done) | (go_simp; rfl)); intro w3 hw; rw [← hw] at HPA HLS HMS HBS; have n0_ := Aside0.mk (by rw [hw]; exact below_set HBA.out GAB.out : Below wA.heap.size wA w3); clear HBA hw hxa hfa hja_; have HBA := n0_; clear n0_; have hla := HLA.out; have hlb := HLB.out; have hpa := HPA.1; rw [HA5.out] at hpa; rw [hla] at hpa ⊢; rw [hlb] at HBS ⊢; have HR0 := Aside0.mk (Kd.S_reads' HLS).2.2; have HR1 := Aside0.mk (Kd.R_reads' hpa).2.2; have HC1 := Aside0.mk (Kd.R_reads' hpa).2.1; have HR3 := Aside0.mk (Kd.S_reads' HMS).2.2; have HC3 := Aside0.mk (Kd.S_reads' HMS).2.1; have HR4 := Aside0.mk (Kd.R_reads' HBS).2.2; have HC4 := Aside0.mk (Kd.R_reads' HBS).2.1; have HB := Aside0.mk (Below.refl w3.heap.size w3); clear HPA HLS HMS HBS hpa HOA HOL HO_8 HO_9 GBB GAB GNE HLA HLB p1 p2 p3 hla hlb HA5 HB5) | ((with_reducible refine gate_callee (f := 12) rfl ?_); refine goesL_ (some 16) rfl rfl Try.func12 (by kernel_rfl) rfl #[] rfl (by (try simp only [List.map_toArray, List.map_cons, List.map_nil]); first | done | rfl | (simp only [List.length_drop, List.length_take]; rfl)) ?_; (with_reducible refine (ashlarlaw08_shown.calls k1  true _ A6.out).mono ?_); rintro e w32 ⟨rfl, hb⟩; refine ⟨_, rfl, ?_⟩; have n0_ := Aside0.mk (below_step (by repeat (first | (with_reducible first | exact HB.out | apply below_alloc | apply pw_below_drewN | apply below_drew1) | exact HB.out)) hb); clear HB; have HB := n0_; clear n0_; (try clear hb); (try clear hb2); (try clear hk); (try clear hi)) | ((with_reducible refine gate_callee (f := 14) rfl ?_); refine goesL_ (some 110) rfl rfl Try.func14 (by kernel_rfl) rfl #[.slice A0 l0.length c0, .slice (some ⟨ga, 0, none⟩) A5.length c1] rfl (by (try simp only [List.map_toArray, List.map_cons, List.map_nil]); first | done | rfl | (simp only [List.length_drop, List.length_take]; rfl)) ?_; (with_reducible refine (prop_Unit.calls k1 _ _ l0 _ _ A5 s201 s202 _ ?side1 ?side2 ?side3 ?side4 A7.out).mono ?_); (case side1 => repeat (first | exact (Kd.C_below HR0.out HB.out) | (with_reducible refine Kd.C_alloc ?_ _) | (with_reducible refine Kd.C_drewN ?_ _) | (with_reducible refine Kd.C_drew ?_))); (case side2 => exact HC0.out); (case side3 => repeat (first | exact (Kd.C_below HR1.out HB.out) | (with_reducible refine Kd.C_alloc ?_ _) | (with_reducible refine Kd.C_drewN ?_ _) | (with_reducible refine Kd.C_drew ?_))); (case side4 => exact HC1.out); rintro e w33 ⟨v203, rfl, ho0, hb⟩; refine ⟨_, rfl, ?_⟩; have n0_ := Aside0.mk (Kd.R_lower ho0 (below_size (by repeat (first | (with_reducible first | exact HB.out | apply below_alloc | apply pw_below_drewN | apply below_drew1) | exact HB.out)))); have n1_ := Aside0.mk (below_step (by repeat (first | (with_reducible first | exact HB.out | apply below_alloc | apply pw_below_drewN | apply below_drew1) | exact HB.out)) hb); clear HB; have HO204 := n0_; have HB := n1_; clear n0_ n1_; (try clear hb); (try clear hb2); (try clear hk); (try clear hi); (try clear ho0)) | ((with_reducible refine gate_callee (f := 14) rfl ?_); refine goesL_ (some 116) rfl rfl Try.func14 (by kernel_rfl) rfl #[.slice Am x8_1.length cm8, .slice (some ⟨gb, 0, none⟩) B5.length cb] rfl (by (try simp only [List.map_toArray, List.map_cons, List.map_nil]); first | done | rfl | (simp only [List.length_drop, List.length_take]; rfl)) ?_; (with_reducible refine (prop_Unit.calls k1 _ _ x8_1 _ _ B5 s205 s206 _ ?side1 ?side2 ?side3 ?side4 A8.out).mono ?_); (case side1 => repeat (first | exact (Kd.C_below HR3.out HB.out) | (with_reducible refine Kd.C_alloc ?_ _) | (with_reducible refine Kd.C_drewN ?_ _) | (with_reducible refine Kd.C_drew ?_))); (case side2 => exact HC3.out); (case side3 => repeat (first | exact (Kd.C_below HR4.out HB.out) | (with_reducible refine Kd.C_alloc ?_ _) | (with_reducible refine Kd.C_drewN ?_ _) | (with_reducible refine Kd.C_drew ?_))); (case side4 => exact HC4.out); rintro e w34 ⟨v207, rfl, ho0, hb⟩; refine ⟨_, rfl, ?_⟩; have n0_ := Aside0.mk (Kd.R_elder' (by (with_reducible repeat (first | apply Kd.R_alloc | apply Kd.R_drewN | apply Kd.R_drew)); exact HO204.out) (Kd.R_base ho0) hb); have n1_ := Aside0.mk (Kd.R_lower (Kd.R_new' ho0 (Kd.R_lt (by (with_reducible repeat (first | apply Kd.R_alloc | apply Kd.R_drewN | apply Kd.R_drew)); exact HO204.out))) (below_size (by repeat (first | (with_reducible first | exact HB.out | apply below_alloc | apply pw_below_drewN | apply below_drew1) | exact HB.out)))); have n2_ := Aside0.mk (below_step (by repeat (first | (with_reducible first | exact HB.out | apply below_alloc | apply pw_below_drewN | apply below_drew1) | exact HB.out)) hb); clear HO204; clear HB; have HO204 := n0_; have HO208 := n1_; have HB := n2_; clear n0_ n1_ n2_; (try clear hb); (try clear hb2); (try clear hk); (try clear hi); (try clear ho0); obtain ⟨Ao35, co35, eo35⟩ := Kd.R_slice HO208.out; subst eo35; have p209 : 0 ≤ (vv : Int) := of_decide_eq_true (by first | (with_reducible assumption) | assumption); have q209 : vv < (s205.length : Int) := of_decide_eq_true (by first | (with_reducible assumption) | assumption); obtain ⟨ad209, e209, hx209_0⟩ := Kd.at_int (Kd.R_reads' HO208.out).2.2 vv p209 q209; cases e209; replace p209 := eq_true p209; replace q209 := eq_true q209; have p16 : 0 ≤ (vv : Int) := of_decide_eq_true (by first | (with_reducible assumption) | assumption); have q16 : (vv : Int) < ((s205.length : Int) : Int) := of_decide_eq_true (by first | (with_reducible assumption) | assumption); obtain ⟨go16, co16, eo16, gb16, gl16, cl16, HG16⟩ := Kd.R_form HO208.out (by omega); (first | cases eo16 | (injection eo16 with ea_ en_ ec_; (first | subst ea_ | (injection ea_ with ea_; subst ea_)); subst ec_; clear en_)); have GB16 := Aside0.mk gb16; have GG16 := Aside0.mk HG16; clear gb16 gl16 HG16; (first | simp only [add_plain] at hx209_0 | skip); obtain ⟨hx16_0, hf16_0⟩ := Kd.R_celln 0 HO208.out (vv : Int) p16 q16; replace p16 := eq_true p16; replace q16 := eq_true q16; have n_ := Aside0.mk (Kd.R_mono (ok' := (fun k_ => some k_ ≠ (v203 : Value).ownBlock)) HO208.out (fun k_ hk => hk.2)); clear HO208; have HO208 := n_; clear n_; obtain ⟨hy36_, hz36_⟩ := Kd.R_celln 0 HO208.out (vv : Int) (of_decide_eq_true (by first | (with_reducible assumption) | assumption)) (of_decide_eq_true (by first | (with_reducible assumption) | assumption)); have HP36 := Kd.R_putg HO208.out (vv : Int) (IntKind.i8.wrap (-(rd s205 vv)))) | ((with_reducible refine gate_store (t := 30) (p := 130) rfl ?_); refine store_event (t := 30) (p := 130) (v := ?vo_w37) (w1 := (w34.setCell ⟨go16, (vv : Int).toNat, none⟩ (.int .i8 (IntKind.i8.wrap (-(rd s205 vv)))))) ?hg ?ho ?hn ?hr ?_; (case ho => rfl); (case hg => rfl); (case hn => rfl); (case hr => first | (go_simp; done) | (go_simp; rfl)); intro w37 hw; have hg : w34.grownBy w37 (some go16) := (by rw [hw]; exact HP36.2); have hp_ : Kd.R (Kd.int .i8) 30 w37 w3.heap.size (fun k_ => some k_ ≠ (v203 : Value).ownBlock) (.slice (some ⟨go16, 0, none⟩) s205.length co35) y210 := (by rw [hw, Ny210.out]; exact HP36.1); clear HP36; have n0_ := Aside0.mk (Kd.R_after (v := (.slice (some ⟨go16, 0, none⟩) s205.length co35)) (v1 := (.slice (some ⟨go16, 0, none⟩) s205.length co35)) (ok := (fun _ => True)) (by (with_reducible repeat (first | apply Kd.R_alloc | apply Kd.R_drewN | apply Kd.R_drew)); exact HO204.out) hg (.inl rfl)); have n1_ := Aside0.mk (hp_); have n2_ := Aside0.mk ((by rw [hw]; exact below_set (HB.out) GB16.out : Below w3.heap.size w3 w37)); clear HO204; clear HO208; clear HB; have HO204 := n0_; have HO208 := n1_; have HB := n2_; clear n0_ n1_ n2_; clear hg hw hp_; obtain ⟨Ao38, co38, eo38⟩ := Kd.R_slice HO204.out; subst eo38) | (go_at_call 16; refine calls_of_args (args' := #[.slice Ao38 s201.length co38, .slice (some ⟨go16, 0, none⟩) y210.length co35]) (by first | (rw [show y210.length = s205.length from (Kd.R_reads' HO208.out).1.symm] <;> rfl) | rfl) ?_; (with_reducible refine (ashlarlaw08_same.calls k1 _ _ s201 _ _ y210 false _ ?side1 ?side2 ?side3 ?side4 A19.out).mono ?_); (case side1 => repeat (first | exact (Kd.R_reads' HO204.out).2.2 | (with_reducible refine Kd.C_alloc ?_ _) | (with_reducible refine Kd.C_drewN ?_ _) | (with_reducible refine Kd.C_drew ?_))); (case side2 => exact (Kd.R_reads' HO204.out).2.1); (case side3 => repeat (first | exact (Kd.R_reads' HO208.out).2.2 | (with_reducible refine Kd.C_alloc ?_ _) | (with_reducible refine Kd.C_drewN ?_ _) | (with_reducible refine Kd.C_drew ?_))); (case side4 => rw [show y210.length = s205.length from (Kd.R_reads' HO208.out).1.symm]; exact (Kd.R_reads' HO208.out).2.1); rintro e w' ⟨rfl, ⟨nd, rfl⟩⟩))
                        go_ret
                        exact ⟨by first | rfl | (simp [errW_none, errW_some] <;> rfl) | (simp [*, errW_none, errW_some] <;> rfl), below_step HBA.out (by repeat (first | (with_reducible first | exact HB.out | apply below_alloc | apply pw_below_drewN | apply below_drew1) | exact HB.out))⟩
                    · rw [if_neg c18] at H
                      have c18b0 : (s202 == s206) = false := by simpa using c18
                      (try (have c18b1 : decide (s202 = s206) = false := by simpa using c18))
                      (try (have c18b2 : (s202 == s206) = false := by simpa using c18))
                      (try (have c18b3 : ¬ (s202 = s206) := by simpa using c18))
                      clear c18
                      obtain rfl := Option.some.inj H
                      go_wp2_with (first | ((with_reducible refine gate_store (t := 30) (p := 98) rfl ?_); refine store_event (t := 30) (p := 98) (v := ?vo_w21) (w1 := (wr.setCell ⟨gb, vv.toNat, none⟩ (.int .i8 (IntKind.i8.wrap (-jb))))) ?hg ?ho ?hn ?hr ?_; (case ho => rfl); (case hg => rfl); (case hn => rfl); (case hr => first | (go_simp; done) | (go_simp; rfl)); intro w21 hw; have n0_ := Aside0.mk (by rw [hw, ← HB5.out]; exact HPB.1 : Kd.R (Kd.int .i8) 30 w21 w.heap.size (fun _ => True) (.slice (some ⟨gb, 0, none⟩) t202.length cb) B5); have n1_ := Aside0.mk (by rw [hw]; exact HMB : Kd.S (Kd.slice 3 (Kd.int .i64)) 35 w21 w.heap.size (fun _ => True) (.slice Am x8_1.length cm8) x8_1); have n2_ := Aside0.mk (by rw [hw]; exact below_set HB.out GBB.out : Below w.heap.size w w21); clear HPB HMB HO_8 HO_9 HB hw hxb hfb hjb_; have HO_9 := n0_; have HO_8 := n1_; have HB := n2_; clear n0_ n1_ n2_; have n0_ := Aside0.mk (Kd.R_below HOA.out HB.out); have n1_ := Aside0.mk (Kd.S_below HOL.out HB.out); have n2_ := Aside0.mk (below_step HBA.out HB.out); clear HOA HOL HBA HB; have HOA := n0_; have HOL := n1_; have HBA := n2_; clear n0_ n1_ n2_; obtain ⟨ga2, ca2, ea, gab2, gal2, cella2, HGa⟩ := Kd.R_form HOA.out (by have := VVA.out; have := VV0.out; omega); injection ea with ea1 ea2 ea3; injection ea1 with ea1; injection ea1 with ea1; subst ea1; obtain ⟨hxa, hfa⟩ := Kd.R_celln 0 HOA.out vv VV0.out VVA.out; replace hxa : w21.cell? ⟨ga, vv.toNat, none⟩ = some (.int .i8 (rd l1 vv)) := hxa; have HPA := Kd.R_putg HOA.out vv ja; have HLS := Kd.S_set HOL.out HGa (by decide) vv.toNat (.int .i8 ja); have HMS := Kd.S_set HO_8.out HGa (by decide) vv.toNat (.int .i8 ja); have HBS := Kd.R_grown1 HO_9.out rfl HPA.2 GNE.out; clear gab2 gal2 HGa ea2 ea3) | ((with_reducible refine gate_store (t := 30) (p := 106) rfl ?_); refine store_event (t := 30) (p := 106) (v := ?vo_w22) (w1 := (w21.setCell ⟨ga, vv.toNat, none⟩ (.int .i8 ja))) ?hg ?ho ?hn ?hr ?_; (case ho => rfl); (case hg => rfl); (case hn => rfl); (case hr => first | (go_simp; done) | (go_simp; rfl)); intro w3 hw; rw [← hw] at HPA HLS HMS HBS; have n0_ := Aside0.mk (by rw [hw]; exact below_set HBA.out GAB.out : Below wA.heap.size wA w3); clear HBA hw hxa hfa hja_; have HBA := n0_; clear n0_; have hla := HLA.out; have hlb := HLB.out; have hpa := HPA.1; rw [HA5.out] at hpa; rw [hla] at hpa ⊢; rw [hlb] at HBS ⊢; have HR0 := Aside0.mk (Kd.S_reads' HLS).2.2; have HR1 := Aside0.mk (Kd.R_reads' hpa).2.2; have HC1 := Aside0.mk (Kd.R_reads' hpa).2.1; have HR3 := Aside0.mk (Kd.S_reads' HMS).2.2; have HC3 := Aside0.mk (Kd.S_reads' HMS).2.1; have HR4 := Aside0.mk (Kd.R_reads' HBS).2.2; have HC4 := Aside0.mk (Kd.R_reads' HBS).2.1; have HB := Aside0.mk (Below.refl w3.heap.size w3); clear HPA HLS HMS HBS hpa HOA HOL HO_8 HO_9 GBB GAB GNE HLA HLB p1 p2 p3 hla hlb HA5 HB5) | ((with_reducible refine gate_callee (f := 12) rfl ?_); refine goesL_ (some 16) rfl rfl Try.func12 (by kernel_rfl) rfl #[] rfl (by (try simp only [List.map_toArray, List.map_cons, List.map_nil]); first | done | rfl | (simp only [List.length_drop, List.length_take]; rfl)) ?_; (with_reducible refine (ashlarlaw08_shown.calls k1  true _ A6.out).mono ?_); rintro e w39 ⟨rfl, hb⟩; refine ⟨_, rfl, ?_⟩; have n0_ := Aside0.mk (below_step (by repeat (first | (with_reducible first | exact HB.out | apply below_alloc | apply pw_below_drewN | apply below_drew1) | exact HB.out)) hb); clear HB; have HB := n0_; clear n0_; (try clear hb); (try clear hb2); (try clear hk); (try clear hi)) | ((with_reducible refine gate_callee (f := 14) rfl ?_); refine goesL_ (some 110) rfl rfl Try.func14 (by kernel_rfl) rfl #[.slice A0 l0.length c0, .slice (some ⟨ga, 0, none⟩) A5.length c1] rfl (by (try simp only [List.map_toArray, List.map_cons, List.map_nil]); first | done | rfl | (simp only [List.length_drop, List.length_take]; rfl)) ?_; (with_reducible refine (prop_Unit.calls k1 _ _ l0 _ _ A5 s201 s202 _ ?side1 ?side2 ?side3 ?side4 A7.out).mono ?_); (case side1 => repeat (first | exact (Kd.C_below HR0.out HB.out) | (with_reducible refine Kd.C_alloc ?_ _) | (with_reducible refine Kd.C_drewN ?_ _) | (with_reducible refine Kd.C_drew ?_))); (case side2 => exact HC0.out); (case side3 => repeat (first | exact (Kd.C_below HR1.out HB.out) | (with_reducible refine Kd.C_alloc ?_ _) | (with_reducible refine Kd.C_drewN ?_ _) | (with_reducible refine Kd.C_drew ?_))); (case side4 => exact HC1.out); rintro e w40 ⟨v203, rfl, ho0, hb⟩; refine ⟨_, rfl, ?_⟩; have n0_ := Aside0.mk (Kd.R_lower ho0 (below_size (by repeat (first | (with_reducible first | exact HB.out | apply below_alloc | apply pw_below_drewN | apply below_drew1) | exact HB.out)))); have n1_ := Aside0.mk (below_step (by repeat (first | (with_reducible first | exact HB.out | apply below_alloc | apply pw_below_drewN | apply below_drew1) | exact HB.out)) hb); clear HB; have HO204 := n0_; have HB := n1_; clear n0_ n1_; (try clear hb); (try clear hb2); (try clear hk); (try clear hi); (try clear ho0)) | ((with_reducible refine gate_callee (f := 14) rfl ?_); refine goesL_ (some 116) rfl rfl Try.func14 (by kernel_rfl) rfl #[.slice Am x8_1.length cm8, .slice (some ⟨gb, 0, none⟩) B5.length cb] rfl (by (try simp only [List.map_toArray, List.map_cons, List.map_nil]); first | done | rfl | (simp only [List.length_drop, List.length_take]; rfl)) ?_; (with_reducible refine (prop_Unit.calls k1 _ _ x8_1 _ _ B5 s205 s206 _ ?side1 ?side2 ?side3 ?side4 A8.out).mono ?_); (case side1 => repeat (first | exact (Kd.C_below HR3.out HB.out) | (with_reducible refine Kd.C_alloc ?_ _) | (with_reducible refine Kd.C_drewN ?_ _) | (with_reducible refine Kd.C_drew ?_))); (case side2 => exact HC3.out); (case side3 => repeat (first | exact (Kd.C_below HR4.out HB.out) | (with_reducible refine Kd.C_alloc ?_ _) | (with_reducible refine Kd.C_drewN ?_ _) | (with_reducible refine Kd.C_drew ?_))); (case side4 => exact HC4.out); rintro e w41 ⟨v207, rfl, ho0, hb⟩; refine ⟨_, rfl, ?_⟩; have n0_ := Aside0.mk (Kd.R_elder' (by (with_reducible repeat (first | apply Kd.R_alloc | apply Kd.R_drewN | apply Kd.R_drew)); exact HO204.out) (Kd.R_base ho0) hb); have n1_ := Aside0.mk (Kd.R_lower (Kd.R_new' ho0 (Kd.R_lt (by (with_reducible repeat (first | apply Kd.R_alloc | apply Kd.R_drewN | apply Kd.R_drew)); exact HO204.out))) (below_size (by repeat (first | (with_reducible first | exact HB.out | apply below_alloc | apply pw_below_drewN | apply below_drew1) | exact HB.out)))); have n2_ := Aside0.mk (below_step (by repeat (first | (with_reducible first | exact HB.out | apply below_alloc | apply pw_below_drewN | apply below_drew1) | exact HB.out)) hb); clear HO204; clear HB; have HO204 := n0_; have HO208 := n1_; have HB := n2_; clear n0_ n1_ n2_; (try clear hb); (try clear hb2); (try clear hk); (try clear hi); (try clear ho0); obtain ⟨Ao42, co42, eo42⟩ := Kd.R_slice HO208.out; subst eo42; have p209 : 0 ≤ (vv : Int) := of_decide_eq_true (by first | (with_reducible assumption) | assumption); have q209 : vv < (s205.length : Int) := of_decide_eq_true (by first | (with_reducible assumption) | assumption); obtain ⟨ad209, e209, hx209_0⟩ := Kd.at_int (Kd.R_reads' HO208.out).2.2 vv p209 q209; cases e209; replace p209 := eq_true p209; replace q209 := eq_true q209; have p16 : 0 ≤ (vv : Int) := of_decide_eq_true (by first | (with_reducible assumption) | assumption); have q16 : (vv : Int) < ((s205.length : Int) : Int) := of_decide_eq_true (by first | (with_reducible assumption) | assumption); obtain ⟨go16, co16, eo16, gb16, gl16, cl16, HG16⟩ := Kd.R_form HO208.out (by omega); (first | cases eo16 | (injection eo16 with ea_ en_ ec_; (first | subst ea_ | (injection ea_ with ea_; subst ea_)); subst ec_; clear en_)); have GB16 := Aside0.mk gb16; have GG16 := Aside0.mk HG16; clear gb16 gl16 HG16; (first | simp only [add_plain] at hx209_0 | skip); obtain ⟨hx16_0, hf16_0⟩ := Kd.R_celln 0 HO208.out (vv : Int) p16 q16; replace p16 := eq_true p16; replace q16 := eq_true q16; have n_ := Aside0.mk (Kd.R_mono (ok' := (fun k_ => some k_ ≠ (v203 : Value).ownBlock)) HO208.out (fun k_ hk => hk.2)); clear HO208; have HO208 := n_; clear n_; obtain ⟨hy43_, hz43_⟩ := Kd.R_celln 0 HO208.out (vv : Int) (of_decide_eq_true (by first | (with_reducible assumption) | assumption)) (of_decide_eq_true (by first | (with_reducible assumption) | assumption)); have HP43 := Kd.R_putg HO208.out (vv : Int) (IntKind.i8.wrap (-(rd s205 vv)))) | ((with_reducible refine gate_store (t := 30) (p := 130) rfl ?_); refine store_event (t := 30) (p := 130) (v := ?vo_w44) (w1 := (w41.setCell ⟨go16, (vv : Int).toNat, none⟩ (.int .i8 (IntKind.i8.wrap (-(rd s205 vv)))))) ?hg ?ho ?hn ?hr ?_; (case ho => rfl); (case hg => rfl); (case hn => rfl); (case hr => first | (go_simp; done) | (go_simp; rfl)); intro w44 hw; have hg : w41.grownBy w44 (some go16) := (by rw [hw]; exact HP43.2); have hp_ : Kd.R (Kd.int .i8) 30 w44 w3.heap.size (fun k_ => some k_ ≠ (v203 : Value).ownBlock) (.slice (some ⟨go16, 0, none⟩) s205.length co42) y210 := (by rw [hw, Ny210.out]; exact HP43.1); clear HP43; have n0_ := Aside0.mk (Kd.R_after (v := (.slice (some ⟨go16, 0, none⟩) s205.length co42)) (v1 := (.slice (some ⟨go16, 0, none⟩) s205.length co42)) (ok := (fun _ => True)) (by (with_reducible repeat (first | apply Kd.R_alloc | apply Kd.R_drewN | apply Kd.R_drew)); exact HO204.out) hg (.inl rfl)); have n1_ := Aside0.mk (hp_); have n2_ := Aside0.mk ((by rw [hw]; exact below_set (HB.out) GB16.out : Below w3.heap.size w3 w44)); clear HO204; clear HO208; clear HB; have HO204 := n0_; have HO208 := n1_; have HB := n2_; clear n0_ n1_ n2_; clear hg hw hp_))
                      go_ret
                      exact ⟨by first | rfl | (simp [errW_none, errW_some] <;> rfl) | (simp [*, errW_none, errW_some] <;> rfl), below_step HBA.out (by repeat (first | (with_reducible first | exact HB.out | apply below_alloc | apply pw_below_drewN | apply below_drew1) | exact HB.out))⟩
                  · replace c17 := Bool.eq_false_iff.mpr c17
                    subst c17
                    have H1 : (some false) = some r := by rw [if_neg (show ¬ (false = true) by decide)] at H; exact H
                    clear H
                    have H := H1
                    clear H1
                    obtain rfl := Option.some.inj H
                    go_wp2_with (first | ((with_reducible refine gate_store (t := 30) (p := 98) rfl ?_); refine store_event (t := 30) (p := 98) (v := ?vo_w21) (w1 := (wr.setCell ⟨gb, vv.toNat, none⟩ (.int .i8 (IntKind.i8.wrap (-jb))))) ?hg ?ho ?hn ?hr ?_; (case ho => rfl); (case hg => rfl); (case hn => rfl); (case hr => first | (go_simp; done) | (go_simp; rfl)); intro w21 hw; have n0_ := Aside0.mk (by rw [hw, ← HB5.out]; exact HPB.1 : Kd.R (Kd.int .i8) 30 w21 w.heap.size (fun _ => True) (.slice (some ⟨gb, 0, none⟩) t202.length cb) B5); have n1_ := Aside0.mk (by rw [hw]; exact HMB : Kd.S (Kd.slice 3 (Kd.int .i64)) 35 w21 w.heap.size (fun _ => True) (.slice Am x8_1.length cm8) x8_1); have n2_ := Aside0.mk (by rw [hw]; exact below_set HB.out GBB.out : Below w.heap.size w w21); clear HPB HMB HO_8 HO_9 HB hw hxb hfb hjb_; have HO_9 := n0_; have HO_8 := n1_; have HB := n2_; clear n0_ n1_ n2_; have n0_ := Aside0.mk (Kd.R_below HOA.out HB.out); have n1_ := Aside0.mk (Kd.S_below HOL.out HB.out); have n2_ := Aside0.mk (below_step HBA.out HB.out); clear HOA HOL HBA HB; have HOA := n0_; have HOL := n1_; have HBA := n2_; clear n0_ n1_ n2_; obtain ⟨ga2, ca2, ea, gab2, gal2, cella2, HGa⟩ := Kd.R_form HOA.out (by have := VVA.out; have := VV0.out; omega); injection ea with ea1 ea2 ea3; injection ea1 with ea1; injection ea1 with ea1; subst ea1; obtain ⟨hxa, hfa⟩ := Kd.R_celln 0 HOA.out vv VV0.out VVA.out; replace hxa : w21.cell? ⟨ga, vv.toNat, none⟩ = some (.int .i8 (rd l1 vv)) := hxa; have HPA := Kd.R_putg HOA.out vv ja; have HLS := Kd.S_set HOL.out HGa (by decide) vv.toNat (.int .i8 ja); have HMS := Kd.S_set HO_8.out HGa (by decide) vv.toNat (.int .i8 ja); have HBS := Kd.R_grown1 HO_9.out rfl HPA.2 GNE.out; clear gab2 gal2 HGa ea2 ea3) | ((with_reducible refine gate_store (t := 30) (p := 106) rfl ?_); refine store_event (t := 30) (p := 106) (v := ?vo_w22) (w1 := (w21.setCell ⟨ga, vv.toNat, none⟩ (.int .i8 ja))) ?hg ?ho ?hn ?hr ?_; (case ho => rfl); (case hg => rfl); (case hn => rfl); (case hr => first | (go_simp; done) | (go_simp; rfl)); intro w3 hw; rw [← hw] at HPA HLS HMS HBS; have n0_ := Aside0.mk (by rw [hw]; exact below_set HBA.out GAB.out : Below wA.heap.size wA w3); clear HBA hw hxa hfa hja_; have HBA := n0_; clear n0_; have hla := HLA.out; have hlb := HLB.out; have hpa := HPA.1; rw [HA5.out] at hpa; rw [hla] at hpa ⊢; rw [hlb] at HBS ⊢; have HR0 := Aside0.mk (Kd.S_reads' HLS).2.2; have HR1 := Aside0.mk (Kd.R_reads' hpa).2.2; have HC1 := Aside0.mk (Kd.R_reads' hpa).2.1; have HR3 := Aside0.mk (Kd.S_reads' HMS).2.2; have HC3 := Aside0.mk (Kd.S_reads' HMS).2.1; have HR4 := Aside0.mk (Kd.R_reads' HBS).2.2; have HC4 := Aside0.mk (Kd.R_reads' HBS).2.1; have HB := Aside0.mk (Below.refl w3.heap.size w3); clear HPA HLS HMS HBS hpa HOA HOL HO_8 HO_9 GBB GAB GNE HLA HLB p1 p2 p3 hla hlb HA5 HB5) | ((with_reducible refine gate_callee (f := 12) rfl ?_); refine goesL_ (some 16) rfl rfl Try.func12 (by kernel_rfl) rfl #[] rfl (by (try simp only [List.map_toArray, List.map_cons, List.map_nil]); first | done | rfl | (simp only [List.length_drop, List.length_take]; rfl)) ?_; (with_reducible refine (ashlarlaw08_shown.calls k1  false _ A6.out).mono ?_); rintro e w45 ⟨rfl, hb⟩; refine ⟨_, rfl, ?_⟩; have n0_ := Aside0.mk (below_step (by repeat (first | (with_reducible first | exact HB.out | apply below_alloc | apply pw_below_drewN | apply below_drew1) | exact HB.out)) hb); clear HB; have HB := n0_; clear n0_; (try clear hb); (try clear hb2); (try clear hk); (try clear hi)) | ((with_reducible refine gate_callee (f := 14) rfl ?_); refine goesL_ (some 110) rfl rfl Try.func14 (by kernel_rfl) rfl #[.slice A0 l0.length c0, .slice (some ⟨ga, 0, none⟩) A5.length c1] rfl (by (try simp only [List.map_toArray, List.map_cons, List.map_nil]); first | done | rfl | (simp only [List.length_drop, List.length_take]; rfl)) ?_; (with_reducible refine (prop_Unit.calls k1 _ _ l0 _ _ A5 s201 s202 _ ?side1 ?side2 ?side3 ?side4 A7.out).mono ?_); (case side1 => repeat (first | exact (Kd.C_below HR0.out HB.out) | (with_reducible refine Kd.C_alloc ?_ _) | (with_reducible refine Kd.C_drewN ?_ _) | (with_reducible refine Kd.C_drew ?_))); (case side2 => exact HC0.out); (case side3 => repeat (first | exact (Kd.C_below HR1.out HB.out) | (with_reducible refine Kd.C_alloc ?_ _) | (with_reducible refine Kd.C_drewN ?_ _) | (with_reducible refine Kd.C_drew ?_))); (case side4 => exact HC1.out); rintro e w46 ⟨v203, rfl, ho0, hb⟩; refine ⟨_, rfl, ?_⟩; have n0_ := Aside0.mk (Kd.R_lower ho0 (below_size (by repeat (first | (with_reducible first | exact HB.out | apply below_alloc | apply pw_below_drewN | apply below_drew1) | exact HB.out)))); have n1_ := Aside0.mk (below_step (by repeat (first | (with_reducible first | exact HB.out | apply below_alloc | apply pw_below_drewN | apply below_drew1) | exact HB.out)) hb); clear HB; have HO204 := n0_; have HB := n1_; clear n0_ n1_; (try clear hb); (try clear hb2); (try clear hk); (try clear hi); (try clear ho0)) | ((with_reducible refine gate_callee (f := 14) rfl ?_); refine goesL_ (some 116) rfl rfl Try.func14 (by kernel_rfl) rfl #[.slice Am x8_1.length cm8, .slice (some ⟨gb, 0, none⟩) B5.length cb] rfl (by (try simp only [List.map_toArray, List.map_cons, List.map_nil]); first | done | rfl | (simp only [List.length_drop, List.length_take]; rfl)) ?_; (with_reducible refine (prop_Unit.calls k1 _ _ x8_1 _ _ B5 s205 s206 _ ?side1 ?side2 ?side3 ?side4 A8.out).mono ?_); (case side1 => repeat (first | exact (Kd.C_below HR3.out HB.out) | (with_reducible refine Kd.C_alloc ?_ _) | (with_reducible refine Kd.C_drewN ?_ _) | (with_reducible refine Kd.C_drew ?_))); (case side2 => exact HC3.out); (case side3 => repeat (first | exact (Kd.C_below HR4.out HB.out) | (with_reducible refine Kd.C_alloc ?_ _) | (with_reducible refine Kd.C_drewN ?_ _) | (with_reducible refine Kd.C_drew ?_))); (case side4 => exact HC4.out); rintro e w47 ⟨v207, rfl, ho0, hb⟩; refine ⟨_, rfl, ?_⟩; have n0_ := Aside0.mk (Kd.R_elder' (by (with_reducible repeat (first | apply Kd.R_alloc | apply Kd.R_drewN | apply Kd.R_drew)); exact HO204.out) (Kd.R_base ho0) hb); have n1_ := Aside0.mk (Kd.R_lower (Kd.R_new' ho0 (Kd.R_lt (by (with_reducible repeat (first | apply Kd.R_alloc | apply Kd.R_drewN | apply Kd.R_drew)); exact HO204.out))) (below_size (by repeat (first | (with_reducible first | exact HB.out | apply below_alloc | apply pw_below_drewN | apply below_drew1) | exact HB.out)))); have n2_ := Aside0.mk (below_step (by repeat (first | (with_reducible first | exact HB.out | apply below_alloc | apply pw_below_drewN | apply below_drew1) | exact HB.out)) hb); clear HO204; clear HB; have HO204 := n0_; have HO208 := n1_; have HB := n2_; clear n0_ n1_ n2_; (try clear hb); (try clear hb2); (try clear hk); (try clear hi); (try clear ho0); obtain ⟨Ao48, co48, eo48⟩ := Kd.R_slice HO208.out; subst eo48; have p209 : 0 ≤ (vv : Int) := of_decide_eq_true (by first | (with_reducible assumption) | assumption); have q209 : vv < (s205.length : Int) := of_decide_eq_true (by first | (with_reducible assumption) | assumption); obtain ⟨ad209, e209, hx209_0⟩ := Kd.at_int (Kd.R_reads' HO208.out).2.2 vv p209 q209; cases e209; replace p209 := eq_true p209; replace q209 := eq_true q209; have p16 : 0 ≤ (vv : Int) := of_decide_eq_true (by first | (with_reducible assumption) | assumption); have q16 : (vv : Int) < ((s205.length : Int) : Int) := of_decide_eq_true (by first | (with_reducible assumption) | assumption); obtain ⟨go16, co16, eo16, gb16, gl16, cl16, HG16⟩ := Kd.R_form HO208.out (by omega); (first | cases eo16 | (injection eo16 with ea_ en_ ec_; (first | subst ea_ | (injection ea_ with ea_; subst ea_)); subst ec_; clear en_)); have GB16 := Aside0.mk gb16; have GG16 := Aside0.mk HG16; clear gb16 gl16 HG16; (first | simp only [add_plain] at hx209_0 | skip); obtain ⟨hx16_0, hf16_0⟩ := Kd.R_celln 0 HO208.out (vv : Int) p16 q16; replace p16 := eq_true p16; replace q16 := eq_true q16; have n_ := Aside0.mk (Kd.R_mono (ok' := (fun k_ => some k_ ≠ (v203 : Value).ownBlock)) HO208.out (fun k_ hk => hk.2)); clear HO208; have HO208 := n_; clear n_; obtain ⟨hy49_, hz49_⟩ := Kd.R_celln 0 HO208.out (vv : Int) (of_decide_eq_true (by first | (with_reducible assumption) | assumption)) (of_decide_eq_true (by first | (with_reducible assumption) | assumption)); have HP49 := Kd.R_putg HO208.out (vv : Int) (IntKind.i8.wrap (-(rd s205 vv)))) | ((with_reducible refine gate_store (t := 30) (p := 130) rfl ?_); refine store_event (t := 30) (p := 130) (v := ?vo_w50) (w1 := (w47.setCell ⟨go16, (vv : Int).toNat, none⟩ (.int .i8 (IntKind.i8.wrap (-(rd s205 vv)))))) ?hg ?ho ?hn ?hr ?_; (case ho => rfl); (case hg => rfl); (case hn => rfl); (case hr => first | (go_simp; done) | (go_simp; rfl)); intro w50 hw; have hg : w47.grownBy w50 (some go16) := (by rw [hw]; exact HP49.2); have hp_ : Kd.R (Kd.int .i8) 30 w50 w3.heap.size (fun k_ => some k_ ≠ (v203 : Value).ownBlock) (.slice (some ⟨go16, 0, none⟩) s205.length co48) y210 := (by rw [hw, Ny210.out]; exact HP49.1); clear HP49; have n0_ := Aside0.mk (Kd.R_after (v := (.slice (some ⟨go16, 0, none⟩) s205.length co48)) (v1 := (.slice (some ⟨go16, 0, none⟩) s205.length co48)) (ok := (fun _ => True)) (by (with_reducible repeat (first | apply Kd.R_alloc | apply Kd.R_drewN | apply Kd.R_drew)); exact HO204.out) hg (.inl rfl)); have n1_ := Aside0.mk (hp_); have n2_ := Aside0.mk ((by rw [hw]; exact below_set (HB.out) GB16.out : Below w3.heap.size w3 w50)); clear HO204; clear HO208; clear HB; have HO204 := n0_; have HO208 := n1_; have HB := n2_; clear n0_ n1_ n2_; clear hg hw hp_))
                    go_ret
                    exact ⟨by first | rfl | (simp [errW_none, errW_some] <;> rfl) | (simp [*, errW_none, errW_some] <;> rfl), below_step HBA.out (by repeat (first | (with_reducible first | exact HB.out | apply below_alloc | apply pw_below_drewN | apply below_drew1) | exact HB.out))⟩
                · rw [if_neg c15] at H
                  exact absurd H (by simp)
              · rw [if_neg c14] at H
                exact absurd H (by simp)

end Go.Proofs.Ytbgjmeiphmfniaa.Q
