/- Texts of this seat, joined by a program of this session (wip/tools/pack.py). -/
import Derived.Test.YtmdjlhmifhnpdaaZb
namespace Go.Proofs.Ytmdjlhmifhnpdaa.SatW
set_option linter.unusedVariables false
set_option linter.unusedSimpArgs false
open Go.RowKit Go.Proofs.YtmdjlhmifhnpdaaW.PrintWords Go.Proofs.YtmdjlhmifhnpdaaW.PrintLast Go.Proofs.Ytmdjlhmifhnpdaa.B

set_option maxHeartbeats 16000000 in
set_option maxRecDepth 100000 in
theorem solve_calls (k : Nat) (A0 : Option Addr) (c0 : Nat) (l0 : List (List Int)) (a1 a2 : Int) (r1 : Int) (r2 : List Bool) (r3 : List (List Int)) (w : World) (hr0 : Kd.C (Kd.slice 3 (Kd.int .i64)) w A0 l0.length l0) (hs : solveF k l0 a1 a2 = some (r1, r2, r3)) :
  Calls Try.prog 14 #[.slice A0 l0.length c0, .int .i64 a1, .int .i64 a2] w fun e w' => ∃ v1_ v2_, e = .returned (.tuple #[.int .i64 r1, v1_, v2_]) ∧ Kd.R Kd.bool 4 w' w.heap.size (fun _ => True) v1_ r2 ∧ Kd.S (Kd.slice 3 (Kd.int .i64)) 32 w' w.heap.size (fun _ => True) v2_ r3 ∧ Below w.heap.size w w' := by
 unfold solveF at hs
 have RC := Aside0.mk (right_calls A0 c0 l0 a1 w hr0)
 cases hr : rightF l0 a1 with
 | false =>
  rw [hr, if_pos rfl] at hs
  rw [hr] at RC
  obtain ⟨rfl, rfl, rfl⟩ : (0 : Int) = r1 ∧ [] = r2 ∧ [] = r3 := by simpa using hs
  clear hs hr hr0
  go_enter Try.func14, Try.ntmps14
  go_wp2_with (first | (go_at_call 21; (with_reducible refine RC.out.mono ?_); rintro e w1 ⟨rfl, hb1⟩; have HB1 := Aside0.mk hb1; clear hb1))
  (try rw [Exit.noGoto_ret])
  go_ret3
  exact ⟨_, _, rfl, Kd.R_nil _ _ _ _ _, S_of_pool (lp := []) ⟨by rintro r hr; rw [List.mem_singleton.1 hr]; exact ⟨rfl, Or.inl ⟨rfl, rfl⟩⟩, by simp [lemRows]⟩, HB1.out⟩
 | true =>
  rw [hr, if_neg (by decide)] at hs
  rw [hr] at RC
  by_cases hl : l0.length < 1000000000
  ·rw [if_pos hl] at hs
   obtain ⟨hv0, hv1⟩ := rightF_bound hr
   obtain ⟨us, hh, hrr⟩ := heads_of_C hr0
   obtain ⟨us0, rfl, hh0⟩ := heads0_of hh
   have HH := Aside0.mk hh0
   have HRR := Aside0.mk hrr
   have HLL := Aside0.mk (show l0.length < 5864062014805 by omega)
   have hw : wrap64 (a1 + 1) = a1 + 1 := wrap64_small _ (by omega) (by omega)
   have hm38 := print_make_int (P := Try.prog) 35 38 (.int .i8 0) 1 Try.underlying35 info38 rfl (by decide) (wrap64 (a1 + 1)) (by omega) (by omega)
   have hm3 := print_make_int (P := Try.prog) 32 3 (.int .i64 0) 8 Try.underlying32 info3 rfl (by decide) (wrap64 (a1 + 1)) (by omega) (by omega)
   have hm44 := print_make_int (P := Try.prog) 43 44 (.float .f64 0) 8 Try.underlying43 info44 rfl (by decide) (wrap64 (a1 + 1)) (by omega) (by omega)
   have HN := Aside0.mk (show (wrap64 (a1 + 1)).toNat ≤ 1000000 by omega)
   rw [← hw] at hs
   generalize (wrap64 (a1 + 1)).toNat = nn at hs HN hm38 hm3 hm44
   have HS := Aside0.mk hs
   clear hs hr hr0 hh hh0 hrr hw
   go_enter Try.func14, Try.ntmps14
   go_wp2_with (first | (go_at_call 21; (with_reducible refine RC.out.mono ?_); rintro e wq ⟨rfl, hb1⟩; have HBq := Aside0.mk hb1; clear hb1))
   have HPq := Aside0.mk (show Pool wq.drew w.heap.size [] from ⟨by simp, by simp⟩)
   replace HBq := Aside0.mk (below_drew1 HBq.out)
   refine start_ (n := 17) (S := fun w' => True) (ds := [15]) #[false, false, false, false, false, false, false, false, false, false, false, false, false, false, false, false, false] (by kernel_rfl) rfl rfl trivial (fun hHeld => ?_)
   refine pure_ (i := 0) (N := some 18) (v := ?_) (a' := ?_) #[true, false, false, false, false, false, false, false, false, false, false, false, false, false, false, false, false] rfl rfl (by kernel_rfl) (fun _ _ _ h => h) (Or.inl ⟨by rfl, ?_⟩) ?_ ?_
   rotate_left
   ·intro w'
    go_simp
    with_reducible rfl
   rotate_left
   ·simp only [Act.put, List.setIfInBounds_toArray, List.set_cons_zero, List.set_cons_succ, i64_w, i32_w]
    rfl
   refine pure_ (i := 2) (N := some 20) (v := ?_) (a' := ?_) #[true, false, true, false, false, false, false, false, false, false, false, false, false, false, false, false, false] rfl rfl (by kernel_rfl) (fun _ _ _ h => h) (Or.inl ⟨by rfl, ?_⟩) ?_ ?_
   rotate_left
   ·intro w'
    go_simp
    with_reducible rfl
   rotate_left
   ·simp only [Act.put, List.setIfInBounds_toArray, List.set_cons_zero, List.set_cons_succ, i64_w, i32_w]
    rfl
   refine pure_ (i := 3) (N := some 21) (v := ?_) (a' := ?_) #[true, false, true, true, false, false, false, false, false, false, false, false, false, false, false, false, false] rfl rfl (by kernel_rfl) (fun _ _ _ h => h) (Or.inl ⟨by rfl, ?_⟩) ?_ ?_
   rotate_left
   ·intro w'
    go_simp
    with_reducible rfl
   rotate_left
   ·simp only [Act.put, List.setIfInBounds_toArray, List.set_cons_zero, List.set_cons_succ, i64_w, i32_w]
    rfl
   refine pure_ (i := 5) (N := some 23) (v := ?_) (a' := ?_) #[true, false, true, true, false, true, false, false, false, false, false, false, false, false, false, false, false] rfl rfl (by kernel_rfl) (fun _ _ _ h => h) (Or.inl ⟨by rfl, ?_⟩) ?_ ?_
   rotate_left
   ·intro w'
    go_simp
    with_reducible rfl
   rotate_left
   ·simp only [Act.put, List.setIfInBounds_toArray, List.set_cons_zero, List.set_cons_succ, i64_w, i32_w]
    rfl
   refine pure_ (i := 6) (N := some 24) (v := ?_) (a' := ?_) #[true, false, true, true, false, true, true, false, false, false, false, false, false, false, false, false, false] rfl rfl (by kernel_rfl) (fun _ _ _ h => h) (Or.inl ⟨by rfl, ?_⟩) ?_ ?_
   rotate_left
   ·intro w'
    go_simp
    with_reducible rfl
   rotate_left
   ·simp only [Act.put, List.setIfInBounds_toArray, List.set_cons_zero, List.set_cons_succ, i64_w, i32_w]
    rfl
   refine pure_ (i := 8) (N := some 26) (v := ?_) (a' := ?_) #[true, false, true, true, false, true, true, false, true, false, false, false, false, false, false, false, false] rfl rfl (by kernel_rfl) (fun _ _ _ h => h) (Or.inl ⟨by rfl, ?_⟩) ?_ ?_
   rotate_left
   ·intro w'
    go_simp
    with_reducible rfl
   rotate_left
   ·simp only [Act.put, List.setIfInBounds_toArray, List.set_cons_zero, List.set_cons_succ, i64_w, i32_w]
    rfl
   refine pure_ (i := 9) (N := some 27) (v := ?_) (a' := ?_) #[true, false, true, true, false, true, true, false, true, true, false, false, false, false, false, false, false] rfl rfl (by kernel_rfl) (fun _ _ _ h => h) (Or.inl ⟨by rfl, ?_⟩) ?_ ?_
   rotate_left
   ·intro w'
    go_simp
    with_reducible rfl
   rotate_left
   ·simp only [Act.put, List.setIfInBounds_toArray, List.set_cons_zero, List.set_cons_succ, i64_w, i32_w]
    rfl
   refine pure_ (i := 11) (N := some 29) (v := ?_) (a' := ?_) #[true, false, true, true, false, true, true, false, true, true, false, true, false, false, false, false, false] rfl rfl (by kernel_rfl) (fun _ _ _ h => h) (Or.inl ⟨by rfl, ?_⟩) ?_ ?_
   rotate_left
   ·intro w'
    go_simp
    with_reducible rfl
   rotate_left
   ·simp only [Act.put, List.setIfInBounds_toArray, List.set_cons_zero, List.set_cons_succ, i64_w, i32_w]
    rfl
   refine pure_ (i := 12) (N := some 30) (v := ?_) (a' := ?_) #[true, false, true, true, false, true, true, false, true, true, false, true, true, false, false, false, false] rfl rfl (by kernel_rfl) (fun _ _ _ h => h) (Or.inl ⟨by rfl, ?_⟩) ?_ ?_
   rotate_left
   ·intro w'
    go_simp
    with_reducible rfl
   rotate_left
   ·simp only [Act.put, List.setIfInBounds_toArray, List.set_cons_zero, List.set_cons_succ, i64_w, i32_w]
    rfl
   refine join_ (σ := (Option Addr × Nat) × Nat × Nat × Nat × Nat) 3 #[true, true, true, true, true, true, true, true, true, true, true, true, true, true, false, false, false] (fun s_ => [(19, .slice s_.1.1 l0.length s_.1.2), (22, .slice (some ⟨s_.2.1, 0, none⟩) nn nn), (25, .slice (some ⟨s_.2.2.1, 0, none⟩) nn nn), (28, .slice (some ⟨s_.2.2.2.1, 0, none⟩) nn nn), (31, .slice (some ⟨s_.2.2.2.2, 0, none⟩) nn nn)]) (fun s_ w' => Below w.heap.size w w' ∧ Pool w' w.heap.size [⟨32, .slice s_.1.1 l0.length s_.1.2, us0⟩, ⟨38, .slice (some ⟨s_.2.1, 0, none⟩) nn nn, i8s (List.replicate nn (0 : Int))⟩, ⟨3, .slice (some ⟨s_.2.2.1, 0, none⟩) nn nn, i64s (List.replicate nn (0 : Int))⟩, ⟨3, .slice (some ⟨s_.2.2.2.1, 0, none⟩) nn nn, i64s (List.replicate nn (0 : Int))⟩, ⟨44, .slice (some ⟨s_.2.2.2.2, 0, none⟩) nn nn, f64s (List.replicate nn (0 : Nat))⟩]) ?_ ?_
   rotate_left
   ·intro hJ1_4_7_10_13
    refine join_ (σ := (Option Addr × Nat) × Nat × Nat × Nat) 4 #[true, true, true, true, true, true, true, true, true, true, true, true, true, false, false, false, false] (fun s_ => [(19, .slice s_.1.1 l0.length s_.1.2), (22, .slice (some ⟨s_.2.1, 0, none⟩) nn nn), (25, .slice (some ⟨s_.2.2.1, 0, none⟩) nn nn), (28, .slice (some ⟨s_.2.2.2, 0, none⟩) nn nn)]) (fun s_ w' => Below w.heap.size w w' ∧ Pool w' w.heap.size [⟨32, .slice s_.1.1 l0.length s_.1.2, us0⟩, ⟨38, .slice (some ⟨s_.2.1, 0, none⟩) nn nn, i8s (List.replicate nn (0 : Int))⟩, ⟨3, .slice (some ⟨s_.2.2.1, 0, none⟩) nn nn, i64s (List.replicate nn (0 : Int))⟩, ⟨3, .slice (some ⟨s_.2.2.2, 0, none⟩) nn nn, i64s (List.replicate nn (0 : Int))⟩]) ?_ ?_
    rotate_left
    ·intro hJ1_4_7_10
     refine join_ (σ := (Option Addr × Nat) × Nat × Nat × Nat) 4 #[true, true, true, true, true, true, true, true, true, true, false, true, true, true, false, false, false] (fun s_ => [(19, .slice s_.1.1 l0.length s_.1.2), (22, .slice (some ⟨s_.2.1, 0, none⟩) nn nn), (25, .slice (some ⟨s_.2.2.1, 0, none⟩) nn nn), (31, .slice (some ⟨s_.2.2.2, 0, none⟩) nn nn)]) (fun s_ w' => Below w.heap.size w w' ∧ Pool w' w.heap.size [⟨32, .slice s_.1.1 l0.length s_.1.2, us0⟩, ⟨38, .slice (some ⟨s_.2.1, 0, none⟩) nn nn, i8s (List.replicate nn (0 : Int))⟩, ⟨3, .slice (some ⟨s_.2.2.1, 0, none⟩) nn nn, i64s (List.replicate nn (0 : Int))⟩, ⟨44, .slice (some ⟨s_.2.2.2, 0, none⟩) nn nn, f64s (List.replicate nn (0 : Nat))⟩]) ?_ ?_
     rotate_left
     ·intro hJ1_4_7_13
      refine join_ (σ := (Option Addr × Nat) × Nat × Nat × Nat) 4 #[true, true, true, true, true, true, true, false, true, true, true, true, true, true, false, false, false] (fun s_ => [(19, .slice s_.1.1 l0.length s_.1.2), (22, .slice (some ⟨s_.2.1, 0, none⟩) nn nn), (28, .slice (some ⟨s_.2.2.1, 0, none⟩) nn nn), (31, .slice (some ⟨s_.2.2.2, 0, none⟩) nn nn)]) (fun s_ w' => Below w.heap.size w w' ∧ Pool w' w.heap.size [⟨32, .slice s_.1.1 l0.length s_.1.2, us0⟩, ⟨38, .slice (some ⟨s_.2.1, 0, none⟩) nn nn, i8s (List.replicate nn (0 : Int))⟩, ⟨3, .slice (some ⟨s_.2.2.1, 0, none⟩) nn nn, i64s (List.replicate nn (0 : Int))⟩, ⟨44, .slice (some ⟨s_.2.2.2, 0, none⟩) nn nn, f64s (List.replicate nn (0 : Nat))⟩]) ?_ ?_
      rotate_left
      ·intro hJ1_4_10_13
       refine join_ (σ := (Option Addr × Nat) × Nat × Nat × Nat) 4 #[true, true, true, true, false, true, true, true, true, true, true, true, true, true, false, false, false] (fun s_ => [(19, .slice s_.1.1 l0.length s_.1.2), (25, .slice (some ⟨s_.2.1, 0, none⟩) nn nn), (28, .slice (some ⟨s_.2.2.1, 0, none⟩) nn nn), (31, .slice (some ⟨s_.2.2.2, 0, none⟩) nn nn)]) (fun s_ w' => Below w.heap.size w w' ∧ Pool w' w.heap.size [⟨32, .slice s_.1.1 l0.length s_.1.2, us0⟩, ⟨3, .slice (some ⟨s_.2.1, 0, none⟩) nn nn, i64s (List.replicate nn (0 : Int))⟩, ⟨3, .slice (some ⟨s_.2.2.1, 0, none⟩) nn nn, i64s (List.replicate nn (0 : Int))⟩, ⟨44, .slice (some ⟨s_.2.2.2, 0, none⟩) nn nn, f64s (List.replicate nn (0 : Nat))⟩]) ?_ ?_
       rotate_left
       ·intro hJ1_7_10_13
        refine join_ (σ := Nat × Nat × Nat × Nat) 4 #[true, false, true, true, true, true, true, true, true, true, true, true, true, true, false, false, false] (fun s_ => [(22, .slice (some ⟨s_.1, 0, none⟩) nn nn), (25, .slice (some ⟨s_.2.1, 0, none⟩) nn nn), (28, .slice (some ⟨s_.2.2.1, 0, none⟩) nn nn), (31, .slice (some ⟨s_.2.2.2, 0, none⟩) nn nn)]) (fun s_ w' => Below w.heap.size w w' ∧ Pool w' w.heap.size [⟨38, .slice (some ⟨s_.1, 0, none⟩) nn nn, i8s (List.replicate nn (0 : Int))⟩, ⟨3, .slice (some ⟨s_.2.1, 0, none⟩) nn nn, i64s (List.replicate nn (0 : Int))⟩, ⟨3, .slice (some ⟨s_.2.2.1, 0, none⟩) nn nn, i64s (List.replicate nn (0 : Int))⟩, ⟨44, .slice (some ⟨s_.2.2.2, 0, none⟩) nn nn, f64s (List.replicate nn (0 : Nat))⟩]) ?_ ?_
        rotate_left
        ·intro hJ4_7_10_13
         refine join_ (σ := (Option Addr × Nat) × Nat × Nat) 5 #[true, true, true, true, true, true, true, true, true, true, false, true, true, false, false, false, false] (fun s_ => [(19, .slice s_.1.1 l0.length s_.1.2), (22, .slice (some ⟨s_.2.1, 0, none⟩) nn nn), (25, .slice (some ⟨s_.2.2, 0, none⟩) nn nn)]) (fun s_ w' => Below w.heap.size w w' ∧ Pool w' w.heap.size [⟨32, .slice s_.1.1 l0.length s_.1.2, us0⟩, ⟨38, .slice (some ⟨s_.2.1, 0, none⟩) nn nn, i8s (List.replicate nn (0 : Int))⟩, ⟨3, .slice (some ⟨s_.2.2, 0, none⟩) nn nn, i64s (List.replicate nn (0 : Int))⟩]) ?_ ?_
         rotate_left
         ·intro hJ1_4_7
          refine join_ (σ := (Option Addr × Nat) × Nat × Nat) 5 #[true, true, true, true, true, true, true, false, true, true, true, true, true, false, false, false, false] (fun s_ => [(19, .slice s_.1.1 l0.length s_.1.2), (22, .slice (some ⟨s_.2.1, 0, none⟩) nn nn), (28, .slice (some ⟨s_.2.2, 0, none⟩) nn nn)]) (fun s_ w' => Below w.heap.size w w' ∧ Pool w' w.heap.size [⟨32, .slice s_.1.1 l0.length s_.1.2, us0⟩, ⟨38, .slice (some ⟨s_.2.1, 0, none⟩) nn nn, i8s (List.replicate nn (0 : Int))⟩, ⟨3, .slice (some ⟨s_.2.2, 0, none⟩) nn nn, i64s (List.replicate nn (0 : Int))⟩]) ?_ ?_
          rotate_left
          ·intro hJ1_4_10
           refine join_ (σ := (Option Addr × Nat) × Nat × Nat) 5 #[true, true, true, true, true, true, true, false, true, true, false, true, true, true, false, false, false] (fun s_ => [(19, .slice s_.1.1 l0.length s_.1.2), (22, .slice (some ⟨s_.2.1, 0, none⟩) nn nn), (31, .slice (some ⟨s_.2.2, 0, none⟩) nn nn)]) (fun s_ w' => Below w.heap.size w w' ∧ Pool w' w.heap.size [⟨32, .slice s_.1.1 l0.length s_.1.2, us0⟩, ⟨38, .slice (some ⟨s_.2.1, 0, none⟩) nn nn, i8s (List.replicate nn (0 : Int))⟩, ⟨44, .slice (some ⟨s_.2.2, 0, none⟩) nn nn, f64s (List.replicate nn (0 : Nat))⟩]) ?_ ?_
           rotate_left
           ·intro hJ1_4_13
            refine join_ (σ := (Option Addr × Nat) × Nat × Nat) 5 #[true, true, true, true, false, true, true, true, true, true, true, true, true, false, false, false, false] (fun s_ => [(19, .slice s_.1.1 l0.length s_.1.2), (25, .slice (some ⟨s_.2.1, 0, none⟩) nn nn), (28, .slice (some ⟨s_.2.2, 0, none⟩) nn nn)]) (fun s_ w' => Below w.heap.size w w' ∧ Pool w' w.heap.size [⟨32, .slice s_.1.1 l0.length s_.1.2, us0⟩, ⟨3, .slice (some ⟨s_.2.1, 0, none⟩) nn nn, i64s (List.replicate nn (0 : Int))⟩, ⟨3, .slice (some ⟨s_.2.2, 0, none⟩) nn nn, i64s (List.replicate nn (0 : Int))⟩]) ?_ ?_
            rotate_left
            ·intro hJ1_7_10
             refine join_ (σ := (Option Addr × Nat) × Nat × Nat) 5 #[true, true, true, true, false, true, true, true, true, true, false, true, true, true, false, false, false] (fun s_ => [(19, .slice s_.1.1 l0.length s_.1.2), (25, .slice (some ⟨s_.2.1, 0, none⟩) nn nn), (31, .slice (some ⟨s_.2.2, 0, none⟩) nn nn)]) (fun s_ w' => Below w.heap.size w w' ∧ Pool w' w.heap.size [⟨32, .slice s_.1.1 l0.length s_.1.2, us0⟩, ⟨3, .slice (some ⟨s_.2.1, 0, none⟩) nn nn, i64s (List.replicate nn (0 : Int))⟩, ⟨44, .slice (some ⟨s_.2.2, 0, none⟩) nn nn, f64s (List.replicate nn (0 : Nat))⟩]) ?_ ?_
             rotate_left
             ·intro hJ1_7_13
              refine join_ (σ := (Option Addr × Nat) × Nat × Nat) 5 #[true, true, true, true, false, true, true, false, true, true, true, true, true, true, false, false, false] (fun s_ => [(19, .slice s_.1.1 l0.length s_.1.2), (28, .slice (some ⟨s_.2.1, 0, none⟩) nn nn), (31, .slice (some ⟨s_.2.2, 0, none⟩) nn nn)]) (fun s_ w' => Below w.heap.size w w' ∧ Pool w' w.heap.size [⟨32, .slice s_.1.1 l0.length s_.1.2, us0⟩, ⟨3, .slice (some ⟨s_.2.1, 0, none⟩) nn nn, i64s (List.replicate nn (0 : Int))⟩, ⟨44, .slice (some ⟨s_.2.2, 0, none⟩) nn nn, f64s (List.replicate nn (0 : Nat))⟩]) ?_ ?_
              rotate_left
              ·intro hJ1_10_13
               refine join_ (σ := Nat × Nat × Nat) 5 #[true, false, true, true, true, true, true, true, true, true, true, true, true, false, false, false, false] (fun s_ => [(22, .slice (some ⟨s_.1, 0, none⟩) nn nn), (25, .slice (some ⟨s_.2.1, 0, none⟩) nn nn), (28, .slice (some ⟨s_.2.2, 0, none⟩) nn nn)]) (fun s_ w' => Below w.heap.size w w' ∧ Pool w' w.heap.size [⟨38, .slice (some ⟨s_.1, 0, none⟩) nn nn, i8s (List.replicate nn (0 : Int))⟩, ⟨3, .slice (some ⟨s_.2.1, 0, none⟩) nn nn, i64s (List.replicate nn (0 : Int))⟩, ⟨3, .slice (some ⟨s_.2.2, 0, none⟩) nn nn, i64s (List.replicate nn (0 : Int))⟩]) ?_ ?_
               rotate_left
               ·intro hJ4_7_10
                refine join_ (σ := Nat × Nat × Nat) 5 #[true, false, true, true, true, true, true, true, true, true, false, true, true, true, false, false, false] (fun s_ => [(22, .slice (some ⟨s_.1, 0, none⟩) nn nn), (25, .slice (some ⟨s_.2.1, 0, none⟩) nn nn), (31, .slice (some ⟨s_.2.2, 0, none⟩) nn nn)]) (fun s_ w' => Below w.heap.size w w' ∧ Pool w' w.heap.size [⟨38, .slice (some ⟨s_.1, 0, none⟩) nn nn, i8s (List.replicate nn (0 : Int))⟩, ⟨3, .slice (some ⟨s_.2.1, 0, none⟩) nn nn, i64s (List.replicate nn (0 : Int))⟩, ⟨44, .slice (some ⟨s_.2.2, 0, none⟩) nn nn, f64s (List.replicate nn (0 : Nat))⟩]) ?_ ?_
                rotate_left
                ·intro hJ4_7_13
                 refine join_ (σ := Nat × Nat × Nat) 5 #[true, false, true, true, true, true, true, false, true, true, true, true, true, true, false, false, false] (fun s_ => [(22, .slice (some ⟨s_.1, 0, none⟩) nn nn), (28, .slice (some ⟨s_.2.1, 0, none⟩) nn nn), (31, .slice (some ⟨s_.2.2, 0, none⟩) nn nn)]) (fun s_ w' => Below w.heap.size w w' ∧ Pool w' w.heap.size [⟨38, .slice (some ⟨s_.1, 0, none⟩) nn nn, i8s (List.replicate nn (0 : Int))⟩, ⟨3, .slice (some ⟨s_.2.1, 0, none⟩) nn nn, i64s (List.replicate nn (0 : Int))⟩, ⟨44, .slice (some ⟨s_.2.2, 0, none⟩) nn nn, f64s (List.replicate nn (0 : Nat))⟩]) ?_ ?_
                 rotate_left
                 ·intro hJ4_10_13
                  refine join_ (σ := Nat × Nat × Nat) 5 #[true, false, true, true, false, true, true, true, true, true, true, true, true, true, false, false, false] (fun s_ => [(25, .slice (some ⟨s_.1, 0, none⟩) nn nn), (28, .slice (some ⟨s_.2.1, 0, none⟩) nn nn), (31, .slice (some ⟨s_.2.2, 0, none⟩) nn nn)]) (fun s_ w' => Below w.heap.size w w' ∧ Pool w' w.heap.size [⟨3, .slice (some ⟨s_.1, 0, none⟩) nn nn, i64s (List.replicate nn (0 : Int))⟩, ⟨3, .slice (some ⟨s_.2.1, 0, none⟩) nn nn, i64s (List.replicate nn (0 : Int))⟩, ⟨44, .slice (some ⟨s_.2.2, 0, none⟩) nn nn, f64s (List.replicate nn (0 : Nat))⟩]) ?_ ?_
                  rotate_left
                  ·intro hJ7_10_13
                   refine join_ (σ := (Option Addr × Nat) × Nat) 6 #[true, true, true, true, true, true, true, false, true, true, false, true, true, false, false, false, false] (fun s_ => [(19, .slice s_.1.1 l0.length s_.1.2), (22, .slice (some ⟨s_.2, 0, none⟩) nn nn)]) (fun s_ w' => Below w.heap.size w w' ∧ Pool w' w.heap.size [⟨32, .slice s_.1.1 l0.length s_.1.2, us0⟩, ⟨38, .slice (some ⟨s_.2, 0, none⟩) nn nn, i8s (List.replicate nn (0 : Int))⟩]) ?_ ?_
                   rotate_left
                   ·intro hJ1_4
                    refine join_ (σ := (Option Addr × Nat) × Nat) 6 #[true, true, true, true, false, true, true, true, true, true, false, true, true, false, false, false, false] (fun s_ => [(19, .slice s_.1.1 l0.length s_.1.2), (25, .slice (some ⟨s_.2, 0, none⟩) nn nn)]) (fun s_ w' => Below w.heap.size w w' ∧ Pool w' w.heap.size [⟨32, .slice s_.1.1 l0.length s_.1.2, us0⟩, ⟨3, .slice (some ⟨s_.2, 0, none⟩) nn nn, i64s (List.replicate nn (0 : Int))⟩]) ?_ ?_
                    rotate_left
                    ·intro hJ1_7
                     refine join_ (σ := (Option Addr × Nat) × Nat) 6 #[true, true, true, true, false, true, true, false, true, true, true, true, true, false, false, false, false] (fun s_ => [(19, .slice s_.1.1 l0.length s_.1.2), (28, .slice (some ⟨s_.2, 0, none⟩) nn nn)]) (fun s_ w' => Below w.heap.size w w' ∧ Pool w' w.heap.size [⟨32, .slice s_.1.1 l0.length s_.1.2, us0⟩, ⟨3, .slice (some ⟨s_.2, 0, none⟩) nn nn, i64s (List.replicate nn (0 : Int))⟩]) ?_ ?_
                     rotate_left
                     ·intro hJ1_10
                      refine join_ (σ := (Option Addr × Nat) × Nat) 6 #[true, true, true, true, false, true, true, false, true, true, false, true, true, true, false, false, false] (fun s_ => [(19, .slice s_.1.1 l0.length s_.1.2), (31, .slice (some ⟨s_.2, 0, none⟩) nn nn)]) (fun s_ w' => Below w.heap.size w w' ∧ Pool w' w.heap.size [⟨32, .slice s_.1.1 l0.length s_.1.2, us0⟩, ⟨44, .slice (some ⟨s_.2, 0, none⟩) nn nn, f64s (List.replicate nn (0 : Nat))⟩]) ?_ ?_
                      rotate_left
                      ·intro hJ1_13
                       refine join_ (σ := Nat × Nat) 6 #[true, false, true, true, true, true, true, true, true, true, false, true, true, false, false, false, false] (fun s_ => [(22, .slice (some ⟨s_.1, 0, none⟩) nn nn), (25, .slice (some ⟨s_.2, 0, none⟩) nn nn)]) (fun s_ w' => Below w.heap.size w w' ∧ Pool w' w.heap.size [⟨38, .slice (some ⟨s_.1, 0, none⟩) nn nn, i8s (List.replicate nn (0 : Int))⟩, ⟨3, .slice (some ⟨s_.2, 0, none⟩) nn nn, i64s (List.replicate nn (0 : Int))⟩]) ?_ ?_
                       rotate_left
                       ·intro hJ4_7
                        refine join_ (σ := Nat × Nat) 6 #[true, false, true, true, true, true, true, false, true, true, true, true, true, false, false, false, false] (fun s_ => [(22, .slice (some ⟨s_.1, 0, none⟩) nn nn), (28, .slice (some ⟨s_.2, 0, none⟩) nn nn)]) (fun s_ w' => Below w.heap.size w w' ∧ Pool w' w.heap.size [⟨38, .slice (some ⟨s_.1, 0, none⟩) nn nn, i8s (List.replicate nn (0 : Int))⟩, ⟨3, .slice (some ⟨s_.2, 0, none⟩) nn nn, i64s (List.replicate nn (0 : Int))⟩]) ?_ ?_
                        rotate_left
                        ·intro hJ4_10
                         refine join_ (σ := Nat × Nat) 6 #[true, false, true, true, true, true, true, false, true, true, false, true, true, true, false, false, false] (fun s_ => [(22, .slice (some ⟨s_.1, 0, none⟩) nn nn), (31, .slice (some ⟨s_.2, 0, none⟩) nn nn)]) (fun s_ w' => Below w.heap.size w w' ∧ Pool w' w.heap.size [⟨38, .slice (some ⟨s_.1, 0, none⟩) nn nn, i8s (List.replicate nn (0 : Int))⟩, ⟨44, .slice (some ⟨s_.2, 0, none⟩) nn nn, f64s (List.replicate nn (0 : Nat))⟩]) ?_ ?_
                         rotate_left
                         ·intro hJ4_13
                          refine join_ (σ := Nat × Nat) 6 #[true, false, true, true, false, true, true, true, true, true, true, true, true, false, false, false, false] (fun s_ => [(25, .slice (some ⟨s_.1, 0, none⟩) nn nn), (28, .slice (some ⟨s_.2, 0, none⟩) nn nn)]) (fun s_ w' => Below w.heap.size w w' ∧ Pool w' w.heap.size [⟨3, .slice (some ⟨s_.1, 0, none⟩) nn nn, i64s (List.replicate nn (0 : Int))⟩, ⟨3, .slice (some ⟨s_.2, 0, none⟩) nn nn, i64s (List.replicate nn (0 : Int))⟩]) ?_ ?_
                          rotate_left
                          ·intro hJ7_10
                           refine join_ (σ := Nat × Nat) 6 #[true, false, true, true, false, true, true, true, true, true, false, true, true, true, false, false, false] (fun s_ => [(25, .slice (some ⟨s_.1, 0, none⟩) nn nn), (31, .slice (some ⟨s_.2, 0, none⟩) nn nn)]) (fun s_ w' => Below w.heap.size w w' ∧ Pool w' w.heap.size [⟨3, .slice (some ⟨s_.1, 0, none⟩) nn nn, i64s (List.replicate nn (0 : Int))⟩, ⟨44, .slice (some ⟨s_.2, 0, none⟩) nn nn, f64s (List.replicate nn (0 : Nat))⟩]) ?_ ?_
                           rotate_left
                           ·intro hJ7_13
                            refine join_ (σ := Nat × Nat) 6 #[true, false, true, true, false, true, true, false, true, true, true, true, true, true, false, false, false] (fun s_ => [(28, .slice (some ⟨s_.1, 0, none⟩) nn nn), (31, .slice (some ⟨s_.2, 0, none⟩) nn nn)]) (fun s_ w' => Below w.heap.size w w' ∧ Pool w' w.heap.size [⟨3, .slice (some ⟨s_.1, 0, none⟩) nn nn, i64s (List.replicate nn (0 : Int))⟩, ⟨44, .slice (some ⟨s_.2, 0, none⟩) nn nn, f64s (List.replicate nn (0 : Nat))⟩]) ?_ ?_
                            rotate_left
                            ·intro hJ10_13
                             refine join_ (σ := (Option Addr × Nat)) 7 #[true, true, true, true, false, true, true, false, true, true, false, true, true, false, false, false, false] (fun s_ => [(19, .slice s_.1 l0.length s_.2)]) (fun s_ w' => Below w.heap.size w w' ∧ Pool w' w.heap.size [⟨32, .slice s_.1 l0.length s_.2, us0⟩]) ?_ ?_
                             rotate_left
                             ·intro hJ1
                              refine join_ (σ := Nat) 7 #[true, false, true, true, true, true, true, false, true, true, false, true, true, false, false, false, false] (fun s_ => [(22, .slice (some ⟨s_, 0, none⟩) nn nn)]) (fun s_ w' => Below w.heap.size w w' ∧ Pool w' w.heap.size [⟨38, .slice (some ⟨s_, 0, none⟩) nn nn, i8s (List.replicate nn (0 : Int))⟩]) ?_ ?_
                              rotate_left
                              ·intro hJ4
                               refine join_ (σ := Nat) 7 #[true, false, true, true, false, true, true, true, true, true, false, true, true, false, false, false, false] (fun s_ => [(25, .slice (some ⟨s_, 0, none⟩) nn nn)]) (fun s_ w' => Below w.heap.size w w' ∧ Pool w' w.heap.size [⟨3, .slice (some ⟨s_, 0, none⟩) nn nn, i64s (List.replicate nn (0 : Int))⟩]) ?_ ?_
                               rotate_left
                               ·intro hJ7
                                refine join_ (σ := Nat) 7 #[true, false, true, true, false, true, true, false, true, true, true, true, true, false, false, false, false] (fun s_ => [(28, .slice (some ⟨s_, 0, none⟩) nn nn)]) (fun s_ w' => Below w.heap.size w w' ∧ Pool w' w.heap.size [⟨3, .slice (some ⟨s_, 0, none⟩) nn nn, i64s (List.replicate nn (0 : Int))⟩]) ?_ ?_
                                rotate_left
                                ·intro hJ10
                                 refine join_ (σ := Nat) 7 #[true, false, true, true, false, true, true, false, true, true, false, true, true, true, false, false, false] (fun s_ => [(31, .slice (some ⟨s_, 0, none⟩) nn nn)]) (fun s_ w' => Below w.heap.size w w' ∧ Pool w' w.heap.size [⟨44, .slice (some ⟨s_, 0, none⟩) nn nn, f64s (List.replicate nn (0 : Nat))⟩]) ?_ ?_
                                 rotate_left
                                 ·intro hJ13
                                  refine five_ (i := 1) (j := 4) (k := 7) (m := 10) (n := 13) (Ni := some 19) (Nj := some 22) (Nk := some 25) (Nm := some 28) (Nn := some 31) #[true, true, true, true, false, true, true, false, true, true, false, true, true, false, false, false, false] #[true, false, true, true, true, true, true, false, true, true, false, true, true, false, false, false, false] #[true, false, true, true, false, true, true, true, true, true, false, true, true, false, false, false, false] #[true, false, true, true, false, true, true, false, true, true, true, true, true, false, false, false, false] #[true, false, true, true, false, true, true, false, true, true, false, true, true, true, false, false, false] rfl rfl rfl rfl rfl rfl rfl rfl rfl rfl (by kernel_rfl) (by decide) (by decide) (by decide) (by decide) (by decide) (fun K hK => ?_) (fun K hK => ?_) (fun K hK => ?_) (fun K hK => ?_) (fun K hK => ?_)
                                  ·skip
                                   refine goes_ Try.func22 (by kernel_rfl) rfl #[.slice A0 l0.length c0] (by rfl) rfl rfl (by simp only [List.map_toArray, List.map_cons, List.map_nil]; rfl) ?_
                                   with_reducible refine (clone22r A0 c0 l0.length us0 _ (rawread_below HRR.out HBq.out) HLL.out).mono ?_
                                   rintro e w3 ⟨A1, c1, rfl, ho1, hb1⟩
                                   refine ⟨_, rfl, ?_⟩
                                   refine hK.out _ _ trivial (fun hHeld => ?_)
                                   clear hK K
                                   refine norm_ (a' := ?_) ?_ ?_
                                   rotate_left
                                   ·show Act.put _ (some 19) _ = _
                                    simp only [Act.put, List.setIfInBounds_toArray, List.set_cons_zero, List.set_cons_succ, i64_w, i32_w]
                                    rfl
                                   exact norm_ (by first | (simp only [putAll, Act.put, List.setIfInBounds_toArray, List.set_cons_zero, List.set_cons_succ]; done) | (simp only [putAll, Act.put, List.setIfInBounds_toArray, List.set_cons_zero, List.set_cons_succ]; rfl)) (hJ1 (A1, c1) _ ⟨below_step HBq.out hb1, pool_new [] [] HPq.out hb1 HBq.out.size ho1⟩)
                                  ·skip
                                   refine value_ (w1 := ?_) (v := ?_) (by rfl) rfl ?_ ?_
                                   rotate_left 2
                                   ·go_simp
                                    constructor
                                    ·rfl
                                    ·rfl
                                   refine hK.out _ _ trivial (fun hHeld => ?_)
                                   clear hK K
                                   refine norm_ (a' := ?_) ?_ ?_
                                   rotate_left
                                   ·show Act.put _ (some 22) _ = _
                                    simp only [Act.put, List.setIfInBounds_toArray, List.set_cons_zero, List.set_cons_succ, i64_w, i32_w]
                                    rfl
                                   exact norm_ (by first | (simp only [putAll, Act.put, List.setIfInBounds_toArray, List.set_cons_zero, List.set_cons_succ]; done) | (simp only [putAll, Act.put, List.setIfInBounds_toArray, List.set_cons_zero, List.set_cons_succ]; rfl)) (hJ4 (wq.drew.heap.size) _ ⟨below_alloc HBq.out _, pool_made (enc := Value.int .i8) (d := (0 : Int)) [] [] 38 (nn) HPq.out HBq.out.size HN.out⟩)
                                  ·skip
                                   refine value_ (w1 := ?_) (v := ?_) (by rfl) rfl ?_ ?_
                                   rotate_left 2
                                   ·go_simp
                                    constructor
                                    ·rfl
                                    ·rfl
                                   refine hK.out _ _ trivial (fun hHeld => ?_)
                                   clear hK K
                                   refine norm_ (a' := ?_) ?_ ?_
                                   rotate_left
                                   ·show Act.put _ (some 25) _ = _
                                    simp only [Act.put, List.setIfInBounds_toArray, List.set_cons_zero, List.set_cons_succ, i64_w, i32_w]
                                    rfl
                                   exact norm_ (by first | (simp only [putAll, Act.put, List.setIfInBounds_toArray, List.set_cons_zero, List.set_cons_succ]; done) | (simp only [putAll, Act.put, List.setIfInBounds_toArray, List.set_cons_zero, List.set_cons_succ]; rfl)) (hJ7 (wq.drew.heap.size) _ ⟨below_alloc HBq.out _, pool_made (enc := Value.int .i64) (d := (0 : Int)) [] [] 3 (nn) HPq.out HBq.out.size HN.out⟩)
                                  ·skip
                                   refine value_ (w1 := ?_) (v := ?_) (by rfl) rfl ?_ ?_
                                   rotate_left 2
                                   ·go_simp
                                    constructor
                                    ·rfl
                                    ·rfl
                                   refine hK.out _ _ trivial (fun hHeld => ?_)
                                   clear hK K
                                   refine norm_ (a' := ?_) ?_ ?_
                                   rotate_left
                                   ·show Act.put _ (some 28) _ = _
                                    simp only [Act.put, List.setIfInBounds_toArray, List.set_cons_zero, List.set_cons_succ, i64_w, i32_w]
                                    rfl
                                   exact norm_ (by first | (simp only [putAll, Act.put, List.setIfInBounds_toArray, List.set_cons_zero, List.set_cons_succ]; done) | (simp only [putAll, Act.put, List.setIfInBounds_toArray, List.set_cons_zero, List.set_cons_succ]; rfl)) (hJ10 (wq.drew.heap.size) _ ⟨below_alloc HBq.out _, pool_made (enc := Value.int .i64) (d := (0 : Int)) [] [] 3 (nn) HPq.out HBq.out.size HN.out⟩)
                                  ·skip
                                   refine value_ (w1 := ?_) (v := ?_) (by rfl) rfl ?_ ?_
                                   rotate_left 2
                                   ·go_simp
                                    constructor
                                    ·rfl
                                    ·rfl
                                   refine hK.out _ _ trivial (fun hHeld => ?_)
                                   clear hK K
                                   refine norm_ (a' := ?_) ?_ ?_
                                   rotate_left
                                   ·show Act.put _ (some 31) _ = _
                                    simp only [Act.put, List.setIfInBounds_toArray, List.set_cons_zero, List.set_cons_succ, i64_w, i32_w]
                                    rfl
                                   exact norm_ (by first | (simp only [putAll, Act.put, List.setIfInBounds_toArray, List.set_cons_zero, List.set_cons_succ]; done) | (simp only [putAll, Act.put, List.setIfInBounds_toArray, List.set_cons_zero, List.set_cons_succ]; rfl)) (hJ13 (wq.drew.heap.size) _ ⟨below_alloc HBq.out _, pool_made (enc := Value.float .f64) (d := (0 : Nat)) [] [] 44 (nn) HPq.out HBq.out.size HN.out⟩)
                                 ·skip
                                  rintro g13 wq ⟨hB_, hP_⟩
                                  have HBq := Aside0.mk hB_
                                  have HPq := Aside0.mk hP_
                                  clear hB_ hP_
                                  have hHeld := trivial
                                  refine norm_ (a' := ?_) ?_ ?_
                                  rotate_left
                                  ·simp only [putAll, Act.put, List.setIfInBounds_toArray, List.set_cons_zero, List.set_cons_succ]
                                   rfl
                                  refine four_ (i := 1) (j := 4) (k := 7) (m := 10) (Ni := some 19) (Nj := some 22) (Nk := some 25) (Nm := some 28) #[true, true, true, true, false, true, true, false, true, true, false, true, true, true, false, false, false] #[true, false, true, true, true, true, true, false, true, true, false, true, true, true, false, false, false] #[true, false, true, true, false, true, true, true, true, true, false, true, true, true, false, false, false] #[true, false, true, true, false, true, true, false, true, true, true, true, true, true, false, false, false] rfl rfl rfl rfl rfl rfl rfl rfl (by kernel_rfl) (by decide) (by decide) (by decide) (by decide) (fun K hK => ?_) (fun K hK => ?_) (fun K hK => ?_) (fun K hK => ?_)
                                  ·skip
                                   refine goes_ Try.func22 (by kernel_rfl) rfl #[.slice A0 l0.length c0] (by rfl) rfl rfl (by simp only [List.map_toArray, List.map_cons, List.map_nil]; rfl) ?_
                                   with_reducible refine (clone22r A0 c0 l0.length us0 _ (rawread_below HRR.out HBq.out) HLL.out).mono ?_
                                   rintro e w3 ⟨A1, c1, rfl, ho1, hb1⟩
                                   refine ⟨_, rfl, ?_⟩
                                   refine hK.out _ _ trivial (fun hHeld => ?_)
                                   clear hK K
                                   refine norm_ (a' := ?_) ?_ ?_
                                   rotate_left
                                   ·show Act.put _ (some 19) _ = _
                                    simp only [Act.put, List.setIfInBounds_toArray, List.set_cons_zero, List.set_cons_succ, i64_w, i32_w]
                                    rfl
                                   exact norm_ (by first | (simp only [putAll, Act.put, List.setIfInBounds_toArray, List.set_cons_zero, List.set_cons_succ]; done) | (simp only [putAll, Act.put, List.setIfInBounds_toArray, List.set_cons_zero, List.set_cons_succ]; rfl)) (hJ1_13 ((A1, c1), g13) _ ⟨below_step HBq.out hb1, pool_new [] [⟨44, .slice (some ⟨g13, 0, none⟩) nn nn, f64s (List.replicate nn (0 : Nat))⟩] HPq.out hb1 HBq.out.size ho1⟩)
                                  ·skip
                                   refine value_ (w1 := ?_) (v := ?_) (by rfl) rfl ?_ ?_
                                   rotate_left 2
                                   ·go_simp
                                    constructor
                                    ·rfl
                                    ·rfl
                                   refine hK.out _ _ trivial (fun hHeld => ?_)
                                   clear hK K
                                   refine norm_ (a' := ?_) ?_ ?_
                                   rotate_left
                                   ·show Act.put _ (some 22) _ = _
                                    simp only [Act.put, List.setIfInBounds_toArray, List.set_cons_zero, List.set_cons_succ, i64_w, i32_w]
                                    rfl
                                   exact norm_ (by first | (simp only [putAll, Act.put, List.setIfInBounds_toArray, List.set_cons_zero, List.set_cons_succ]; done) | (simp only [putAll, Act.put, List.setIfInBounds_toArray, List.set_cons_zero, List.set_cons_succ]; rfl)) (hJ4_13 (wq.heap.size, g13) _ ⟨below_alloc HBq.out _, pool_made (enc := Value.int .i8) (d := (0 : Int)) [] [⟨44, .slice (some ⟨g13, 0, none⟩) nn nn, f64s (List.replicate nn (0 : Nat))⟩] 38 (nn) HPq.out HBq.out.size HN.out⟩)
                                  ·skip
                                   refine value_ (w1 := ?_) (v := ?_) (by rfl) rfl ?_ ?_
                                   rotate_left 2
                                   ·go_simp
                                    constructor
                                    ·rfl
                                    ·rfl
                                   refine hK.out _ _ trivial (fun hHeld => ?_)
                                   clear hK K
                                   refine norm_ (a' := ?_) ?_ ?_
                                   rotate_left
                                   ·show Act.put _ (some 25) _ = _
                                    simp only [Act.put, List.setIfInBounds_toArray, List.set_cons_zero, List.set_cons_succ, i64_w, i32_w]
                                    rfl
                                   exact norm_ (by first | (simp only [putAll, Act.put, List.setIfInBounds_toArray, List.set_cons_zero, List.set_cons_succ]; done) | (simp only [putAll, Act.put, List.setIfInBounds_toArray, List.set_cons_zero, List.set_cons_succ]; rfl)) (hJ7_13 (wq.heap.size, g13) _ ⟨below_alloc HBq.out _, pool_made (enc := Value.int .i64) (d := (0 : Int)) [] [⟨44, .slice (some ⟨g13, 0, none⟩) nn nn, f64s (List.replicate nn (0 : Nat))⟩] 3 (nn) HPq.out HBq.out.size HN.out⟩)
                                  ·skip
                                   refine value_ (w1 := ?_) (v := ?_) (by rfl) rfl ?_ ?_
                                   rotate_left 2
                                   ·go_simp
                                    constructor
                                    ·rfl
                                    ·rfl
                                   refine hK.out _ _ trivial (fun hHeld => ?_)
                                   clear hK K
                                   refine norm_ (a' := ?_) ?_ ?_
                                   rotate_left
                                   ·show Act.put _ (some 28) _ = _
                                    simp only [Act.put, List.setIfInBounds_toArray, List.set_cons_zero, List.set_cons_succ, i64_w, i32_w]
                                    rfl
                                   exact norm_ (by first | (simp only [putAll, Act.put, List.setIfInBounds_toArray, List.set_cons_zero, List.set_cons_succ]; done) | (simp only [putAll, Act.put, List.setIfInBounds_toArray, List.set_cons_zero, List.set_cons_succ]; rfl)) (hJ10_13 (wq.heap.size, g13) _ ⟨below_alloc HBq.out _, pool_made (enc := Value.int .i64) (d := (0 : Int)) [] [⟨44, .slice (some ⟨g13, 0, none⟩) nn nn, f64s (List.replicate nn (0 : Nat))⟩] 3 (nn) HPq.out HBq.out.size HN.out⟩)
                                ·skip
                                 rintro g10 wq ⟨hB_, hP_⟩
                                 have HBq := Aside0.mk hB_
                                 have HPq := Aside0.mk hP_
                                 clear hB_ hP_
                                 have hHeld := trivial
                                 refine norm_ (a' := ?_) ?_ ?_
                                 rotate_left
                                 ·simp only [putAll, Act.put, List.setIfInBounds_toArray, List.set_cons_zero, List.set_cons_succ]
                                  rfl
                                 refine four_ (i := 1) (j := 4) (k := 7) (m := 13) (Ni := some 19) (Nj := some 22) (Nk := some 25) (Nm := some 31) #[true, true, true, true, false, true, true, false, true, true, true, true, true, false, false, false, false] #[true, false, true, true, true, true, true, false, true, true, true, true, true, false, false, false, false] #[true, false, true, true, false, true, true, true, true, true, true, true, true, false, false, false, false] #[true, false, true, true, false, true, true, false, true, true, true, true, true, true, false, false, false] rfl rfl rfl rfl rfl rfl rfl rfl (by kernel_rfl) (by decide) (by decide) (by decide) (by decide) (fun K hK => ?_) (fun K hK => ?_) (fun K hK => ?_) (fun K hK => ?_)
                                 ·skip
                                  refine goes_ Try.func22 (by kernel_rfl) rfl #[.slice A0 l0.length c0] (by rfl) rfl rfl (by simp only [List.map_toArray, List.map_cons, List.map_nil]; rfl) ?_
                                  with_reducible refine (clone22r A0 c0 l0.length us0 _ (rawread_below HRR.out HBq.out) HLL.out).mono ?_
                                  rintro e w3 ⟨A1, c1, rfl, ho1, hb1⟩
                                  refine ⟨_, rfl, ?_⟩
                                  refine hK.out _ _ trivial (fun hHeld => ?_)
                                  clear hK K
                                  refine norm_ (a' := ?_) ?_ ?_
                                  rotate_left
                                  ·show Act.put _ (some 19) _ = _
                                   simp only [Act.put, List.setIfInBounds_toArray, List.set_cons_zero, List.set_cons_succ, i64_w, i32_w]
                                   rfl
                                  exact norm_ (by first | (simp only [putAll, Act.put, List.setIfInBounds_toArray, List.set_cons_zero, List.set_cons_succ]; done) | (simp only [putAll, Act.put, List.setIfInBounds_toArray, List.set_cons_zero, List.set_cons_succ]; rfl)) (hJ1_10 ((A1, c1), g10) _ ⟨below_step HBq.out hb1, pool_new [] [⟨3, .slice (some ⟨g10, 0, none⟩) nn nn, i64s (List.replicate nn (0 : Int))⟩] HPq.out hb1 HBq.out.size ho1⟩)
                                 ·skip
                                  refine value_ (w1 := ?_) (v := ?_) (by rfl) rfl ?_ ?_
                                  rotate_left 2
                                  ·go_simp
                                   constructor
                                   ·rfl
                                   ·rfl
                                  refine hK.out _ _ trivial (fun hHeld => ?_)
                                  clear hK K
                                  refine norm_ (a' := ?_) ?_ ?_
                                  rotate_left
                                  ·show Act.put _ (some 22) _ = _
                                   simp only [Act.put, List.setIfInBounds_toArray, List.set_cons_zero, List.set_cons_succ, i64_w, i32_w]
                                   rfl
                                  exact norm_ (by first | (simp only [putAll, Act.put, List.setIfInBounds_toArray, List.set_cons_zero, List.set_cons_succ]; done) | (simp only [putAll, Act.put, List.setIfInBounds_toArray, List.set_cons_zero, List.set_cons_succ]; rfl)) (hJ4_10 (wq.heap.size, g10) _ ⟨below_alloc HBq.out _, pool_made (enc := Value.int .i8) (d := (0 : Int)) [] [⟨3, .slice (some ⟨g10, 0, none⟩) nn nn, i64s (List.replicate nn (0 : Int))⟩] 38 (nn) HPq.out HBq.out.size HN.out⟩)
                                 ·skip
                                  refine value_ (w1 := ?_) (v := ?_) (by rfl) rfl ?_ ?_
                                  rotate_left 2
                                  ·go_simp
                                   constructor
                                   ·rfl
                                   ·rfl
                                  refine hK.out _ _ trivial (fun hHeld => ?_)
                                  clear hK K
                                  refine norm_ (a' := ?_) ?_ ?_
                                  rotate_left
                                  ·show Act.put _ (some 25) _ = _
                                   simp only [Act.put, List.setIfInBounds_toArray, List.set_cons_zero, List.set_cons_succ, i64_w, i32_w]
                                   rfl
                                  exact norm_ (by first | (simp only [putAll, Act.put, List.setIfInBounds_toArray, List.set_cons_zero, List.set_cons_succ]; done) | (simp only [putAll, Act.put, List.setIfInBounds_toArray, List.set_cons_zero, List.set_cons_succ]; rfl)) (hJ7_10 (wq.heap.size, g10) _ ⟨below_alloc HBq.out _, pool_made (enc := Value.int .i64) (d := (0 : Int)) [] [⟨3, .slice (some ⟨g10, 0, none⟩) nn nn, i64s (List.replicate nn (0 : Int))⟩] 3 (nn) HPq.out HBq.out.size HN.out⟩)
                                 ·skip
                                  refine value_ (w1 := ?_) (v := ?_) (by rfl) rfl ?_ ?_
                                  rotate_left 2
                                  ·go_simp
                                   constructor
                                   ·rfl
                                   ·rfl
                                  refine hK.out _ _ trivial (fun hHeld => ?_)
                                  clear hK K
                                  refine norm_ (a' := ?_) ?_ ?_
                                  rotate_left
                                  ·show Act.put _ (some 31) _ = _
                                   simp only [Act.put, List.setIfInBounds_toArray, List.set_cons_zero, List.set_cons_succ, i64_w, i32_w]
                                   rfl
                                  exact norm_ (by first | (simp only [putAll, Act.put, List.setIfInBounds_toArray, List.set_cons_zero, List.set_cons_succ]; done) | (simp only [putAll, Act.put, List.setIfInBounds_toArray, List.set_cons_zero, List.set_cons_succ]; rfl)) (hJ10_13 (g10, wq.heap.size) _ ⟨below_alloc HBq.out _, pool_made (enc := Value.float .f64) (d := (0 : Nat)) [⟨3, .slice (some ⟨g10, 0, none⟩) nn nn, i64s (List.replicate nn (0 : Int))⟩] [] 44 (nn) HPq.out HBq.out.size HN.out⟩)
                               ·skip
                                rintro g7 wq ⟨hB_, hP_⟩
                                have HBq := Aside0.mk hB_
                                have HPq := Aside0.mk hP_
                                clear hB_ hP_
                                have hHeld := trivial
                                refine norm_ (a' := ?_) ?_ ?_
                                rotate_left
                                ·simp only [putAll, Act.put, List.setIfInBounds_toArray, List.set_cons_zero, List.set_cons_succ]
                                 rfl
                                refine four_ (i := 1) (j := 4) (k := 10) (m := 13) (Ni := some 19) (Nj := some 22) (Nk := some 28) (Nm := some 31) #[true, true, true, true, false, true, true, true, true, true, false, true, true, false, false, false, false] #[true, false, true, true, true, true, true, true, true, true, false, true, true, false, false, false, false] #[true, false, true, true, false, true, true, true, true, true, true, true, true, false, false, false, false] #[true, false, true, true, false, true, true, true, true, true, false, true, true, true, false, false, false] rfl rfl rfl rfl rfl rfl rfl rfl (by kernel_rfl) (by decide) (by decide) (by decide) (by decide) (fun K hK => ?_) (fun K hK => ?_) (fun K hK => ?_) (fun K hK => ?_)
                                ·skip
                                 refine goes_ Try.func22 (by kernel_rfl) rfl #[.slice A0 l0.length c0] (by rfl) rfl rfl (by simp only [List.map_toArray, List.map_cons, List.map_nil]; rfl) ?_
                                 with_reducible refine (clone22r A0 c0 l0.length us0 _ (rawread_below HRR.out HBq.out) HLL.out).mono ?_
                                 rintro e w3 ⟨A1, c1, rfl, ho1, hb1⟩
                                 refine ⟨_, rfl, ?_⟩
                                 refine hK.out _ _ trivial (fun hHeld => ?_)
                                 clear hK K
                                 refine norm_ (a' := ?_) ?_ ?_
                                 rotate_left
                                 ·show Act.put _ (some 19) _ = _
                                  simp only [Act.put, List.setIfInBounds_toArray, List.set_cons_zero, List.set_cons_succ, i64_w, i32_w]
                                  rfl
                                 exact norm_ (by first | (simp only [putAll, Act.put, List.setIfInBounds_toArray, List.set_cons_zero, List.set_cons_succ]; done) | (simp only [putAll, Act.put, List.setIfInBounds_toArray, List.set_cons_zero, List.set_cons_succ]; rfl)) (hJ1_7 ((A1, c1), g7) _ ⟨below_step HBq.out hb1, pool_new [] [⟨3, .slice (some ⟨g7, 0, none⟩) nn nn, i64s (List.replicate nn (0 : Int))⟩] HPq.out hb1 HBq.out.size ho1⟩)
                                ·skip
                                 refine value_ (w1 := ?_) (v := ?_) (by rfl) rfl ?_ ?_
                                 rotate_left 2
                                 ·go_simp
                                  constructor
                                  ·rfl
                                  ·rfl
                                 refine hK.out _ _ trivial (fun hHeld => ?_)
                                 clear hK K
                                 refine norm_ (a' := ?_) ?_ ?_
                                 rotate_left
                                 ·show Act.put _ (some 22) _ = _
                                  simp only [Act.put, List.setIfInBounds_toArray, List.set_cons_zero, List.set_cons_succ, i64_w, i32_w]
                                  rfl
                                 exact norm_ (by first | (simp only [putAll, Act.put, List.setIfInBounds_toArray, List.set_cons_zero, List.set_cons_succ]; done) | (simp only [putAll, Act.put, List.setIfInBounds_toArray, List.set_cons_zero, List.set_cons_succ]; rfl)) (hJ4_7 (wq.heap.size, g7) _ ⟨below_alloc HBq.out _, pool_made (enc := Value.int .i8) (d := (0 : Int)) [] [⟨3, .slice (some ⟨g7, 0, none⟩) nn nn, i64s (List.replicate nn (0 : Int))⟩] 38 (nn) HPq.out HBq.out.size HN.out⟩)
                                ·skip
                                 refine value_ (w1 := ?_) (v := ?_) (by rfl) rfl ?_ ?_
                                 rotate_left 2
                                 ·go_simp
                                  constructor
                                  ·rfl
                                  ·rfl
                                 refine hK.out _ _ trivial (fun hHeld => ?_)
                                 clear hK K
                                 refine norm_ (a' := ?_) ?_ ?_
                                 rotate_left
                                 ·show Act.put _ (some 28) _ = _
                                  simp only [Act.put, List.setIfInBounds_toArray, List.set_cons_zero, List.set_cons_succ, i64_w, i32_w]
                                  rfl
                                 exact norm_ (by first | (simp only [putAll, Act.put, List.setIfInBounds_toArray, List.set_cons_zero, List.set_cons_succ]; done) | (simp only [putAll, Act.put, List.setIfInBounds_toArray, List.set_cons_zero, List.set_cons_succ]; rfl)) (hJ7_10 (g7, wq.heap.size) _ ⟨below_alloc HBq.out _, pool_made (enc := Value.int .i64) (d := (0 : Int)) [⟨3, .slice (some ⟨g7, 0, none⟩) nn nn, i64s (List.replicate nn (0 : Int))⟩] [] 3 (nn) HPq.out HBq.out.size HN.out⟩)
                                ·skip
                                 refine value_ (w1 := ?_) (v := ?_) (by rfl) rfl ?_ ?_
                                 rotate_left 2
                                 ·go_simp
                                  constructor
                                  ·rfl
                                  ·rfl
                                 refine hK.out _ _ trivial (fun hHeld => ?_)
                                 clear hK K
                                 refine norm_ (a' := ?_) ?_ ?_
                                 rotate_left
                                 ·show Act.put _ (some 31) _ = _
                                  simp only [Act.put, List.setIfInBounds_toArray, List.set_cons_zero, List.set_cons_succ, i64_w, i32_w]
                                  rfl
                                 exact norm_ (by first | (simp only [putAll, Act.put, List.setIfInBounds_toArray, List.set_cons_zero, List.set_cons_succ]; done) | (simp only [putAll, Act.put, List.setIfInBounds_toArray, List.set_cons_zero, List.set_cons_succ]; rfl)) (hJ7_13 (g7, wq.heap.size) _ ⟨below_alloc HBq.out _, pool_made (enc := Value.float .f64) (d := (0 : Nat)) [⟨3, .slice (some ⟨g7, 0, none⟩) nn nn, i64s (List.replicate nn (0 : Int))⟩] [] 44 (nn) HPq.out HBq.out.size HN.out⟩)
                              ·skip
                               rintro g4 wq ⟨hB_, hP_⟩
                               have HBq := Aside0.mk hB_
                               have HPq := Aside0.mk hP_
                               clear hB_ hP_
                               have hHeld := trivial
                               refine norm_ (a' := ?_) ?_ ?_
                               rotate_left
                               ·simp only [putAll, Act.put, List.setIfInBounds_toArray, List.set_cons_zero, List.set_cons_succ]
                                rfl
                               refine four_ (i := 1) (j := 7) (k := 10) (m := 13) (Ni := some 19) (Nj := some 25) (Nk := some 28) (Nm := some 31) #[true, true, true, true, true, true, true, false, true, true, false, true, true, false, false, false, false] #[true, false, true, true, true, true, true, true, true, true, false, true, true, false, false, false, false] #[true, false, true, true, true, true, true, false, true, true, true, true, true, false, false, false, false] #[true, false, true, true, true, true, true, false, true, true, false, true, true, true, false, false, false] rfl rfl rfl rfl rfl rfl rfl rfl (by kernel_rfl) (by decide) (by decide) (by decide) (by decide) (fun K hK => ?_) (fun K hK => ?_) (fun K hK => ?_) (fun K hK => ?_)
                               ·skip
                                refine goes_ Try.func22 (by kernel_rfl) rfl #[.slice A0 l0.length c0] (by rfl) rfl rfl (by simp only [List.map_toArray, List.map_cons, List.map_nil]; rfl) ?_
                                with_reducible refine (clone22r A0 c0 l0.length us0 _ (rawread_below HRR.out HBq.out) HLL.out).mono ?_
                                rintro e w3 ⟨A1, c1, rfl, ho1, hb1⟩
                                refine ⟨_, rfl, ?_⟩
                                refine hK.out _ _ trivial (fun hHeld => ?_)
                                clear hK K
                                refine norm_ (a' := ?_) ?_ ?_
                                rotate_left
                                ·show Act.put _ (some 19) _ = _
                                 simp only [Act.put, List.setIfInBounds_toArray, List.set_cons_zero, List.set_cons_succ, i64_w, i32_w]
                                 rfl
                                exact norm_ (by first | (simp only [putAll, Act.put, List.setIfInBounds_toArray, List.set_cons_zero, List.set_cons_succ]; done) | (simp only [putAll, Act.put, List.setIfInBounds_toArray, List.set_cons_zero, List.set_cons_succ]; rfl)) (hJ1_4 ((A1, c1), g4) _ ⟨below_step HBq.out hb1, pool_new [] [⟨38, .slice (some ⟨g4, 0, none⟩) nn nn, i8s (List.replicate nn (0 : Int))⟩] HPq.out hb1 HBq.out.size ho1⟩)
                               ·skip
                                refine value_ (w1 := ?_) (v := ?_) (by rfl) rfl ?_ ?_
                                rotate_left 2
                                ·go_simp
                                 constructor
                                 ·rfl
                                 ·rfl
                                refine hK.out _ _ trivial (fun hHeld => ?_)
                                clear hK K
                                refine norm_ (a' := ?_) ?_ ?_
                                rotate_left
                                ·show Act.put _ (some 25) _ = _
                                 simp only [Act.put, List.setIfInBounds_toArray, List.set_cons_zero, List.set_cons_succ, i64_w, i32_w]
                                 rfl
                                exact norm_ (by first | (simp only [putAll, Act.put, List.setIfInBounds_toArray, List.set_cons_zero, List.set_cons_succ]; done) | (simp only [putAll, Act.put, List.setIfInBounds_toArray, List.set_cons_zero, List.set_cons_succ]; rfl)) (hJ4_7 (g4, wq.heap.size) _ ⟨below_alloc HBq.out _, pool_made (enc := Value.int .i64) (d := (0 : Int)) [⟨38, .slice (some ⟨g4, 0, none⟩) nn nn, i8s (List.replicate nn (0 : Int))⟩] [] 3 (nn) HPq.out HBq.out.size HN.out⟩)
                               ·skip
                                refine value_ (w1 := ?_) (v := ?_) (by rfl) rfl ?_ ?_
                                rotate_left 2
                                ·go_simp
                                 constructor
                                 ·rfl
                                 ·rfl
                                refine hK.out _ _ trivial (fun hHeld => ?_)
                                clear hK K
                                refine norm_ (a' := ?_) ?_ ?_
                                rotate_left
                                ·show Act.put _ (some 28) _ = _
                                 simp only [Act.put, List.setIfInBounds_toArray, List.set_cons_zero, List.set_cons_succ, i64_w, i32_w]
                                 rfl
                                exact norm_ (by first | (simp only [putAll, Act.put, List.setIfInBounds_toArray, List.set_cons_zero, List.set_cons_succ]; done) | (simp only [putAll, Act.put, List.setIfInBounds_toArray, List.set_cons_zero, List.set_cons_succ]; rfl)) (hJ4_10 (g4, wq.heap.size) _ ⟨below_alloc HBq.out _, pool_made (enc := Value.int .i64) (d := (0 : Int)) [⟨38, .slice (some ⟨g4, 0, none⟩) nn nn, i8s (List.replicate nn (0 : Int))⟩] [] 3 (nn) HPq.out HBq.out.size HN.out⟩)
                               ·skip
                                refine value_ (w1 := ?_) (v := ?_) (by rfl) rfl ?_ ?_
                                rotate_left 2
                                ·go_simp
                                 constructor
                                 ·rfl
                                 ·rfl
                                refine hK.out _ _ trivial (fun hHeld => ?_)
                                clear hK K
                                refine norm_ (a' := ?_) ?_ ?_
                                rotate_left
                                ·show Act.put _ (some 31) _ = _
                                 simp only [Act.put, List.setIfInBounds_toArray, List.set_cons_zero, List.set_cons_succ, i64_w, i32_w]
                                 rfl
                                exact norm_ (by first | (simp only [putAll, Act.put, List.setIfInBounds_toArray, List.set_cons_zero, List.set_cons_succ]; done) | (simp only [putAll, Act.put, List.setIfInBounds_toArray, List.set_cons_zero, List.set_cons_succ]; rfl)) (hJ4_13 (g4, wq.heap.size) _ ⟨below_alloc HBq.out _, pool_made (enc := Value.float .f64) (d := (0 : Nat)) [⟨38, .slice (some ⟨g4, 0, none⟩) nn nn, i8s (List.replicate nn (0 : Int))⟩] [] 44 (nn) HPq.out HBq.out.size HN.out⟩)
                             ·skip
                              rintro ⟨A1, c1⟩ wq ⟨hB_, hP_⟩
                              have HBq := Aside0.mk hB_
                              have HPq := Aside0.mk hP_
                              clear hB_ hP_
                              have hHeld := trivial
                              refine norm_ (a' := ?_) ?_ ?_
                              rotate_left
                              ·simp only [putAll, Act.put, List.setIfInBounds_toArray, List.set_cons_zero, List.set_cons_succ]
                               rfl
                              refine four_ (i := 4) (j := 7) (k := 10) (m := 13) (Ni := some 22) (Nj := some 25) (Nk := some 28) (Nm := some 31) #[true, true, true, true, true, true, true, false, true, true, false, true, true, false, false, false, false] #[true, true, true, true, false, true, true, true, true, true, false, true, true, false, false, false, false] #[true, true, true, true, false, true, true, false, true, true, true, true, true, false, false, false, false] #[true, true, true, true, false, true, true, false, true, true, false, true, true, true, false, false, false] rfl rfl rfl rfl rfl rfl rfl rfl (by kernel_rfl) (by decide) (by decide) (by decide) (by decide) (fun K hK => ?_) (fun K hK => ?_) (fun K hK => ?_) (fun K hK => ?_)
                              ·skip
                               refine value_ (w1 := ?_) (v := ?_) (by rfl) rfl ?_ ?_
                               rotate_left 2
                               ·go_simp
                                constructor
                                ·rfl
                                ·rfl
                               refine hK.out _ _ trivial (fun hHeld => ?_)
                               clear hK K
                               refine norm_ (a' := ?_) ?_ ?_
                               rotate_left
                               ·show Act.put _ (some 22) _ = _
                                simp only [Act.put, List.setIfInBounds_toArray, List.set_cons_zero, List.set_cons_succ, i64_w, i32_w]
                                rfl
                               exact norm_ (by first | (simp only [putAll, Act.put, List.setIfInBounds_toArray, List.set_cons_zero, List.set_cons_succ]; done) | (simp only [putAll, Act.put, List.setIfInBounds_toArray, List.set_cons_zero, List.set_cons_succ]; rfl)) (hJ1_4 ((A1, c1), wq.heap.size) _ ⟨below_alloc HBq.out _, pool_made (enc := Value.int .i8) (d := (0 : Int)) [⟨32, .slice A1 l0.length c1, us0⟩] [] 38 (nn) HPq.out HBq.out.size HN.out⟩)
                              ·skip
                               refine value_ (w1 := ?_) (v := ?_) (by rfl) rfl ?_ ?_
                               rotate_left 2
                               ·go_simp
                                constructor
                                ·rfl
                                ·rfl
                               refine hK.out _ _ trivial (fun hHeld => ?_)
                               clear hK K
                               refine norm_ (a' := ?_) ?_ ?_
                               rotate_left
                               ·show Act.put _ (some 25) _ = _
                                simp only [Act.put, List.setIfInBounds_toArray, List.set_cons_zero, List.set_cons_succ, i64_w, i32_w]
                                rfl
                               exact norm_ (by first | (simp only [putAll, Act.put, List.setIfInBounds_toArray, List.set_cons_zero, List.set_cons_succ]; done) | (simp only [putAll, Act.put, List.setIfInBounds_toArray, List.set_cons_zero, List.set_cons_succ]; rfl)) (hJ1_7 ((A1, c1), wq.heap.size) _ ⟨below_alloc HBq.out _, pool_made (enc := Value.int .i64) (d := (0 : Int)) [⟨32, .slice A1 l0.length c1, us0⟩] [] 3 (nn) HPq.out HBq.out.size HN.out⟩)
                              ·skip
                               refine value_ (w1 := ?_) (v := ?_) (by rfl) rfl ?_ ?_
                               rotate_left 2
                               ·go_simp
                                constructor
                                ·rfl
                                ·rfl
                               refine hK.out _ _ trivial (fun hHeld => ?_)
                               clear hK K
                               refine norm_ (a' := ?_) ?_ ?_
                               rotate_left
                               ·show Act.put _ (some 28) _ = _
                                simp only [Act.put, List.setIfInBounds_toArray, List.set_cons_zero, List.set_cons_succ, i64_w, i32_w]
                                rfl
                               exact norm_ (by first | (simp only [putAll, Act.put, List.setIfInBounds_toArray, List.set_cons_zero, List.set_cons_succ]; done) | (simp only [putAll, Act.put, List.setIfInBounds_toArray, List.set_cons_zero, List.set_cons_succ]; rfl)) (hJ1_10 ((A1, c1), wq.heap.size) _ ⟨below_alloc HBq.out _, pool_made (enc := Value.int .i64) (d := (0 : Int)) [⟨32, .slice A1 l0.length c1, us0⟩] [] 3 (nn) HPq.out HBq.out.size HN.out⟩)
                              ·skip
                               refine value_ (w1 := ?_) (v := ?_) (by rfl) rfl ?_ ?_
                               rotate_left 2
                               ·go_simp
                                constructor
                                ·rfl
                                ·rfl
                               refine hK.out _ _ trivial (fun hHeld => ?_)
                               clear hK K
                               refine norm_ (a' := ?_) ?_ ?_
                               rotate_left
                               ·show Act.put _ (some 31) _ = _
                                simp only [Act.put, List.setIfInBounds_toArray, List.set_cons_zero, List.set_cons_succ, i64_w, i32_w]
                                rfl
                               exact norm_ (by first | (simp only [putAll, Act.put, List.setIfInBounds_toArray, List.set_cons_zero, List.set_cons_succ]; done) | (simp only [putAll, Act.put, List.setIfInBounds_toArray, List.set_cons_zero, List.set_cons_succ]; rfl)) (hJ1_13 ((A1, c1), wq.heap.size) _ ⟨below_alloc HBq.out _, pool_made (enc := Value.float .f64) (d := (0 : Nat)) [⟨32, .slice A1 l0.length c1, us0⟩] [] 44 (nn) HPq.out HBq.out.size HN.out⟩)
                            ·skip
                             rintro ⟨g10, g13⟩ wq ⟨hB_, hP_⟩
                             have HBq := Aside0.mk hB_
                             have HPq := Aside0.mk hP_
                             clear hB_ hP_
                             have hHeld := trivial
                             refine norm_ (a' := ?_) ?_ ?_
                             rotate_left
                             ·simp only [putAll, Act.put, List.setIfInBounds_toArray, List.set_cons_zero, List.set_cons_succ]
                              rfl
                             refine three_ (i := 1) (j := 4) (k := 7) (Ni := some 19) (Nj := some 22) (Nk := some 25) #[true, true, true, true, false, true, true, false, true, true, true, true, true, true, false, false, false] #[true, false, true, true, true, true, true, false, true, true, true, true, true, true, false, false, false] #[true, false, true, true, false, true, true, true, true, true, true, true, true, true, false, false, false] rfl rfl rfl rfl rfl rfl (by kernel_rfl) (by decide) (by decide) (by decide) (fun K hK => ?_) (fun K hK => ?_) (fun K hK => ?_)
                             ·skip
                              refine goes_ Try.func22 (by kernel_rfl) rfl #[.slice A0 l0.length c0] (by rfl) rfl rfl (by simp only [List.map_toArray, List.map_cons, List.map_nil]; rfl) ?_
                              with_reducible refine (clone22r A0 c0 l0.length us0 _ (rawread_below HRR.out HBq.out) HLL.out).mono ?_
                              rintro e w3 ⟨A1, c1, rfl, ho1, hb1⟩
                              refine ⟨_, rfl, ?_⟩
                              refine hK.out _ _ trivial (fun hHeld => ?_)
                              clear hK K
                              refine norm_ (a' := ?_) ?_ ?_
                              rotate_left
                              ·show Act.put _ (some 19) _ = _
                               simp only [Act.put, List.setIfInBounds_toArray, List.set_cons_zero, List.set_cons_succ, i64_w, i32_w]
                               rfl
                              exact norm_ (by first | (simp only [putAll, Act.put, List.setIfInBounds_toArray, List.set_cons_zero, List.set_cons_succ]; done) | (simp only [putAll, Act.put, List.setIfInBounds_toArray, List.set_cons_zero, List.set_cons_succ]; rfl)) (hJ1_10_13 ((A1, c1), g10, g13) _ ⟨below_step HBq.out hb1, pool_new [] [⟨3, .slice (some ⟨g10, 0, none⟩) nn nn, i64s (List.replicate nn (0 : Int))⟩, ⟨44, .slice (some ⟨g13, 0, none⟩) nn nn, f64s (List.replicate nn (0 : Nat))⟩] HPq.out hb1 HBq.out.size ho1⟩)
                             ·skip
                              refine value_ (w1 := ?_) (v := ?_) (by rfl) rfl ?_ ?_
                              rotate_left 2
                              ·go_simp
                               constructor
                               ·rfl
                               ·rfl
                              refine hK.out _ _ trivial (fun hHeld => ?_)
                              clear hK K
                              refine norm_ (a' := ?_) ?_ ?_
                              rotate_left
                              ·show Act.put _ (some 22) _ = _
                               simp only [Act.put, List.setIfInBounds_toArray, List.set_cons_zero, List.set_cons_succ, i64_w, i32_w]
                               rfl
                              exact norm_ (by first | (simp only [putAll, Act.put, List.setIfInBounds_toArray, List.set_cons_zero, List.set_cons_succ]; done) | (simp only [putAll, Act.put, List.setIfInBounds_toArray, List.set_cons_zero, List.set_cons_succ]; rfl)) (hJ4_10_13 (wq.heap.size, g10, g13) _ ⟨below_alloc HBq.out _, pool_made (enc := Value.int .i8) (d := (0 : Int)) [] [⟨3, .slice (some ⟨g10, 0, none⟩) nn nn, i64s (List.replicate nn (0 : Int))⟩, ⟨44, .slice (some ⟨g13, 0, none⟩) nn nn, f64s (List.replicate nn (0 : Nat))⟩] 38 (nn) HPq.out HBq.out.size HN.out⟩)
                             ·skip
                              refine value_ (w1 := ?_) (v := ?_) (by rfl) rfl ?_ ?_
                              rotate_left 2
                              ·go_simp
                               constructor
                               ·rfl
                               ·rfl
                              refine hK.out _ _ trivial (fun hHeld => ?_)
                              clear hK K
                              refine norm_ (a' := ?_) ?_ ?_
                              rotate_left
                              ·show Act.put _ (some 25) _ = _
                               simp only [Act.put, List.setIfInBounds_toArray, List.set_cons_zero, List.set_cons_succ, i64_w, i32_w]
                               rfl
                              exact norm_ (by first | (simp only [putAll, Act.put, List.setIfInBounds_toArray, List.set_cons_zero, List.set_cons_succ]; done) | (simp only [putAll, Act.put, List.setIfInBounds_toArray, List.set_cons_zero, List.set_cons_succ]; rfl)) (hJ7_10_13 (wq.heap.size, g10, g13) _ ⟨below_alloc HBq.out _, pool_made (enc := Value.int .i64) (d := (0 : Int)) [] [⟨3, .slice (some ⟨g10, 0, none⟩) nn nn, i64s (List.replicate nn (0 : Int))⟩, ⟨44, .slice (some ⟨g13, 0, none⟩) nn nn, f64s (List.replicate nn (0 : Nat))⟩] 3 (nn) HPq.out HBq.out.size HN.out⟩)
                           ·skip
                            rintro ⟨g7, g13⟩ wq ⟨hB_, hP_⟩
                            have HBq := Aside0.mk hB_
                            have HPq := Aside0.mk hP_
                            clear hB_ hP_
                            have hHeld := trivial
                            refine norm_ (a' := ?_) ?_ ?_
                            rotate_left
                            ·simp only [putAll, Act.put, List.setIfInBounds_toArray, List.set_cons_zero, List.set_cons_succ]
                             rfl
                            refine three_ (i := 1) (j := 4) (k := 10) (Ni := some 19) (Nj := some 22) (Nk := some 28) #[true, true, true, true, false, true, true, true, true, true, false, true, true, true, false, false, false] #[true, false, true, true, true, true, true, true, true, true, false, true, true, true, false, false, false] #[true, false, true, true, false, true, true, true, true, true, true, true, true, true, false, false, false] rfl rfl rfl rfl rfl rfl (by kernel_rfl) (by decide) (by decide) (by decide) (fun K hK => ?_) (fun K hK => ?_) (fun K hK => ?_)
                            ·skip
                             refine goes_ Try.func22 (by kernel_rfl) rfl #[.slice A0 l0.length c0] (by rfl) rfl rfl (by simp only [List.map_toArray, List.map_cons, List.map_nil]; rfl) ?_
                             with_reducible refine (clone22r A0 c0 l0.length us0 _ (rawread_below HRR.out HBq.out) HLL.out).mono ?_
                             rintro e w3 ⟨A1, c1, rfl, ho1, hb1⟩
                             refine ⟨_, rfl, ?_⟩
                             refine hK.out _ _ trivial (fun hHeld => ?_)
                             clear hK K
                             refine norm_ (a' := ?_) ?_ ?_
                             rotate_left
                             ·show Act.put _ (some 19) _ = _
                              simp only [Act.put, List.setIfInBounds_toArray, List.set_cons_zero, List.set_cons_succ, i64_w, i32_w]
                              rfl
                             exact norm_ (by first | (simp only [putAll, Act.put, List.setIfInBounds_toArray, List.set_cons_zero, List.set_cons_succ]; done) | (simp only [putAll, Act.put, List.setIfInBounds_toArray, List.set_cons_zero, List.set_cons_succ]; rfl)) (hJ1_7_13 ((A1, c1), g7, g13) _ ⟨below_step HBq.out hb1, pool_new [] [⟨3, .slice (some ⟨g7, 0, none⟩) nn nn, i64s (List.replicate nn (0 : Int))⟩, ⟨44, .slice (some ⟨g13, 0, none⟩) nn nn, f64s (List.replicate nn (0 : Nat))⟩] HPq.out hb1 HBq.out.size ho1⟩)
                            ·skip
                             refine value_ (w1 := ?_) (v := ?_) (by rfl) rfl ?_ ?_
                             rotate_left 2
                             ·go_simp
                              constructor
                              ·rfl
                              ·rfl
                             refine hK.out _ _ trivial (fun hHeld => ?_)
                             clear hK K
                             refine norm_ (a' := ?_) ?_ ?_
                             rotate_left
                             ·show Act.put _ (some 22) _ = _
                              simp only [Act.put, List.setIfInBounds_toArray, List.set_cons_zero, List.set_cons_succ, i64_w, i32_w]
                              rfl
                             exact norm_ (by first | (simp only [putAll, Act.put, List.setIfInBounds_toArray, List.set_cons_zero, List.set_cons_succ]; done) | (simp only [putAll, Act.put, List.setIfInBounds_toArray, List.set_cons_zero, List.set_cons_succ]; rfl)) (hJ4_7_13 (wq.heap.size, g7, g13) _ ⟨below_alloc HBq.out _, pool_made (enc := Value.int .i8) (d := (0 : Int)) [] [⟨3, .slice (some ⟨g7, 0, none⟩) nn nn, i64s (List.replicate nn (0 : Int))⟩, ⟨44, .slice (some ⟨g13, 0, none⟩) nn nn, f64s (List.replicate nn (0 : Nat))⟩] 38 (nn) HPq.out HBq.out.size HN.out⟩)
                            ·skip
                             refine value_ (w1 := ?_) (v := ?_) (by rfl) rfl ?_ ?_
                             rotate_left 2
                             ·go_simp
                              constructor
                              ·rfl
                              ·rfl
                             refine hK.out _ _ trivial (fun hHeld => ?_)
                             clear hK K
                             refine norm_ (a' := ?_) ?_ ?_
                             rotate_left
                             ·show Act.put _ (some 28) _ = _
                              simp only [Act.put, List.setIfInBounds_toArray, List.set_cons_zero, List.set_cons_succ, i64_w, i32_w]
                              rfl
                             exact norm_ (by first | (simp only [putAll, Act.put, List.setIfInBounds_toArray, List.set_cons_zero, List.set_cons_succ]; done) | (simp only [putAll, Act.put, List.setIfInBounds_toArray, List.set_cons_zero, List.set_cons_succ]; rfl)) (hJ7_10_13 (g7, wq.heap.size, g13) _ ⟨below_alloc HBq.out _, pool_made (enc := Value.int .i64) (d := (0 : Int)) [⟨3, .slice (some ⟨g7, 0, none⟩) nn nn, i64s (List.replicate nn (0 : Int))⟩] [⟨44, .slice (some ⟨g13, 0, none⟩) nn nn, f64s (List.replicate nn (0 : Nat))⟩] 3 (nn) HPq.out HBq.out.size HN.out⟩)
                          ·skip
                           rintro ⟨g7, g10⟩ wq ⟨hB_, hP_⟩
                           have HBq := Aside0.mk hB_
                           have HPq := Aside0.mk hP_
                           clear hB_ hP_
                           have hHeld := trivial
                           refine norm_ (a' := ?_) ?_ ?_
                           rotate_left
                           ·simp only [putAll, Act.put, List.setIfInBounds_toArray, List.set_cons_zero, List.set_cons_succ]
                            rfl
                           refine three_ (i := 1) (j := 4) (k := 13) (Ni := some 19) (Nj := some 22) (Nk := some 31) #[true, true, true, true, false, true, true, true, true, true, true, true, true, false, false, false, false] #[true, false, true, true, true, true, true, true, true, true, true, true, true, false, false, false, false] #[true, false, true, true, false, true, true, true, true, true, true, true, true, true, false, false, false] rfl rfl rfl rfl rfl rfl (by kernel_rfl) (by decide) (by decide) (by decide) (fun K hK => ?_) (fun K hK => ?_) (fun K hK => ?_)
                           ·skip
                            refine goes_ Try.func22 (by kernel_rfl) rfl #[.slice A0 l0.length c0] (by rfl) rfl rfl (by simp only [List.map_toArray, List.map_cons, List.map_nil]; rfl) ?_
                            with_reducible refine (clone22r A0 c0 l0.length us0 _ (rawread_below HRR.out HBq.out) HLL.out).mono ?_
                            rintro e w3 ⟨A1, c1, rfl, ho1, hb1⟩
                            refine ⟨_, rfl, ?_⟩
                            refine hK.out _ _ trivial (fun hHeld => ?_)
                            clear hK K
                            refine norm_ (a' := ?_) ?_ ?_
                            rotate_left
                            ·show Act.put _ (some 19) _ = _
                             simp only [Act.put, List.setIfInBounds_toArray, List.set_cons_zero, List.set_cons_succ, i64_w, i32_w]
                             rfl
                            exact norm_ (by first | (simp only [putAll, Act.put, List.setIfInBounds_toArray, List.set_cons_zero, List.set_cons_succ]; done) | (simp only [putAll, Act.put, List.setIfInBounds_toArray, List.set_cons_zero, List.set_cons_succ]; rfl)) (hJ1_7_10 ((A1, c1), g7, g10) _ ⟨below_step HBq.out hb1, pool_new [] [⟨3, .slice (some ⟨g7, 0, none⟩) nn nn, i64s (List.replicate nn (0 : Int))⟩, ⟨3, .slice (some ⟨g10, 0, none⟩) nn nn, i64s (List.replicate nn (0 : Int))⟩] HPq.out hb1 HBq.out.size ho1⟩)
                           ·skip
                            refine value_ (w1 := ?_) (v := ?_) (by rfl) rfl ?_ ?_
                            rotate_left 2
                            ·go_simp
                             constructor
                             ·rfl
                             ·rfl
                            refine hK.out _ _ trivial (fun hHeld => ?_)
                            clear hK K
                            refine norm_ (a' := ?_) ?_ ?_
                            rotate_left
                            ·show Act.put _ (some 22) _ = _
                             simp only [Act.put, List.setIfInBounds_toArray, List.set_cons_zero, List.set_cons_succ, i64_w, i32_w]
                             rfl
                            exact norm_ (by first | (simp only [putAll, Act.put, List.setIfInBounds_toArray, List.set_cons_zero, List.set_cons_succ]; done) | (simp only [putAll, Act.put, List.setIfInBounds_toArray, List.set_cons_zero, List.set_cons_succ]; rfl)) (hJ4_7_10 (wq.heap.size, g7, g10) _ ⟨below_alloc HBq.out _, pool_made (enc := Value.int .i8) (d := (0 : Int)) [] [⟨3, .slice (some ⟨g7, 0, none⟩) nn nn, i64s (List.replicate nn (0 : Int))⟩, ⟨3, .slice (some ⟨g10, 0, none⟩) nn nn, i64s (List.replicate nn (0 : Int))⟩] 38 (nn) HPq.out HBq.out.size HN.out⟩)
                           ·skip
                            refine value_ (w1 := ?_) (v := ?_) (by rfl) rfl ?_ ?_
                            rotate_left 2
                            ·go_simp
                             constructor
                             ·rfl
                             ·rfl
                            refine hK.out _ _ trivial (fun hHeld => ?_)
                            clear hK K
                            refine norm_ (a' := ?_) ?_ ?_
                            rotate_left
                            ·show Act.put _ (some 31) _ = _
                             simp only [Act.put, List.setIfInBounds_toArray, List.set_cons_zero, List.set_cons_succ, i64_w, i32_w]
                             rfl
                            exact norm_ (by first | (simp only [putAll, Act.put, List.setIfInBounds_toArray, List.set_cons_zero, List.set_cons_succ]; done) | (simp only [putAll, Act.put, List.setIfInBounds_toArray, List.set_cons_zero, List.set_cons_succ]; rfl)) (hJ7_10_13 (g7, g10, wq.heap.size) _ ⟨below_alloc HBq.out _, pool_made (enc := Value.float .f64) (d := (0 : Nat)) [⟨3, .slice (some ⟨g7, 0, none⟩) nn nn, i64s (List.replicate nn (0 : Int))⟩, ⟨3, .slice (some ⟨g10, 0, none⟩) nn nn, i64s (List.replicate nn (0 : Int))⟩] [] 44 (nn) HPq.out HBq.out.size HN.out⟩)
                         ·skip
                          rintro ⟨g4, g13⟩ wq ⟨hB_, hP_⟩
                          have HBq := Aside0.mk hB_
                          have HPq := Aside0.mk hP_
                          clear hB_ hP_
                          have hHeld := trivial
                          refine norm_ (a' := ?_) ?_ ?_
                          rotate_left
                          ·simp only [putAll, Act.put, List.setIfInBounds_toArray, List.set_cons_zero, List.set_cons_succ]
                           rfl
                          refine three_ (i := 1) (j := 7) (k := 10) (Ni := some 19) (Nj := some 25) (Nk := some 28) #[true, true, true, true, true, true, true, false, true, true, false, true, true, true, false, false, false] #[true, false, true, true, true, true, true, true, true, true, false, true, true, true, false, false, false] #[true, false, true, true, true, true, true, false, true, true, true, true, true, true, false, false, false] rfl rfl rfl rfl rfl rfl (by kernel_rfl) (by decide) (by decide) (by decide) (fun K hK => ?_) (fun K hK => ?_) (fun K hK => ?_)
                          ·skip
                           refine goes_ Try.func22 (by kernel_rfl) rfl #[.slice A0 l0.length c0] (by rfl) rfl rfl (by simp only [List.map_toArray, List.map_cons, List.map_nil]; rfl) ?_
                           with_reducible refine (clone22r A0 c0 l0.length us0 _ (rawread_below HRR.out HBq.out) HLL.out).mono ?_
                           rintro e w3 ⟨A1, c1, rfl, ho1, hb1⟩
                           refine ⟨_, rfl, ?_⟩
                           refine hK.out _ _ trivial (fun hHeld => ?_)
                           clear hK K
                           refine norm_ (a' := ?_) ?_ ?_
                           rotate_left
                           ·show Act.put _ (some 19) _ = _
                            simp only [Act.put, List.setIfInBounds_toArray, List.set_cons_zero, List.set_cons_succ, i64_w, i32_w]
                            rfl
                           exact norm_ (by first | (simp only [putAll, Act.put, List.setIfInBounds_toArray, List.set_cons_zero, List.set_cons_succ]; done) | (simp only [putAll, Act.put, List.setIfInBounds_toArray, List.set_cons_zero, List.set_cons_succ]; rfl)) (hJ1_4_13 ((A1, c1), g4, g13) _ ⟨below_step HBq.out hb1, pool_new [] [⟨38, .slice (some ⟨g4, 0, none⟩) nn nn, i8s (List.replicate nn (0 : Int))⟩, ⟨44, .slice (some ⟨g13, 0, none⟩) nn nn, f64s (List.replicate nn (0 : Nat))⟩] HPq.out hb1 HBq.out.size ho1⟩)
                          ·skip
                           refine value_ (w1 := ?_) (v := ?_) (by rfl) rfl ?_ ?_
                           rotate_left 2
                           ·go_simp
                            constructor
                            ·rfl
                            ·rfl
                           refine hK.out _ _ trivial (fun hHeld => ?_)
                           clear hK K
                           refine norm_ (a' := ?_) ?_ ?_
                           rotate_left
                           ·show Act.put _ (some 25) _ = _
                            simp only [Act.put, List.setIfInBounds_toArray, List.set_cons_zero, List.set_cons_succ, i64_w, i32_w]
                            rfl
                           exact norm_ (by first | (simp only [putAll, Act.put, List.setIfInBounds_toArray, List.set_cons_zero, List.set_cons_succ]; done) | (simp only [putAll, Act.put, List.setIfInBounds_toArray, List.set_cons_zero, List.set_cons_succ]; rfl)) (hJ4_7_13 (g4, wq.heap.size, g13) _ ⟨below_alloc HBq.out _, pool_made (enc := Value.int .i64) (d := (0 : Int)) [⟨38, .slice (some ⟨g4, 0, none⟩) nn nn, i8s (List.replicate nn (0 : Int))⟩] [⟨44, .slice (some ⟨g13, 0, none⟩) nn nn, f64s (List.replicate nn (0 : Nat))⟩] 3 (nn) HPq.out HBq.out.size HN.out⟩)
                          ·skip
                           refine value_ (w1 := ?_) (v := ?_) (by rfl) rfl ?_ ?_
                           rotate_left 2
                           ·go_simp
                            constructor
                            ·rfl
                            ·rfl
                           refine hK.out _ _ trivial (fun hHeld => ?_)
                           clear hK K
                           refine norm_ (a' := ?_) ?_ ?_
                           rotate_left
                           ·show Act.put _ (some 28) _ = _
                            simp only [Act.put, List.setIfInBounds_toArray, List.set_cons_zero, List.set_cons_succ, i64_w, i32_w]
                            rfl
                           exact norm_ (by first | (simp only [putAll, Act.put, List.setIfInBounds_toArray, List.set_cons_zero, List.set_cons_succ]; done) | (simp only [putAll, Act.put, List.setIfInBounds_toArray, List.set_cons_zero, List.set_cons_succ]; rfl)) (hJ4_10_13 (g4, wq.heap.size, g13) _ ⟨below_alloc HBq.out _, pool_made (enc := Value.int .i64) (d := (0 : Int)) [⟨38, .slice (some ⟨g4, 0, none⟩) nn nn, i8s (List.replicate nn (0 : Int))⟩] [⟨44, .slice (some ⟨g13, 0, none⟩) nn nn, f64s (List.replicate nn (0 : Nat))⟩] 3 (nn) HPq.out HBq.out.size HN.out⟩)
                        ·skip
                         rintro ⟨g4, g10⟩ wq ⟨hB_, hP_⟩
                         have HBq := Aside0.mk hB_
                         have HPq := Aside0.mk hP_
                         clear hB_ hP_
                         have hHeld := trivial
                         refine norm_ (a' := ?_) ?_ ?_
                         rotate_left
                         ·simp only [putAll, Act.put, List.setIfInBounds_toArray, List.set_cons_zero, List.set_cons_succ]
                          rfl
                         refine three_ (i := 1) (j := 7) (k := 13) (Ni := some 19) (Nj := some 25) (Nk := some 31) #[true, true, true, true, true, true, true, false, true, true, true, true, true, false, false, false, false] #[true, false, true, true, true, true, true, true, true, true, true, true, true, false, false, false, false] #[true, false, true, true, true, true, true, false, true, true, true, true, true, true, false, false, false] rfl rfl rfl rfl rfl rfl (by kernel_rfl) (by decide) (by decide) (by decide) (fun K hK => ?_) (fun K hK => ?_) (fun K hK => ?_)
                         ·skip
                          refine goes_ Try.func22 (by kernel_rfl) rfl #[.slice A0 l0.length c0] (by rfl) rfl rfl (by simp only [List.map_toArray, List.map_cons, List.map_nil]; rfl) ?_
                          with_reducible refine (clone22r A0 c0 l0.length us0 _ (rawread_below HRR.out HBq.out) HLL.out).mono ?_
                          rintro e w3 ⟨A1, c1, rfl, ho1, hb1⟩
                          refine ⟨_, rfl, ?_⟩
                          refine hK.out _ _ trivial (fun hHeld => ?_)
                          clear hK K
                          refine norm_ (a' := ?_) ?_ ?_
                          rotate_left
                          ·show Act.put _ (some 19) _ = _
                           simp only [Act.put, List.setIfInBounds_toArray, List.set_cons_zero, List.set_cons_succ, i64_w, i32_w]
                           rfl
                          exact norm_ (by first | (simp only [putAll, Act.put, List.setIfInBounds_toArray, List.set_cons_zero, List.set_cons_succ]; done) | (simp only [putAll, Act.put, List.setIfInBounds_toArray, List.set_cons_zero, List.set_cons_succ]; rfl)) (hJ1_4_10 ((A1, c1), g4, g10) _ ⟨below_step HBq.out hb1, pool_new [] [⟨38, .slice (some ⟨g4, 0, none⟩) nn nn, i8s (List.replicate nn (0 : Int))⟩, ⟨3, .slice (some ⟨g10, 0, none⟩) nn nn, i64s (List.replicate nn (0 : Int))⟩] HPq.out hb1 HBq.out.size ho1⟩)
                         ·skip
                          refine value_ (w1 := ?_) (v := ?_) (by rfl) rfl ?_ ?_
                          rotate_left 2
                          ·go_simp
                           constructor
                           ·rfl
                           ·rfl
                          refine hK.out _ _ trivial (fun hHeld => ?_)
                          clear hK K
                          refine norm_ (a' := ?_) ?_ ?_
                          rotate_left
                          ·show Act.put _ (some 25) _ = _
                           simp only [Act.put, List.setIfInBounds_toArray, List.set_cons_zero, List.set_cons_succ, i64_w, i32_w]
                           rfl
                          exact norm_ (by first | (simp only [putAll, Act.put, List.setIfInBounds_toArray, List.set_cons_zero, List.set_cons_succ]; done) | (simp only [putAll, Act.put, List.setIfInBounds_toArray, List.set_cons_zero, List.set_cons_succ]; rfl)) (hJ4_7_10 (g4, wq.heap.size, g10) _ ⟨below_alloc HBq.out _, pool_made (enc := Value.int .i64) (d := (0 : Int)) [⟨38, .slice (some ⟨g4, 0, none⟩) nn nn, i8s (List.replicate nn (0 : Int))⟩] [⟨3, .slice (some ⟨g10, 0, none⟩) nn nn, i64s (List.replicate nn (0 : Int))⟩] 3 (nn) HPq.out HBq.out.size HN.out⟩)
                         ·skip
                          refine value_ (w1 := ?_) (v := ?_) (by rfl) rfl ?_ ?_
                          rotate_left 2
                          ·go_simp
                           constructor
                           ·rfl
                           ·rfl
                          refine hK.out _ _ trivial (fun hHeld => ?_)
                          clear hK K
                          refine norm_ (a' := ?_) ?_ ?_
                          rotate_left
                          ·show Act.put _ (some 31) _ = _
                           simp only [Act.put, List.setIfInBounds_toArray, List.set_cons_zero, List.set_cons_succ, i64_w, i32_w]
                           rfl
                          exact norm_ (by first | (simp only [putAll, Act.put, List.setIfInBounds_toArray, List.set_cons_zero, List.set_cons_succ]; done) | (simp only [putAll, Act.put, List.setIfInBounds_toArray, List.set_cons_zero, List.set_cons_succ]; rfl)) (hJ4_10_13 (g4, g10, wq.heap.size) _ ⟨below_alloc HBq.out _, pool_made (enc := Value.float .f64) (d := (0 : Nat)) [⟨38, .slice (some ⟨g4, 0, none⟩) nn nn, i8s (List.replicate nn (0 : Int))⟩, ⟨3, .slice (some ⟨g10, 0, none⟩) nn nn, i64s (List.replicate nn (0 : Int))⟩] [] 44 (nn) HPq.out HBq.out.size HN.out⟩)
                       ·skip
                        rintro ⟨g4, g7⟩ wq ⟨hB_, hP_⟩
                        have HBq := Aside0.mk hB_
                        have HPq := Aside0.mk hP_
                        clear hB_ hP_
                        have hHeld := trivial
                        refine norm_ (a' := ?_) ?_ ?_
                        rotate_left
                        ·simp only [putAll, Act.put, List.setIfInBounds_toArray, List.set_cons_zero, List.set_cons_succ]
                         rfl
                        refine three_ (i := 1) (j := 10) (k := 13) (Ni := some 19) (Nj := some 28) (Nk := some 31) #[true, true, true, true, true, true, true, true, true, true, false, true, true, false, false, false, false] #[true, false, true, true, true, true, true, true, true, true, true, true, true, false, false, false, false] #[true, false, true, true, true, true, true, true, true, true, false, true, true, true, false, false, false] rfl rfl rfl rfl rfl rfl (by kernel_rfl) (by decide) (by decide) (by decide) (fun K hK => ?_) (fun K hK => ?_) (fun K hK => ?_)
                        ·skip
                         refine goes_ Try.func22 (by kernel_rfl) rfl #[.slice A0 l0.length c0] (by rfl) rfl rfl (by simp only [List.map_toArray, List.map_cons, List.map_nil]; rfl) ?_
                         with_reducible refine (clone22r A0 c0 l0.length us0 _ (rawread_below HRR.out HBq.out) HLL.out).mono ?_
                         rintro e w3 ⟨A1, c1, rfl, ho1, hb1⟩
                         refine ⟨_, rfl, ?_⟩
                         refine hK.out _ _ trivial (fun hHeld => ?_)
                         clear hK K
                         refine norm_ (a' := ?_) ?_ ?_
                         rotate_left
                         ·show Act.put _ (some 19) _ = _
                          simp only [Act.put, List.setIfInBounds_toArray, List.set_cons_zero, List.set_cons_succ, i64_w, i32_w]
                          rfl
                         exact norm_ (by first | (simp only [putAll, Act.put, List.setIfInBounds_toArray, List.set_cons_zero, List.set_cons_succ]; done) | (simp only [putAll, Act.put, List.setIfInBounds_toArray, List.set_cons_zero, List.set_cons_succ]; rfl)) (hJ1_4_7 ((A1, c1), g4, g7) _ ⟨below_step HBq.out hb1, pool_new [] [⟨38, .slice (some ⟨g4, 0, none⟩) nn nn, i8s (List.replicate nn (0 : Int))⟩, ⟨3, .slice (some ⟨g7, 0, none⟩) nn nn, i64s (List.replicate nn (0 : Int))⟩] HPq.out hb1 HBq.out.size ho1⟩)
                        ·skip
                         refine value_ (w1 := ?_) (v := ?_) (by rfl) rfl ?_ ?_
                         rotate_left 2
                         ·go_simp
                          constructor
                          ·rfl
                          ·rfl
                         refine hK.out _ _ trivial (fun hHeld => ?_)
                         clear hK K
                         refine norm_ (a' := ?_) ?_ ?_
                         rotate_left
                         ·show Act.put _ (some 28) _ = _
                          simp only [Act.put, List.setIfInBounds_toArray, List.set_cons_zero, List.set_cons_succ, i64_w, i32_w]
                          rfl
                         exact norm_ (by first | (simp only [putAll, Act.put, List.setIfInBounds_toArray, List.set_cons_zero, List.set_cons_succ]; done) | (simp only [putAll, Act.put, List.setIfInBounds_toArray, List.set_cons_zero, List.set_cons_succ]; rfl)) (hJ4_7_10 (g4, g7, wq.heap.size) _ ⟨below_alloc HBq.out _, pool_made (enc := Value.int .i64) (d := (0 : Int)) [⟨38, .slice (some ⟨g4, 0, none⟩) nn nn, i8s (List.replicate nn (0 : Int))⟩, ⟨3, .slice (some ⟨g7, 0, none⟩) nn nn, i64s (List.replicate nn (0 : Int))⟩] [] 3 (nn) HPq.out HBq.out.size HN.out⟩)
                        ·skip
                         refine value_ (w1 := ?_) (v := ?_) (by rfl) rfl ?_ ?_
                         rotate_left 2
                         ·go_simp
                          constructor
                          ·rfl
                          ·rfl
                         refine hK.out _ _ trivial (fun hHeld => ?_)
                         clear hK K
                         refine norm_ (a' := ?_) ?_ ?_
                         rotate_left
                         ·show Act.put _ (some 31) _ = _
                          simp only [Act.put, List.setIfInBounds_toArray, List.set_cons_zero, List.set_cons_succ, i64_w, i32_w]
                          rfl
                         exact norm_ (by first | (simp only [putAll, Act.put, List.setIfInBounds_toArray, List.set_cons_zero, List.set_cons_succ]; done) | (simp only [putAll, Act.put, List.setIfInBounds_toArray, List.set_cons_zero, List.set_cons_succ]; rfl)) (hJ4_7_13 (g4, g7, wq.heap.size) _ ⟨below_alloc HBq.out _, pool_made (enc := Value.float .f64) (d := (0 : Nat)) [⟨38, .slice (some ⟨g4, 0, none⟩) nn nn, i8s (List.replicate nn (0 : Int))⟩, ⟨3, .slice (some ⟨g7, 0, none⟩) nn nn, i64s (List.replicate nn (0 : Int))⟩] [] 44 (nn) HPq.out HBq.out.size HN.out⟩)
                      ·skip
                       rintro ⟨⟨A1, c1⟩, g13⟩ wq ⟨hB_, hP_⟩
                       have HBq := Aside0.mk hB_
                       have HPq := Aside0.mk hP_
                       clear hB_ hP_
                       have hHeld := trivial
                       refine norm_ (a' := ?_) ?_ ?_
                       rotate_left
                       ·simp only [putAll, Act.put, List.setIfInBounds_toArray, List.set_cons_zero, List.set_cons_succ]
                        rfl
                       refine three_ (i := 4) (j := 7) (k := 10) (Ni := some 22) (Nj := some 25) (Nk := some 28) #[true, true, true, true, true, true, true, false, true, true, false, true, true, true, false, false, false] #[true, true, true, true, false, true, true, true, true, true, false, true, true, true, false, false, false] #[true, true, true, true, false, true, true, false, true, true, true, true, true, true, false, false, false] rfl rfl rfl rfl rfl rfl (by kernel_rfl) (by decide) (by decide) (by decide) (fun K hK => ?_) (fun K hK => ?_) (fun K hK => ?_)
                       ·skip
                        refine value_ (w1 := ?_) (v := ?_) (by rfl) rfl ?_ ?_
                        rotate_left 2
                        ·go_simp
                         constructor
                         ·rfl
                         ·rfl
                        refine hK.out _ _ trivial (fun hHeld => ?_)
                        clear hK K
                        refine norm_ (a' := ?_) ?_ ?_
                        rotate_left
                        ·show Act.put _ (some 22) _ = _
                         simp only [Act.put, List.setIfInBounds_toArray, List.set_cons_zero, List.set_cons_succ, i64_w, i32_w]
                         rfl
                        exact norm_ (by first | (simp only [putAll, Act.put, List.setIfInBounds_toArray, List.set_cons_zero, List.set_cons_succ]; done) | (simp only [putAll, Act.put, List.setIfInBounds_toArray, List.set_cons_zero, List.set_cons_succ]; rfl)) (hJ1_4_13 ((A1, c1), wq.heap.size, g13) _ ⟨below_alloc HBq.out _, pool_made (enc := Value.int .i8) (d := (0 : Int)) [⟨32, .slice A1 l0.length c1, us0⟩] [⟨44, .slice (some ⟨g13, 0, none⟩) nn nn, f64s (List.replicate nn (0 : Nat))⟩] 38 (nn) HPq.out HBq.out.size HN.out⟩)
                       ·skip
                        refine value_ (w1 := ?_) (v := ?_) (by rfl) rfl ?_ ?_
                        rotate_left 2
                        ·go_simp
                         constructor
                         ·rfl
                         ·rfl
                        refine hK.out _ _ trivial (fun hHeld => ?_)
                        clear hK K
                        refine norm_ (a' := ?_) ?_ ?_
                        rotate_left
                        ·show Act.put _ (some 25) _ = _
                         simp only [Act.put, List.setIfInBounds_toArray, List.set_cons_zero, List.set_cons_succ, i64_w, i32_w]
                         rfl
                        exact norm_ (by first | (simp only [putAll, Act.put, List.setIfInBounds_toArray, List.set_cons_zero, List.set_cons_succ]; done) | (simp only [putAll, Act.put, List.setIfInBounds_toArray, List.set_cons_zero, List.set_cons_succ]; rfl)) (hJ1_7_13 ((A1, c1), wq.heap.size, g13) _ ⟨below_alloc HBq.out _, pool_made (enc := Value.int .i64) (d := (0 : Int)) [⟨32, .slice A1 l0.length c1, us0⟩] [⟨44, .slice (some ⟨g13, 0, none⟩) nn nn, f64s (List.replicate nn (0 : Nat))⟩] 3 (nn) HPq.out HBq.out.size HN.out⟩)
                       ·skip
                        refine value_ (w1 := ?_) (v := ?_) (by rfl) rfl ?_ ?_
                        rotate_left 2
                        ·go_simp
                         constructor
                         ·rfl
                         ·rfl
                        refine hK.out _ _ trivial (fun hHeld => ?_)
                        clear hK K
                        refine norm_ (a' := ?_) ?_ ?_
                        rotate_left
                        ·show Act.put _ (some 28) _ = _
                         simp only [Act.put, List.setIfInBounds_toArray, List.set_cons_zero, List.set_cons_succ, i64_w, i32_w]
                         rfl
                        exact norm_ (by first | (simp only [putAll, Act.put, List.setIfInBounds_toArray, List.set_cons_zero, List.set_cons_succ]; done) | (simp only [putAll, Act.put, List.setIfInBounds_toArray, List.set_cons_zero, List.set_cons_succ]; rfl)) (hJ1_10_13 ((A1, c1), wq.heap.size, g13) _ ⟨below_alloc HBq.out _, pool_made (enc := Value.int .i64) (d := (0 : Int)) [⟨32, .slice A1 l0.length c1, us0⟩] [⟨44, .slice (some ⟨g13, 0, none⟩) nn nn, f64s (List.replicate nn (0 : Nat))⟩] 3 (nn) HPq.out HBq.out.size HN.out⟩)
                     ·skip
                      rintro ⟨⟨A1, c1⟩, g10⟩ wq ⟨hB_, hP_⟩
                      have HBq := Aside0.mk hB_
                      have HPq := Aside0.mk hP_
                      clear hB_ hP_
                      have hHeld := trivial
                      refine norm_ (a' := ?_) ?_ ?_
                      rotate_left
                      ·simp only [putAll, Act.put, List.setIfInBounds_toArray, List.set_cons_zero, List.set_cons_succ]
                       rfl
                      refine three_ (i := 4) (j := 7) (k := 13) (Ni := some 22) (Nj := some 25) (Nk := some 31) #[true, true, true, true, true, true, true, false, true, true, true, true, true, false, false, false, false] #[true, true, true, true, false, true, true, true, true, true, true, true, true, false, false, false, false] #[true, true, true, true, false, true, true, false, true, true, true, true, true, true, false, false, false] rfl rfl rfl rfl rfl rfl (by kernel_rfl) (by decide) (by decide) (by decide) (fun K hK => ?_) (fun K hK => ?_) (fun K hK => ?_)
                      ·skip
                       refine value_ (w1 := ?_) (v := ?_) (by rfl) rfl ?_ ?_
                       rotate_left 2
                       ·go_simp
                        constructor
                        ·rfl
                        ·rfl
                       refine hK.out _ _ trivial (fun hHeld => ?_)
                       clear hK K
                       refine norm_ (a' := ?_) ?_ ?_
                       rotate_left
                       ·show Act.put _ (some 22) _ = _
                        simp only [Act.put, List.setIfInBounds_toArray, List.set_cons_zero, List.set_cons_succ, i64_w, i32_w]
                        rfl
                       exact norm_ (by first | (simp only [putAll, Act.put, List.setIfInBounds_toArray, List.set_cons_zero, List.set_cons_succ]; done) | (simp only [putAll, Act.put, List.setIfInBounds_toArray, List.set_cons_zero, List.set_cons_succ]; rfl)) (hJ1_4_10 ((A1, c1), wq.heap.size, g10) _ ⟨below_alloc HBq.out _, pool_made (enc := Value.int .i8) (d := (0 : Int)) [⟨32, .slice A1 l0.length c1, us0⟩] [⟨3, .slice (some ⟨g10, 0, none⟩) nn nn, i64s (List.replicate nn (0 : Int))⟩] 38 (nn) HPq.out HBq.out.size HN.out⟩)
                      ·skip
                       refine value_ (w1 := ?_) (v := ?_) (by rfl) rfl ?_ ?_
                       rotate_left 2
                       ·go_simp
                        constructor
                        ·rfl
                        ·rfl
                       refine hK.out _ _ trivial (fun hHeld => ?_)
                       clear hK K
                       refine norm_ (a' := ?_) ?_ ?_
                       rotate_left
                       ·show Act.put _ (some 25) _ = _
                        simp only [Act.put, List.setIfInBounds_toArray, List.set_cons_zero, List.set_cons_succ, i64_w, i32_w]
                        rfl
                       exact norm_ (by first | (simp only [putAll, Act.put, List.setIfInBounds_toArray, List.set_cons_zero, List.set_cons_succ]; done) | (simp only [putAll, Act.put, List.setIfInBounds_toArray, List.set_cons_zero, List.set_cons_succ]; rfl)) (hJ1_7_10 ((A1, c1), wq.heap.size, g10) _ ⟨below_alloc HBq.out _, pool_made (enc := Value.int .i64) (d := (0 : Int)) [⟨32, .slice A1 l0.length c1, us0⟩] [⟨3, .slice (some ⟨g10, 0, none⟩) nn nn, i64s (List.replicate nn (0 : Int))⟩] 3 (nn) HPq.out HBq.out.size HN.out⟩)
                      ·skip
                       refine value_ (w1 := ?_) (v := ?_) (by rfl) rfl ?_ ?_
                       rotate_left 2
                       ·go_simp
                        constructor
                        ·rfl
                        ·rfl
                       refine hK.out _ _ trivial (fun hHeld => ?_)
                       clear hK K
                       refine norm_ (a' := ?_) ?_ ?_
                       rotate_left
                       ·show Act.put _ (some 31) _ = _
                        simp only [Act.put, List.setIfInBounds_toArray, List.set_cons_zero, List.set_cons_succ, i64_w, i32_w]
                        rfl
                       exact norm_ (by first | (simp only [putAll, Act.put, List.setIfInBounds_toArray, List.set_cons_zero, List.set_cons_succ]; done) | (simp only [putAll, Act.put, List.setIfInBounds_toArray, List.set_cons_zero, List.set_cons_succ]; rfl)) (hJ1_10_13 ((A1, c1), g10, wq.heap.size) _ ⟨below_alloc HBq.out _, pool_made (enc := Value.float .f64) (d := (0 : Nat)) [⟨32, .slice A1 l0.length c1, us0⟩, ⟨3, .slice (some ⟨g10, 0, none⟩) nn nn, i64s (List.replicate nn (0 : Int))⟩] [] 44 (nn) HPq.out HBq.out.size HN.out⟩)
                    ·skip
                     rintro ⟨⟨A1, c1⟩, g7⟩ wq ⟨hB_, hP_⟩
                     have HBq := Aside0.mk hB_
                     have HPq := Aside0.mk hP_
                     clear hB_ hP_
                     have hHeld := trivial
                     refine norm_ (a' := ?_) ?_ ?_
                     rotate_left
                     ·simp only [putAll, Act.put, List.setIfInBounds_toArray, List.set_cons_zero, List.set_cons_succ]
                      rfl
                     refine three_ (i := 4) (j := 10) (k := 13) (Ni := some 22) (Nj := some 28) (Nk := some 31) #[true, true, true, true, true, true, true, true, true, true, false, true, true, false, false, false, false] #[true, true, true, true, false, true, true, true, true, true, true, true, true, false, false, false, false] #[true, true, true, true, false, true, true, true, true, true, false, true, true, true, false, false, false] rfl rfl rfl rfl rfl rfl (by kernel_rfl) (by decide) (by decide) (by decide) (fun K hK => ?_) (fun K hK => ?_) (fun K hK => ?_)
                     ·skip
                      refine value_ (w1 := ?_) (v := ?_) (by rfl) rfl ?_ ?_
                      rotate_left 2
                      ·go_simp
                       constructor
                       ·rfl
                       ·rfl
                      refine hK.out _ _ trivial (fun hHeld => ?_)
                      clear hK K
                      refine norm_ (a' := ?_) ?_ ?_
                      rotate_left
                      ·show Act.put _ (some 22) _ = _
                       simp only [Act.put, List.setIfInBounds_toArray, List.set_cons_zero, List.set_cons_succ, i64_w, i32_w]
                       rfl
                      exact norm_ (by first | (simp only [putAll, Act.put, List.setIfInBounds_toArray, List.set_cons_zero, List.set_cons_succ]; done) | (simp only [putAll, Act.put, List.setIfInBounds_toArray, List.set_cons_zero, List.set_cons_succ]; rfl)) (hJ1_4_7 ((A1, c1), wq.heap.size, g7) _ ⟨below_alloc HBq.out _, pool_made (enc := Value.int .i8) (d := (0 : Int)) [⟨32, .slice A1 l0.length c1, us0⟩] [⟨3, .slice (some ⟨g7, 0, none⟩) nn nn, i64s (List.replicate nn (0 : Int))⟩] 38 (nn) HPq.out HBq.out.size HN.out⟩)
                     ·skip
                      refine value_ (w1 := ?_) (v := ?_) (by rfl) rfl ?_ ?_
                      rotate_left 2
                      ·go_simp
                       constructor
                       ·rfl
                       ·rfl
                      refine hK.out _ _ trivial (fun hHeld => ?_)
                      clear hK K
                      refine norm_ (a' := ?_) ?_ ?_
                      rotate_left
                      ·show Act.put _ (some 28) _ = _
                       simp only [Act.put, List.setIfInBounds_toArray, List.set_cons_zero, List.set_cons_succ, i64_w, i32_w]
                       rfl
                      exact norm_ (by first | (simp only [putAll, Act.put, List.setIfInBounds_toArray, List.set_cons_zero, List.set_cons_succ]; done) | (simp only [putAll, Act.put, List.setIfInBounds_toArray, List.set_cons_zero, List.set_cons_succ]; rfl)) (hJ1_7_10 ((A1, c1), g7, wq.heap.size) _ ⟨below_alloc HBq.out _, pool_made (enc := Value.int .i64) (d := (0 : Int)) [⟨32, .slice A1 l0.length c1, us0⟩, ⟨3, .slice (some ⟨g7, 0, none⟩) nn nn, i64s (List.replicate nn (0 : Int))⟩] [] 3 (nn) HPq.out HBq.out.size HN.out⟩)
                     ·skip
                      refine value_ (w1 := ?_) (v := ?_) (by rfl) rfl ?_ ?_
                      rotate_left 2
                      ·go_simp
                       constructor
                       ·rfl
                       ·rfl
                      refine hK.out _ _ trivial (fun hHeld => ?_)
                      clear hK K
                      refine norm_ (a' := ?_) ?_ ?_
                      rotate_left
                      ·show Act.put _ (some 31) _ = _
                       simp only [Act.put, List.setIfInBounds_toArray, List.set_cons_zero, List.set_cons_succ, i64_w, i32_w]
                       rfl
                      exact norm_ (by first | (simp only [putAll, Act.put, List.setIfInBounds_toArray, List.set_cons_zero, List.set_cons_succ]; done) | (simp only [putAll, Act.put, List.setIfInBounds_toArray, List.set_cons_zero, List.set_cons_succ]; rfl)) (hJ1_7_13 ((A1, c1), g7, wq.heap.size) _ ⟨below_alloc HBq.out _, pool_made (enc := Value.float .f64) (d := (0 : Nat)) [⟨32, .slice A1 l0.length c1, us0⟩, ⟨3, .slice (some ⟨g7, 0, none⟩) nn nn, i64s (List.replicate nn (0 : Int))⟩] [] 44 (nn) HPq.out HBq.out.size HN.out⟩)
                   ·skip
                    rintro ⟨⟨A1, c1⟩, g4⟩ wq ⟨hB_, hP_⟩
                    have HBq := Aside0.mk hB_
                    have HPq := Aside0.mk hP_
                    clear hB_ hP_
                    have hHeld := trivial
                    refine norm_ (a' := ?_) ?_ ?_
                    rotate_left
                    ·simp only [putAll, Act.put, List.setIfInBounds_toArray, List.set_cons_zero, List.set_cons_succ]
                     rfl
                    refine three_ (i := 7) (j := 10) (k := 13) (Ni := some 25) (Nj := some 28) (Nk := some 31) #[true, true, true, true, true, true, true, true, true, true, false, true, true, false, false, false, false] #[true, true, true, true, true, true, true, false, true, true, true, true, true, false, false, false, false] #[true, true, true, true, true, true, true, false, true, true, false, true, true, true, false, false, false] rfl rfl rfl rfl rfl rfl (by kernel_rfl) (by decide) (by decide) (by decide) (fun K hK => ?_) (fun K hK => ?_) (fun K hK => ?_)
                    ·skip
                     refine value_ (w1 := ?_) (v := ?_) (by rfl) rfl ?_ ?_
                     rotate_left 2
                     ·go_simp
                      constructor
                      ·rfl
                      ·rfl
                     refine hK.out _ _ trivial (fun hHeld => ?_)
                     clear hK K
                     refine norm_ (a' := ?_) ?_ ?_
                     rotate_left
                     ·show Act.put _ (some 25) _ = _
                      simp only [Act.put, List.setIfInBounds_toArray, List.set_cons_zero, List.set_cons_succ, i64_w, i32_w]
                      rfl
                     exact norm_ (by first | (simp only [putAll, Act.put, List.setIfInBounds_toArray, List.set_cons_zero, List.set_cons_succ]; done) | (simp only [putAll, Act.put, List.setIfInBounds_toArray, List.set_cons_zero, List.set_cons_succ]; rfl)) (hJ1_4_7 ((A1, c1), g4, wq.heap.size) _ ⟨below_alloc HBq.out _, pool_made (enc := Value.int .i64) (d := (0 : Int)) [⟨32, .slice A1 l0.length c1, us0⟩, ⟨38, .slice (some ⟨g4, 0, none⟩) nn nn, i8s (List.replicate nn (0 : Int))⟩] [] 3 (nn) HPq.out HBq.out.size HN.out⟩)
                    ·skip
                     refine value_ (w1 := ?_) (v := ?_) (by rfl) rfl ?_ ?_
                     rotate_left 2
                     ·go_simp
                      constructor
                      ·rfl
                      ·rfl
                     refine hK.out _ _ trivial (fun hHeld => ?_)
                     clear hK K
                     refine norm_ (a' := ?_) ?_ ?_
                     rotate_left
                     ·show Act.put _ (some 28) _ = _
                      simp only [Act.put, List.setIfInBounds_toArray, List.set_cons_zero, List.set_cons_succ, i64_w, i32_w]
                      rfl
                     exact norm_ (by first | (simp only [putAll, Act.put, List.setIfInBounds_toArray, List.set_cons_zero, List.set_cons_succ]; done) | (simp only [putAll, Act.put, List.setIfInBounds_toArray, List.set_cons_zero, List.set_cons_succ]; rfl)) (hJ1_4_10 ((A1, c1), g4, wq.heap.size) _ ⟨below_alloc HBq.out _, pool_made (enc := Value.int .i64) (d := (0 : Int)) [⟨32, .slice A1 l0.length c1, us0⟩, ⟨38, .slice (some ⟨g4, 0, none⟩) nn nn, i8s (List.replicate nn (0 : Int))⟩] [] 3 (nn) HPq.out HBq.out.size HN.out⟩)
                    ·skip
                     refine value_ (w1 := ?_) (v := ?_) (by rfl) rfl ?_ ?_
                     rotate_left 2
                     ·go_simp
                      constructor
                      ·rfl
                      ·rfl
                     refine hK.out _ _ trivial (fun hHeld => ?_)
                     clear hK K
                     refine norm_ (a' := ?_) ?_ ?_
                     rotate_left
                     ·show Act.put _ (some 31) _ = _
                      simp only [Act.put, List.setIfInBounds_toArray, List.set_cons_zero, List.set_cons_succ, i64_w, i32_w]
                      rfl
                     exact norm_ (by first | (simp only [putAll, Act.put, List.setIfInBounds_toArray, List.set_cons_zero, List.set_cons_succ]; done) | (simp only [putAll, Act.put, List.setIfInBounds_toArray, List.set_cons_zero, List.set_cons_succ]; rfl)) (hJ1_4_13 ((A1, c1), g4, wq.heap.size) _ ⟨below_alloc HBq.out _, pool_made (enc := Value.float .f64) (d := (0 : Nat)) [⟨32, .slice A1 l0.length c1, us0⟩, ⟨38, .slice (some ⟨g4, 0, none⟩) nn nn, i8s (List.replicate nn (0 : Int))⟩] [] 44 (nn) HPq.out HBq.out.size HN.out⟩)
                  ·skip
                   rintro ⟨g7, g10, g13⟩ wq ⟨hB_, hP_⟩
                   have HBq := Aside0.mk hB_
                   have HPq := Aside0.mk hP_
                   clear hB_ hP_
                   have hHeld := trivial
                   refine norm_ (a' := ?_) ?_ ?_
                   rotate_left
                   ·simp only [putAll, Act.put, List.setIfInBounds_toArray, List.set_cons_zero, List.set_cons_succ]
                    rfl
                   refine two_ (i := 1) (j := 4) (Ni := some 19) (Nj := some 22) #[true, true, true, true, false, true, true, true, true, true, true, true, true, true, false, false, false] #[true, false, true, true, true, true, true, true, true, true, true, true, true, true, false, false, false] rfl rfl rfl rfl (by kernel_rfl) (by decide) (by decide) (fun K hK => ?_) (fun K hK => ?_)
                   ·skip
                    refine goes_ Try.func22 (by kernel_rfl) rfl #[.slice A0 l0.length c0] (by rfl) rfl rfl (by simp only [List.map_toArray, List.map_cons, List.map_nil]; rfl) ?_
                    with_reducible refine (clone22r A0 c0 l0.length us0 _ (rawread_below HRR.out HBq.out) HLL.out).mono ?_
                    rintro e w3 ⟨A1, c1, rfl, ho1, hb1⟩
                    refine ⟨_, rfl, ?_⟩
                    refine hK.out _ _ trivial (fun hHeld => ?_)
                    clear hK K
                    refine norm_ (a' := ?_) ?_ ?_
                    rotate_left
                    ·show Act.put _ (some 19) _ = _
                     simp only [Act.put, List.setIfInBounds_toArray, List.set_cons_zero, List.set_cons_succ, i64_w, i32_w]
                     rfl
                    exact norm_ (by first | (simp only [putAll, Act.put, List.setIfInBounds_toArray, List.set_cons_zero, List.set_cons_succ]; done) | (simp only [putAll, Act.put, List.setIfInBounds_toArray, List.set_cons_zero, List.set_cons_succ]; rfl)) (hJ1_7_10_13 ((A1, c1), g7, g10, g13) _ ⟨below_step HBq.out hb1, pool_new [] [⟨3, .slice (some ⟨g7, 0, none⟩) nn nn, i64s (List.replicate nn (0 : Int))⟩, ⟨3, .slice (some ⟨g10, 0, none⟩) nn nn, i64s (List.replicate nn (0 : Int))⟩, ⟨44, .slice (some ⟨g13, 0, none⟩) nn nn, f64s (List.replicate nn (0 : Nat))⟩] HPq.out hb1 HBq.out.size ho1⟩)
                   ·skip
                    refine value_ (w1 := ?_) (v := ?_) (by rfl) rfl ?_ ?_
                    rotate_left 2
                    ·go_simp
                     constructor
                     ·rfl
                     ·rfl
                    refine hK.out _ _ trivial (fun hHeld => ?_)
                    clear hK K
                    refine norm_ (a' := ?_) ?_ ?_
                    rotate_left
                    ·show Act.put _ (some 22) _ = _
                     simp only [Act.put, List.setIfInBounds_toArray, List.set_cons_zero, List.set_cons_succ, i64_w, i32_w]
                     rfl
                    exact norm_ (by first | (simp only [putAll, Act.put, List.setIfInBounds_toArray, List.set_cons_zero, List.set_cons_succ]; done) | (simp only [putAll, Act.put, List.setIfInBounds_toArray, List.set_cons_zero, List.set_cons_succ]; rfl)) (hJ4_7_10_13 (wq.heap.size, g7, g10, g13) _ ⟨below_alloc HBq.out _, pool_made (enc := Value.int .i8) (d := (0 : Int)) [] [⟨3, .slice (some ⟨g7, 0, none⟩) nn nn, i64s (List.replicate nn (0 : Int))⟩, ⟨3, .slice (some ⟨g10, 0, none⟩) nn nn, i64s (List.replicate nn (0 : Int))⟩, ⟨44, .slice (some ⟨g13, 0, none⟩) nn nn, f64s (List.replicate nn (0 : Nat))⟩] 38 (nn) HPq.out HBq.out.size HN.out⟩)
                 ·skip
                  rintro ⟨g4, g10, g13⟩ wq ⟨hB_, hP_⟩
                  have HBq := Aside0.mk hB_
                  have HPq := Aside0.mk hP_
                  clear hB_ hP_
                  have hHeld := trivial
                  refine norm_ (a' := ?_) ?_ ?_
                  rotate_left
                  ·simp only [putAll, Act.put, List.setIfInBounds_toArray, List.set_cons_zero, List.set_cons_succ]
                   rfl
                  refine two_ (i := 1) (j := 7) (Ni := some 19) (Nj := some 25) #[true, true, true, true, true, true, true, false, true, true, true, true, true, true, false, false, false] #[true, false, true, true, true, true, true, true, true, true, true, true, true, true, false, false, false] rfl rfl rfl rfl (by kernel_rfl) (by decide) (by decide) (fun K hK => ?_) (fun K hK => ?_)
                  ·skip
                   refine goes_ Try.func22 (by kernel_rfl) rfl #[.slice A0 l0.length c0] (by rfl) rfl rfl (by simp only [List.map_toArray, List.map_cons, List.map_nil]; rfl) ?_
                   with_reducible refine (clone22r A0 c0 l0.length us0 _ (rawread_below HRR.out HBq.out) HLL.out).mono ?_
                   rintro e w3 ⟨A1, c1, rfl, ho1, hb1⟩
                   refine ⟨_, rfl, ?_⟩
                   refine hK.out _ _ trivial (fun hHeld => ?_)
                   clear hK K
                   refine norm_ (a' := ?_) ?_ ?_
                   rotate_left
                   ·show Act.put _ (some 19) _ = _
                    simp only [Act.put, List.setIfInBounds_toArray, List.set_cons_zero, List.set_cons_succ, i64_w, i32_w]
                    rfl
                   exact norm_ (by first | (simp only [putAll, Act.put, List.setIfInBounds_toArray, List.set_cons_zero, List.set_cons_succ]; done) | (simp only [putAll, Act.put, List.setIfInBounds_toArray, List.set_cons_zero, List.set_cons_succ]; rfl)) (hJ1_4_10_13 ((A1, c1), g4, g10, g13) _ ⟨below_step HBq.out hb1, pool_new [] [⟨38, .slice (some ⟨g4, 0, none⟩) nn nn, i8s (List.replicate nn (0 : Int))⟩, ⟨3, .slice (some ⟨g10, 0, none⟩) nn nn, i64s (List.replicate nn (0 : Int))⟩, ⟨44, .slice (some ⟨g13, 0, none⟩) nn nn, f64s (List.replicate nn (0 : Nat))⟩] HPq.out hb1 HBq.out.size ho1⟩)
                  ·skip
                   refine value_ (w1 := ?_) (v := ?_) (by rfl) rfl ?_ ?_
                   rotate_left 2
                   ·go_simp
                    constructor
                    ·rfl
                    ·rfl
                   refine hK.out _ _ trivial (fun hHeld => ?_)
                   clear hK K
                   refine norm_ (a' := ?_) ?_ ?_
                   rotate_left
                   ·show Act.put _ (some 25) _ = _
                    simp only [Act.put, List.setIfInBounds_toArray, List.set_cons_zero, List.set_cons_succ, i64_w, i32_w]
                    rfl
                   exact norm_ (by first | (simp only [putAll, Act.put, List.setIfInBounds_toArray, List.set_cons_zero, List.set_cons_succ]; done) | (simp only [putAll, Act.put, List.setIfInBounds_toArray, List.set_cons_zero, List.set_cons_succ]; rfl)) (hJ4_7_10_13 (g4, wq.heap.size, g10, g13) _ ⟨below_alloc HBq.out _, pool_made (enc := Value.int .i64) (d := (0 : Int)) [⟨38, .slice (some ⟨g4, 0, none⟩) nn nn, i8s (List.replicate nn (0 : Int))⟩] [⟨3, .slice (some ⟨g10, 0, none⟩) nn nn, i64s (List.replicate nn (0 : Int))⟩, ⟨44, .slice (some ⟨g13, 0, none⟩) nn nn, f64s (List.replicate nn (0 : Nat))⟩] 3 (nn) HPq.out HBq.out.size HN.out⟩)
                ·skip
                 rintro ⟨g4, g7, g13⟩ wq ⟨hB_, hP_⟩
                 have HBq := Aside0.mk hB_
                 have HPq := Aside0.mk hP_
                 clear hB_ hP_
                 have hHeld := trivial
                 refine norm_ (a' := ?_) ?_ ?_
                 rotate_left
                 ·simp only [putAll, Act.put, List.setIfInBounds_toArray, List.set_cons_zero, List.set_cons_succ]
                  rfl
                 refine two_ (i := 1) (j := 10) (Ni := some 19) (Nj := some 28) #[true, true, true, true, true, true, true, true, true, true, false, true, true, true, false, false, false] #[true, false, true, true, true, true, true, true, true, true, true, true, true, true, false, false, false] rfl rfl rfl rfl (by kernel_rfl) (by decide) (by decide) (fun K hK => ?_) (fun K hK => ?_)
                 ·skip
                  refine goes_ Try.func22 (by kernel_rfl) rfl #[.slice A0 l0.length c0] (by rfl) rfl rfl (by simp only [List.map_toArray, List.map_cons, List.map_nil]; rfl) ?_
                  with_reducible refine (clone22r A0 c0 l0.length us0 _ (rawread_below HRR.out HBq.out) HLL.out).mono ?_
                  rintro e w3 ⟨A1, c1, rfl, ho1, hb1⟩
                  refine ⟨_, rfl, ?_⟩
                  refine hK.out _ _ trivial (fun hHeld => ?_)
                  clear hK K
                  refine norm_ (a' := ?_) ?_ ?_
                  rotate_left
                  ·show Act.put _ (some 19) _ = _
                   simp only [Act.put, List.setIfInBounds_toArray, List.set_cons_zero, List.set_cons_succ, i64_w, i32_w]
                   rfl
                  exact norm_ (by first | (simp only [putAll, Act.put, List.setIfInBounds_toArray, List.set_cons_zero, List.set_cons_succ]; done) | (simp only [putAll, Act.put, List.setIfInBounds_toArray, List.set_cons_zero, List.set_cons_succ]; rfl)) (hJ1_4_7_13 ((A1, c1), g4, g7, g13) _ ⟨below_step HBq.out hb1, pool_new [] [⟨38, .slice (some ⟨g4, 0, none⟩) nn nn, i8s (List.replicate nn (0 : Int))⟩, ⟨3, .slice (some ⟨g7, 0, none⟩) nn nn, i64s (List.replicate nn (0 : Int))⟩, ⟨44, .slice (some ⟨g13, 0, none⟩) nn nn, f64s (List.replicate nn (0 : Nat))⟩] HPq.out hb1 HBq.out.size ho1⟩)
                 ·skip
                  refine value_ (w1 := ?_) (v := ?_) (by rfl) rfl ?_ ?_
                  rotate_left 2
                  ·go_simp
                   constructor
                   ·rfl
                   ·rfl
                  refine hK.out _ _ trivial (fun hHeld => ?_)
                  clear hK K
                  refine norm_ (a' := ?_) ?_ ?_
                  rotate_left
                  ·show Act.put _ (some 28) _ = _
                   simp only [Act.put, List.setIfInBounds_toArray, List.set_cons_zero, List.set_cons_succ, i64_w, i32_w]
                   rfl
                  exact norm_ (by first | (simp only [putAll, Act.put, List.setIfInBounds_toArray, List.set_cons_zero, List.set_cons_succ]; done) | (simp only [putAll, Act.put, List.setIfInBounds_toArray, List.set_cons_zero, List.set_cons_succ]; rfl)) (hJ4_7_10_13 (g4, g7, wq.heap.size, g13) _ ⟨below_alloc HBq.out _, pool_made (enc := Value.int .i64) (d := (0 : Int)) [⟨38, .slice (some ⟨g4, 0, none⟩) nn nn, i8s (List.replicate nn (0 : Int))⟩, ⟨3, .slice (some ⟨g7, 0, none⟩) nn nn, i64s (List.replicate nn (0 : Int))⟩] [⟨44, .slice (some ⟨g13, 0, none⟩) nn nn, f64s (List.replicate nn (0 : Nat))⟩] 3 (nn) HPq.out HBq.out.size HN.out⟩)
               ·skip
                rintro ⟨g4, g7, g10⟩ wq ⟨hB_, hP_⟩
                have HBq := Aside0.mk hB_
                have HPq := Aside0.mk hP_
                clear hB_ hP_
                have hHeld := trivial
                refine norm_ (a' := ?_) ?_ ?_
                rotate_left
                ·simp only [putAll, Act.put, List.setIfInBounds_toArray, List.set_cons_zero, List.set_cons_succ]
                 rfl
                refine two_ (i := 1) (j := 13) (Ni := some 19) (Nj := some 31) #[true, true, true, true, true, true, true, true, true, true, true, true, true, false, false, false, false] #[true, false, true, true, true, true, true, true, true, true, true, true, true, true, false, false, false] rfl rfl rfl rfl (by kernel_rfl) (by decide) (by decide) (fun K hK => ?_) (fun K hK => ?_)
                ·skip
                 refine goes_ Try.func22 (by kernel_rfl) rfl #[.slice A0 l0.length c0] (by rfl) rfl rfl (by simp only [List.map_toArray, List.map_cons, List.map_nil]; rfl) ?_
                 with_reducible refine (clone22r A0 c0 l0.length us0 _ (rawread_below HRR.out HBq.out) HLL.out).mono ?_
                 rintro e w3 ⟨A1, c1, rfl, ho1, hb1⟩
                 refine ⟨_, rfl, ?_⟩
                 refine hK.out _ _ trivial (fun hHeld => ?_)
                 clear hK K
                 refine norm_ (a' := ?_) ?_ ?_
                 rotate_left
                 ·show Act.put _ (some 19) _ = _
                  simp only [Act.put, List.setIfInBounds_toArray, List.set_cons_zero, List.set_cons_succ, i64_w, i32_w]
                  rfl
                 exact norm_ (by first | (simp only [putAll, Act.put, List.setIfInBounds_toArray, List.set_cons_zero, List.set_cons_succ]; done) | (simp only [putAll, Act.put, List.setIfInBounds_toArray, List.set_cons_zero, List.set_cons_succ]; rfl)) (hJ1_4_7_10 ((A1, c1), g4, g7, g10) _ ⟨below_step HBq.out hb1, pool_new [] [⟨38, .slice (some ⟨g4, 0, none⟩) nn nn, i8s (List.replicate nn (0 : Int))⟩, ⟨3, .slice (some ⟨g7, 0, none⟩) nn nn, i64s (List.replicate nn (0 : Int))⟩, ⟨3, .slice (some ⟨g10, 0, none⟩) nn nn, i64s (List.replicate nn (0 : Int))⟩] HPq.out hb1 HBq.out.size ho1⟩)
                ·skip
                 refine value_ (w1 := ?_) (v := ?_) (by rfl) rfl ?_ ?_
                 rotate_left 2
                 ·go_simp
                  constructor
                  ·rfl
                  ·rfl
                 refine hK.out _ _ trivial (fun hHeld => ?_)
                 clear hK K
                 refine norm_ (a' := ?_) ?_ ?_
                 rotate_left
                 ·show Act.put _ (some 31) _ = _
                  simp only [Act.put, List.setIfInBounds_toArray, List.set_cons_zero, List.set_cons_succ, i64_w, i32_w]
                  rfl
                 exact norm_ (by first | (simp only [putAll, Act.put, List.setIfInBounds_toArray, List.set_cons_zero, List.set_cons_succ]; done) | (simp only [putAll, Act.put, List.setIfInBounds_toArray, List.set_cons_zero, List.set_cons_succ]; rfl)) (hJ4_7_10_13 (g4, g7, g10, wq.heap.size) _ ⟨below_alloc HBq.out _, pool_made (enc := Value.float .f64) (d := (0 : Nat)) [⟨38, .slice (some ⟨g4, 0, none⟩) nn nn, i8s (List.replicate nn (0 : Int))⟩, ⟨3, .slice (some ⟨g7, 0, none⟩) nn nn, i64s (List.replicate nn (0 : Int))⟩, ⟨3, .slice (some ⟨g10, 0, none⟩) nn nn, i64s (List.replicate nn (0 : Int))⟩] [] 44 (nn) HPq.out HBq.out.size HN.out⟩)
              ·skip
               rintro ⟨⟨A1, c1⟩, g10, g13⟩ wq ⟨hB_, hP_⟩
               have HBq := Aside0.mk hB_
               have HPq := Aside0.mk hP_
               clear hB_ hP_
               have hHeld := trivial
               refine norm_ (a' := ?_) ?_ ?_
               rotate_left
               ·simp only [putAll, Act.put, List.setIfInBounds_toArray, List.set_cons_zero, List.set_cons_succ]
                rfl
               refine two_ (i := 4) (j := 7) (Ni := some 22) (Nj := some 25) #[true, true, true, true, true, true, true, false, true, true, true, true, true, true, false, false, false] #[true, true, true, true, false, true, true, true, true, true, true, true, true, true, false, false, false] rfl rfl rfl rfl (by kernel_rfl) (by decide) (by decide) (fun K hK => ?_) (fun K hK => ?_)
               ·skip
                refine value_ (w1 := ?_) (v := ?_) (by rfl) rfl ?_ ?_
                rotate_left 2
                ·go_simp
                 constructor
                 ·rfl
                 ·rfl
                refine hK.out _ _ trivial (fun hHeld => ?_)
                clear hK K
                refine norm_ (a' := ?_) ?_ ?_
                rotate_left
                ·show Act.put _ (some 22) _ = _
                 simp only [Act.put, List.setIfInBounds_toArray, List.set_cons_zero, List.set_cons_succ, i64_w, i32_w]
                 rfl
                exact norm_ (by first | (simp only [putAll, Act.put, List.setIfInBounds_toArray, List.set_cons_zero, List.set_cons_succ]; done) | (simp only [putAll, Act.put, List.setIfInBounds_toArray, List.set_cons_zero, List.set_cons_succ]; rfl)) (hJ1_4_10_13 ((A1, c1), wq.heap.size, g10, g13) _ ⟨below_alloc HBq.out _, pool_made (enc := Value.int .i8) (d := (0 : Int)) [⟨32, .slice A1 l0.length c1, us0⟩] [⟨3, .slice (some ⟨g10, 0, none⟩) nn nn, i64s (List.replicate nn (0 : Int))⟩, ⟨44, .slice (some ⟨g13, 0, none⟩) nn nn, f64s (List.replicate nn (0 : Nat))⟩] 38 (nn) HPq.out HBq.out.size HN.out⟩)
               ·skip
                refine value_ (w1 := ?_) (v := ?_) (by rfl) rfl ?_ ?_
                rotate_left 2
                ·go_simp
                 constructor
                 ·rfl
                 ·rfl
                refine hK.out _ _ trivial (fun hHeld => ?_)
                clear hK K
                refine norm_ (a' := ?_) ?_ ?_
                rotate_left
                ·show Act.put _ (some 25) _ = _
                 simp only [Act.put, List.setIfInBounds_toArray, List.set_cons_zero, List.set_cons_succ, i64_w, i32_w]
                 rfl
                exact norm_ (by first | (simp only [putAll, Act.put, List.setIfInBounds_toArray, List.set_cons_zero, List.set_cons_succ]; done) | (simp only [putAll, Act.put, List.setIfInBounds_toArray, List.set_cons_zero, List.set_cons_succ]; rfl)) (hJ1_7_10_13 ((A1, c1), wq.heap.size, g10, g13) _ ⟨below_alloc HBq.out _, pool_made (enc := Value.int .i64) (d := (0 : Int)) [⟨32, .slice A1 l0.length c1, us0⟩] [⟨3, .slice (some ⟨g10, 0, none⟩) nn nn, i64s (List.replicate nn (0 : Int))⟩, ⟨44, .slice (some ⟨g13, 0, none⟩) nn nn, f64s (List.replicate nn (0 : Nat))⟩] 3 (nn) HPq.out HBq.out.size HN.out⟩)
             ·skip
              rintro ⟨⟨A1, c1⟩, g7, g13⟩ wq ⟨hB_, hP_⟩
              have HBq := Aside0.mk hB_
              have HPq := Aside0.mk hP_
              clear hB_ hP_
              have hHeld := trivial
              refine norm_ (a' := ?_) ?_ ?_
              rotate_left
              ·simp only [putAll, Act.put, List.setIfInBounds_toArray, List.set_cons_zero, List.set_cons_succ]
               rfl
              refine two_ (i := 4) (j := 10) (Ni := some 22) (Nj := some 28) #[true, true, true, true, true, true, true, true, true, true, false, true, true, true, false, false, false] #[true, true, true, true, false, true, true, true, true, true, true, true, true, true, false, false, false] rfl rfl rfl rfl (by kernel_rfl) (by decide) (by decide) (fun K hK => ?_) (fun K hK => ?_)
              ·skip
               refine value_ (w1 := ?_) (v := ?_) (by rfl) rfl ?_ ?_
               rotate_left 2
               ·go_simp
                constructor
                ·rfl
                ·rfl
               refine hK.out _ _ trivial (fun hHeld => ?_)
               clear hK K
               refine norm_ (a' := ?_) ?_ ?_
               rotate_left
               ·show Act.put _ (some 22) _ = _
                simp only [Act.put, List.setIfInBounds_toArray, List.set_cons_zero, List.set_cons_succ, i64_w, i32_w]
                rfl
               exact norm_ (by first | (simp only [putAll, Act.put, List.setIfInBounds_toArray, List.set_cons_zero, List.set_cons_succ]; done) | (simp only [putAll, Act.put, List.setIfInBounds_toArray, List.set_cons_zero, List.set_cons_succ]; rfl)) (hJ1_4_7_13 ((A1, c1), wq.heap.size, g7, g13) _ ⟨below_alloc HBq.out _, pool_made (enc := Value.int .i8) (d := (0 : Int)) [⟨32, .slice A1 l0.length c1, us0⟩] [⟨3, .slice (some ⟨g7, 0, none⟩) nn nn, i64s (List.replicate nn (0 : Int))⟩, ⟨44, .slice (some ⟨g13, 0, none⟩) nn nn, f64s (List.replicate nn (0 : Nat))⟩] 38 (nn) HPq.out HBq.out.size HN.out⟩)
              ·skip
               refine value_ (w1 := ?_) (v := ?_) (by rfl) rfl ?_ ?_
               rotate_left 2
               ·go_simp
                constructor
                ·rfl
                ·rfl
               refine hK.out _ _ trivial (fun hHeld => ?_)
               clear hK K
               refine norm_ (a' := ?_) ?_ ?_
               rotate_left
               ·show Act.put _ (some 28) _ = _
                simp only [Act.put, List.setIfInBounds_toArray, List.set_cons_zero, List.set_cons_succ, i64_w, i32_w]
                rfl
               exact norm_ (by first | (simp only [putAll, Act.put, List.setIfInBounds_toArray, List.set_cons_zero, List.set_cons_succ]; done) | (simp only [putAll, Act.put, List.setIfInBounds_toArray, List.set_cons_zero, List.set_cons_succ]; rfl)) (hJ1_7_10_13 ((A1, c1), g7, wq.heap.size, g13) _ ⟨below_alloc HBq.out _, pool_made (enc := Value.int .i64) (d := (0 : Int)) [⟨32, .slice A1 l0.length c1, us0⟩, ⟨3, .slice (some ⟨g7, 0, none⟩) nn nn, i64s (List.replicate nn (0 : Int))⟩] [⟨44, .slice (some ⟨g13, 0, none⟩) nn nn, f64s (List.replicate nn (0 : Nat))⟩] 3 (nn) HPq.out HBq.out.size HN.out⟩)
            ·skip
             rintro ⟨⟨A1, c1⟩, g7, g10⟩ wq ⟨hB_, hP_⟩
             have HBq := Aside0.mk hB_
             have HPq := Aside0.mk hP_
             clear hB_ hP_
             have hHeld := trivial
             refine norm_ (a' := ?_) ?_ ?_
             rotate_left
             ·simp only [putAll, Act.put, List.setIfInBounds_toArray, List.set_cons_zero, List.set_cons_succ]
              rfl
             refine two_ (i := 4) (j := 13) (Ni := some 22) (Nj := some 31) #[true, true, true, true, true, true, true, true, true, true, true, true, true, false, false, false, false] #[true, true, true, true, false, true, true, true, true, true, true, true, true, true, false, false, false] rfl rfl rfl rfl (by kernel_rfl) (by decide) (by decide) (fun K hK => ?_) (fun K hK => ?_)
             ·skip
              refine value_ (w1 := ?_) (v := ?_) (by rfl) rfl ?_ ?_
              rotate_left 2
              ·go_simp
               constructor
               ·rfl
               ·rfl
              refine hK.out _ _ trivial (fun hHeld => ?_)
              clear hK K
              refine norm_ (a' := ?_) ?_ ?_
              rotate_left
              ·show Act.put _ (some 22) _ = _
               simp only [Act.put, List.setIfInBounds_toArray, List.set_cons_zero, List.set_cons_succ, i64_w, i32_w]
               rfl
              exact norm_ (by first | (simp only [putAll, Act.put, List.setIfInBounds_toArray, List.set_cons_zero, List.set_cons_succ]; done) | (simp only [putAll, Act.put, List.setIfInBounds_toArray, List.set_cons_zero, List.set_cons_succ]; rfl)) (hJ1_4_7_10 ((A1, c1), wq.heap.size, g7, g10) _ ⟨below_alloc HBq.out _, pool_made (enc := Value.int .i8) (d := (0 : Int)) [⟨32, .slice A1 l0.length c1, us0⟩] [⟨3, .slice (some ⟨g7, 0, none⟩) nn nn, i64s (List.replicate nn (0 : Int))⟩, ⟨3, .slice (some ⟨g10, 0, none⟩) nn nn, i64s (List.replicate nn (0 : Int))⟩] 38 (nn) HPq.out HBq.out.size HN.out⟩)
             ·skip
              refine value_ (w1 := ?_) (v := ?_) (by rfl) rfl ?_ ?_
              rotate_left 2
              ·go_simp
               constructor
               ·rfl
               ·rfl
              refine hK.out _ _ trivial (fun hHeld => ?_)
              clear hK K
              refine norm_ (a' := ?_) ?_ ?_
              rotate_left
              ·show Act.put _ (some 31) _ = _
               simp only [Act.put, List.setIfInBounds_toArray, List.set_cons_zero, List.set_cons_succ, i64_w, i32_w]
               rfl
              exact norm_ (by first | (simp only [putAll, Act.put, List.setIfInBounds_toArray, List.set_cons_zero, List.set_cons_succ]; done) | (simp only [putAll, Act.put, List.setIfInBounds_toArray, List.set_cons_zero, List.set_cons_succ]; rfl)) (hJ1_7_10_13 ((A1, c1), g7, g10, wq.heap.size) _ ⟨below_alloc HBq.out _, pool_made (enc := Value.float .f64) (d := (0 : Nat)) [⟨32, .slice A1 l0.length c1, us0⟩, ⟨3, .slice (some ⟨g7, 0, none⟩) nn nn, i64s (List.replicate nn (0 : Int))⟩, ⟨3, .slice (some ⟨g10, 0, none⟩) nn nn, i64s (List.replicate nn (0 : Int))⟩] [] 44 (nn) HPq.out HBq.out.size HN.out⟩)
           ·skip
            rintro ⟨⟨A1, c1⟩, g4, g13⟩ wq ⟨hB_, hP_⟩
            have HBq := Aside0.mk hB_
            have HPq := Aside0.mk hP_
            clear hB_ hP_
            have hHeld := trivial
            refine norm_ (a' := ?_) ?_ ?_
            rotate_left
            ·simp only [putAll, Act.put, List.setIfInBounds_toArray, List.set_cons_zero, List.set_cons_succ]
             rfl
            refine two_ (i := 7) (j := 10) (Ni := some 25) (Nj := some 28) #[true, true, true, true, true, true, true, true, true, true, false, true, true, true, false, false, false] #[true, true, true, true, true, true, true, false, true, true, true, true, true, true, false, false, false] rfl rfl rfl rfl (by kernel_rfl) (by decide) (by decide) (fun K hK => ?_) (fun K hK => ?_)
            ·skip
             refine value_ (w1 := ?_) (v := ?_) (by rfl) rfl ?_ ?_
             rotate_left 2
             ·go_simp
              constructor
              ·rfl
              ·rfl
             refine hK.out _ _ trivial (fun hHeld => ?_)
             clear hK K
             refine norm_ (a' := ?_) ?_ ?_
             rotate_left
             ·show Act.put _ (some 25) _ = _
              simp only [Act.put, List.setIfInBounds_toArray, List.set_cons_zero, List.set_cons_succ, i64_w, i32_w]
              rfl
             exact norm_ (by first | (simp only [putAll, Act.put, List.setIfInBounds_toArray, List.set_cons_zero, List.set_cons_succ]; done) | (simp only [putAll, Act.put, List.setIfInBounds_toArray, List.set_cons_zero, List.set_cons_succ]; rfl)) (hJ1_4_7_13 ((A1, c1), g4, wq.heap.size, g13) _ ⟨below_alloc HBq.out _, pool_made (enc := Value.int .i64) (d := (0 : Int)) [⟨32, .slice A1 l0.length c1, us0⟩, ⟨38, .slice (some ⟨g4, 0, none⟩) nn nn, i8s (List.replicate nn (0 : Int))⟩] [⟨44, .slice (some ⟨g13, 0, none⟩) nn nn, f64s (List.replicate nn (0 : Nat))⟩] 3 (nn) HPq.out HBq.out.size HN.out⟩)
            ·skip
             refine value_ (w1 := ?_) (v := ?_) (by rfl) rfl ?_ ?_
             rotate_left 2
             ·go_simp
              constructor
              ·rfl
              ·rfl
             refine hK.out _ _ trivial (fun hHeld => ?_)
             clear hK K
             refine norm_ (a' := ?_) ?_ ?_
             rotate_left
             ·show Act.put _ (some 28) _ = _
              simp only [Act.put, List.setIfInBounds_toArray, List.set_cons_zero, List.set_cons_succ, i64_w, i32_w]
              rfl
             exact norm_ (by first | (simp only [putAll, Act.put, List.setIfInBounds_toArray, List.set_cons_zero, List.set_cons_succ]; done) | (simp only [putAll, Act.put, List.setIfInBounds_toArray, List.set_cons_zero, List.set_cons_succ]; rfl)) (hJ1_4_10_13 ((A1, c1), g4, wq.heap.size, g13) _ ⟨below_alloc HBq.out _, pool_made (enc := Value.int .i64) (d := (0 : Int)) [⟨32, .slice A1 l0.length c1, us0⟩, ⟨38, .slice (some ⟨g4, 0, none⟩) nn nn, i8s (List.replicate nn (0 : Int))⟩] [⟨44, .slice (some ⟨g13, 0, none⟩) nn nn, f64s (List.replicate nn (0 : Nat))⟩] 3 (nn) HPq.out HBq.out.size HN.out⟩)
          ·skip
           rintro ⟨⟨A1, c1⟩, g4, g10⟩ wq ⟨hB_, hP_⟩
           have HBq := Aside0.mk hB_
           have HPq := Aside0.mk hP_
           clear hB_ hP_
           have hHeld := trivial
           refine norm_ (a' := ?_) ?_ ?_
           rotate_left
           ·simp only [putAll, Act.put, List.setIfInBounds_toArray, List.set_cons_zero, List.set_cons_succ]
            rfl
           refine two_ (i := 7) (j := 13) (Ni := some 25) (Nj := some 31) #[true, true, true, true, true, true, true, true, true, true, true, true, true, false, false, false, false] #[true, true, true, true, true, true, true, false, true, true, true, true, true, true, false, false, false] rfl rfl rfl rfl (by kernel_rfl) (by decide) (by decide) (fun K hK => ?_) (fun K hK => ?_)
           ·skip
            refine value_ (w1 := ?_) (v := ?_) (by rfl) rfl ?_ ?_
            rotate_left 2
            ·go_simp
             constructor
             ·rfl
             ·rfl
            refine hK.out _ _ trivial (fun hHeld => ?_)
            clear hK K
            refine norm_ (a' := ?_) ?_ ?_
            rotate_left
            ·show Act.put _ (some 25) _ = _
             simp only [Act.put, List.setIfInBounds_toArray, List.set_cons_zero, List.set_cons_succ, i64_w, i32_w]
             rfl
            exact norm_ (by first | (simp only [putAll, Act.put, List.setIfInBounds_toArray, List.set_cons_zero, List.set_cons_succ]; done) | (simp only [putAll, Act.put, List.setIfInBounds_toArray, List.set_cons_zero, List.set_cons_succ]; rfl)) (hJ1_4_7_10 ((A1, c1), g4, wq.heap.size, g10) _ ⟨below_alloc HBq.out _, pool_made (enc := Value.int .i64) (d := (0 : Int)) [⟨32, .slice A1 l0.length c1, us0⟩, ⟨38, .slice (some ⟨g4, 0, none⟩) nn nn, i8s (List.replicate nn (0 : Int))⟩] [⟨3, .slice (some ⟨g10, 0, none⟩) nn nn, i64s (List.replicate nn (0 : Int))⟩] 3 (nn) HPq.out HBq.out.size HN.out⟩)
           ·skip
            refine value_ (w1 := ?_) (v := ?_) (by rfl) rfl ?_ ?_
            rotate_left 2
            ·go_simp
             constructor
             ·rfl
             ·rfl
            refine hK.out _ _ trivial (fun hHeld => ?_)
            clear hK K
            refine norm_ (a' := ?_) ?_ ?_
            rotate_left
            ·show Act.put _ (some 31) _ = _
             simp only [Act.put, List.setIfInBounds_toArray, List.set_cons_zero, List.set_cons_succ, i64_w, i32_w]
             rfl
            exact norm_ (by first | (simp only [putAll, Act.put, List.setIfInBounds_toArray, List.set_cons_zero, List.set_cons_succ]; done) | (simp only [putAll, Act.put, List.setIfInBounds_toArray, List.set_cons_zero, List.set_cons_succ]; rfl)) (hJ1_4_10_13 ((A1, c1), g4, g10, wq.heap.size) _ ⟨below_alloc HBq.out _, pool_made (enc := Value.float .f64) (d := (0 : Nat)) [⟨32, .slice A1 l0.length c1, us0⟩, ⟨38, .slice (some ⟨g4, 0, none⟩) nn nn, i8s (List.replicate nn (0 : Int))⟩, ⟨3, .slice (some ⟨g10, 0, none⟩) nn nn, i64s (List.replicate nn (0 : Int))⟩] [] 44 (nn) HPq.out HBq.out.size HN.out⟩)
         ·skip
          rintro ⟨⟨A1, c1⟩, g4, g7⟩ wq ⟨hB_, hP_⟩
          have HBq := Aside0.mk hB_
          have HPq := Aside0.mk hP_
          clear hB_ hP_
          have hHeld := trivial
          refine norm_ (a' := ?_) ?_ ?_
          rotate_left
          ·simp only [putAll, Act.put, List.setIfInBounds_toArray, List.set_cons_zero, List.set_cons_succ]
           rfl
          refine two_ (i := 10) (j := 13) (Ni := some 28) (Nj := some 31) #[true, true, true, true, true, true, true, true, true, true, true, true, true, false, false, false, false] #[true, true, true, true, true, true, true, true, true, true, false, true, true, true, false, false, false] rfl rfl rfl rfl (by kernel_rfl) (by decide) (by decide) (fun K hK => ?_) (fun K hK => ?_)
          ·skip
           refine value_ (w1 := ?_) (v := ?_) (by rfl) rfl ?_ ?_
           rotate_left 2
           ·go_simp
            constructor
            ·rfl
            ·rfl
           refine hK.out _ _ trivial (fun hHeld => ?_)
           clear hK K
           refine norm_ (a' := ?_) ?_ ?_
           rotate_left
           ·show Act.put _ (some 28) _ = _
            simp only [Act.put, List.setIfInBounds_toArray, List.set_cons_zero, List.set_cons_succ, i64_w, i32_w]
            rfl
           exact norm_ (by first | (simp only [putAll, Act.put, List.setIfInBounds_toArray, List.set_cons_zero, List.set_cons_succ]; done) | (simp only [putAll, Act.put, List.setIfInBounds_toArray, List.set_cons_zero, List.set_cons_succ]; rfl)) (hJ1_4_7_10 ((A1, c1), g4, g7, wq.heap.size) _ ⟨below_alloc HBq.out _, pool_made (enc := Value.int .i64) (d := (0 : Int)) [⟨32, .slice A1 l0.length c1, us0⟩, ⟨38, .slice (some ⟨g4, 0, none⟩) nn nn, i8s (List.replicate nn (0 : Int))⟩, ⟨3, .slice (some ⟨g7, 0, none⟩) nn nn, i64s (List.replicate nn (0 : Int))⟩] [] 3 (nn) HPq.out HBq.out.size HN.out⟩)
          ·skip
           refine value_ (w1 := ?_) (v := ?_) (by rfl) rfl ?_ ?_
           rotate_left 2
           ·go_simp
            constructor
            ·rfl
            ·rfl
           refine hK.out _ _ trivial (fun hHeld => ?_)
           clear hK K
           refine norm_ (a' := ?_) ?_ ?_
           rotate_left
           ·show Act.put _ (some 31) _ = _
            simp only [Act.put, List.setIfInBounds_toArray, List.set_cons_zero, List.set_cons_succ, i64_w, i32_w]
            rfl
           exact norm_ (by first | (simp only [putAll, Act.put, List.setIfInBounds_toArray, List.set_cons_zero, List.set_cons_succ]; done) | (simp only [putAll, Act.put, List.setIfInBounds_toArray, List.set_cons_zero, List.set_cons_succ]; rfl)) (hJ1_4_7_13 ((A1, c1), g4, g7, wq.heap.size) _ ⟨below_alloc HBq.out _, pool_made (enc := Value.float .f64) (d := (0 : Nat)) [⟨32, .slice A1 l0.length c1, us0⟩, ⟨38, .slice (some ⟨g4, 0, none⟩) nn nn, i8s (List.replicate nn (0 : Int))⟩, ⟨3, .slice (some ⟨g7, 0, none⟩) nn nn, i64s (List.replicate nn (0 : Int))⟩] [] 44 (nn) HPq.out HBq.out.size HN.out⟩)
        ·skip
         rintro ⟨g4, g7, g10, g13⟩ wq ⟨hB_, hP_⟩
         have HBq := Aside0.mk hB_
         have HPq := Aside0.mk hP_
         clear hB_ hP_
         have hHeld := trivial
         refine norm_ (a' := ?_) ?_ ?_
         rotate_left
         ·simp only [putAll, Act.put, List.setIfInBounds_toArray, List.set_cons_zero, List.set_cons_succ]
          rfl
         refine one_ (i := 1) (N := some 19) #[true, true, true, true, true, true, true, true, true, true, true, true, true, true, false, false, false] rfl rfl (by kernel_rfl) (by decide) (fun K hK => ?_)
         refine goes_ Try.func22 (by kernel_rfl) rfl #[.slice A0 l0.length c0] (by rfl) rfl rfl (by simp only [List.map_toArray, List.map_cons, List.map_nil]; rfl) ?_
         with_reducible refine (clone22r A0 c0 l0.length us0 _ (rawread_below HRR.out HBq.out) HLL.out).mono ?_
         rintro e w3 ⟨A1, c1, rfl, ho1, hb1⟩
         refine ⟨_, rfl, ?_⟩
         refine hK.out _ _ trivial (fun hHeld => ?_)
         clear hK K
         refine norm_ (a' := ?_) ?_ ?_
         rotate_left
         ·show Act.put _ (some 19) _ = _
          simp only [Act.put, List.setIfInBounds_toArray, List.set_cons_zero, List.set_cons_succ, i64_w, i32_w]
          rfl
         exact norm_ (by first | (simp only [putAll, Act.put, List.setIfInBounds_toArray, List.set_cons_zero, List.set_cons_succ]; done) | (simp only [putAll, Act.put, List.setIfInBounds_toArray, List.set_cons_zero, List.set_cons_succ]; rfl)) (hJ1_4_7_10_13 ((A1, c1), g4, g7, g10, g13) _ ⟨below_step HBq.out hb1, pool_new [] [⟨38, .slice (some ⟨g4, 0, none⟩) nn nn, i8s (List.replicate nn (0 : Int))⟩, ⟨3, .slice (some ⟨g7, 0, none⟩) nn nn, i64s (List.replicate nn (0 : Int))⟩, ⟨3, .slice (some ⟨g10, 0, none⟩) nn nn, i64s (List.replicate nn (0 : Int))⟩, ⟨44, .slice (some ⟨g13, 0, none⟩) nn nn, f64s (List.replicate nn (0 : Nat))⟩] HPq.out hb1 HBq.out.size ho1⟩)
       ·skip
        rintro ⟨⟨A1, c1⟩, g7, g10, g13⟩ wq ⟨hB_, hP_⟩
        have HBq := Aside0.mk hB_
        have HPq := Aside0.mk hP_
        clear hB_ hP_
        have hHeld := trivial
        refine norm_ (a' := ?_) ?_ ?_
        rotate_left
        ·simp only [putAll, Act.put, List.setIfInBounds_toArray, List.set_cons_zero, List.set_cons_succ]
         rfl
        refine one_ (i := 4) (N := some 22) #[true, true, true, true, true, true, true, true, true, true, true, true, true, true, false, false, false] rfl rfl (by kernel_rfl) (by decide) (fun K hK => ?_)
        refine value_ (w1 := ?_) (v := ?_) (by rfl) rfl ?_ ?_
        rotate_left 2
        ·go_simp
         constructor
         ·rfl
         ·rfl
        refine hK.out _ _ trivial (fun hHeld => ?_)
        clear hK K
        refine norm_ (a' := ?_) ?_ ?_
        rotate_left
        ·show Act.put _ (some 22) _ = _
         simp only [Act.put, List.setIfInBounds_toArray, List.set_cons_zero, List.set_cons_succ, i64_w, i32_w]
         rfl
        exact norm_ (by first | (simp only [putAll, Act.put, List.setIfInBounds_toArray, List.set_cons_zero, List.set_cons_succ]; done) | (simp only [putAll, Act.put, List.setIfInBounds_toArray, List.set_cons_zero, List.set_cons_succ]; rfl)) (hJ1_4_7_10_13 ((A1, c1), wq.heap.size, g7, g10, g13) _ ⟨below_alloc HBq.out _, pool_made (enc := Value.int .i8) (d := (0 : Int)) [⟨32, .slice A1 l0.length c1, us0⟩] [⟨3, .slice (some ⟨g7, 0, none⟩) nn nn, i64s (List.replicate nn (0 : Int))⟩, ⟨3, .slice (some ⟨g10, 0, none⟩) nn nn, i64s (List.replicate nn (0 : Int))⟩, ⟨44, .slice (some ⟨g13, 0, none⟩) nn nn, f64s (List.replicate nn (0 : Nat))⟩] 38 (nn) HPq.out HBq.out.size HN.out⟩)
      ·skip
       rintro ⟨⟨A1, c1⟩, g4, g10, g13⟩ wq ⟨hB_, hP_⟩
       have HBq := Aside0.mk hB_
       have HPq := Aside0.mk hP_
       clear hB_ hP_
       have hHeld := trivial
       refine norm_ (a' := ?_) ?_ ?_
       rotate_left
       ·simp only [putAll, Act.put, List.setIfInBounds_toArray, List.set_cons_zero, List.set_cons_succ]
        rfl
       refine one_ (i := 7) (N := some 25) #[true, true, true, true, true, true, true, true, true, true, true, true, true, true, false, false, false] rfl rfl (by kernel_rfl) (by decide) (fun K hK => ?_)
       refine value_ (w1 := ?_) (v := ?_) (by rfl) rfl ?_ ?_
       rotate_left 2
       ·go_simp
        constructor
        ·rfl
        ·rfl
       refine hK.out _ _ trivial (fun hHeld => ?_)
       clear hK K
       refine norm_ (a' := ?_) ?_ ?_
       rotate_left
       ·show Act.put _ (some 25) _ = _
        simp only [Act.put, List.setIfInBounds_toArray, List.set_cons_zero, List.set_cons_succ, i64_w, i32_w]
        rfl
       exact norm_ (by first | (simp only [putAll, Act.put, List.setIfInBounds_toArray, List.set_cons_zero, List.set_cons_succ]; done) | (simp only [putAll, Act.put, List.setIfInBounds_toArray, List.set_cons_zero, List.set_cons_succ]; rfl)) (hJ1_4_7_10_13 ((A1, c1), g4, wq.heap.size, g10, g13) _ ⟨below_alloc HBq.out _, pool_made (enc := Value.int .i64) (d := (0 : Int)) [⟨32, .slice A1 l0.length c1, us0⟩, ⟨38, .slice (some ⟨g4, 0, none⟩) nn nn, i8s (List.replicate nn (0 : Int))⟩] [⟨3, .slice (some ⟨g10, 0, none⟩) nn nn, i64s (List.replicate nn (0 : Int))⟩, ⟨44, .slice (some ⟨g13, 0, none⟩) nn nn, f64s (List.replicate nn (0 : Nat))⟩] 3 (nn) HPq.out HBq.out.size HN.out⟩)
     ·skip
      rintro ⟨⟨A1, c1⟩, g4, g7, g13⟩ wq ⟨hB_, hP_⟩
      have HBq := Aside0.mk hB_
      have HPq := Aside0.mk hP_
      clear hB_ hP_
      have hHeld := trivial
      refine norm_ (a' := ?_) ?_ ?_
      rotate_left
      ·simp only [putAll, Act.put, List.setIfInBounds_toArray, List.set_cons_zero, List.set_cons_succ]
       rfl
      refine one_ (i := 10) (N := some 28) #[true, true, true, true, true, true, true, true, true, true, true, true, true, true, false, false, false] rfl rfl (by kernel_rfl) (by decide) (fun K hK => ?_)
      refine value_ (w1 := ?_) (v := ?_) (by rfl) rfl ?_ ?_
      rotate_left 2
      ·go_simp
       constructor
       ·rfl
       ·rfl
      refine hK.out _ _ trivial (fun hHeld => ?_)
      clear hK K
      refine norm_ (a' := ?_) ?_ ?_
      rotate_left
      ·show Act.put _ (some 28) _ = _
       simp only [Act.put, List.setIfInBounds_toArray, List.set_cons_zero, List.set_cons_succ, i64_w, i32_w]
       rfl
      exact norm_ (by first | (simp only [putAll, Act.put, List.setIfInBounds_toArray, List.set_cons_zero, List.set_cons_succ]; done) | (simp only [putAll, Act.put, List.setIfInBounds_toArray, List.set_cons_zero, List.set_cons_succ]; rfl)) (hJ1_4_7_10_13 ((A1, c1), g4, g7, wq.heap.size, g13) _ ⟨below_alloc HBq.out _, pool_made (enc := Value.int .i64) (d := (0 : Int)) [⟨32, .slice A1 l0.length c1, us0⟩, ⟨38, .slice (some ⟨g4, 0, none⟩) nn nn, i8s (List.replicate nn (0 : Int))⟩, ⟨3, .slice (some ⟨g7, 0, none⟩) nn nn, i64s (List.replicate nn (0 : Int))⟩] [⟨44, .slice (some ⟨g13, 0, none⟩) nn nn, f64s (List.replicate nn (0 : Nat))⟩] 3 (nn) HPq.out HBq.out.size HN.out⟩)
    ·skip
     rintro ⟨⟨A1, c1⟩, g4, g7, g10⟩ wq ⟨hB_, hP_⟩
     have HBq := Aside0.mk hB_
     have HPq := Aside0.mk hP_
     clear hB_ hP_
     have hHeld := trivial
     refine norm_ (a' := ?_) ?_ ?_
     rotate_left
     ·simp only [putAll, Act.put, List.setIfInBounds_toArray, List.set_cons_zero, List.set_cons_succ]
      rfl
     refine one_ (i := 13) (N := some 31) #[true, true, true, true, true, true, true, true, true, true, true, true, true, true, false, false, false] rfl rfl (by kernel_rfl) (by decide) (fun K hK => ?_)
     refine value_ (w1 := ?_) (v := ?_) (by rfl) rfl ?_ ?_
     rotate_left 2
     ·go_simp
      constructor
      ·rfl
      ·rfl
     refine hK.out _ _ trivial (fun hHeld => ?_)
     clear hK K
     refine norm_ (a' := ?_) ?_ ?_
     rotate_left
     ·show Act.put _ (some 31) _ = _
      simp only [Act.put, List.setIfInBounds_toArray, List.set_cons_zero, List.set_cons_succ, i64_w, i32_w]
      rfl
     exact norm_ (by first | (simp only [putAll, Act.put, List.setIfInBounds_toArray, List.set_cons_zero, List.set_cons_succ]; done) | (simp only [putAll, Act.put, List.setIfInBounds_toArray, List.set_cons_zero, List.set_cons_succ]; rfl)) (hJ1_4_7_10_13 ((A1, c1), g4, g7, g10, wq.heap.size) _ ⟨below_alloc HBq.out _, pool_made (enc := Value.float .f64) (d := (0 : Nat)) [⟨32, .slice A1 l0.length c1, us0⟩, ⟨38, .slice (some ⟨g4, 0, none⟩) nn nn, i8s (List.replicate nn (0 : Int))⟩, ⟨3, .slice (some ⟨g7, 0, none⟩) nn nn, i64s (List.replicate nn (0 : Int))⟩, ⟨3, .slice (some ⟨g10, 0, none⟩) nn nn, i64s (List.replicate nn (0 : Int))⟩] [] 44 (nn) HPq.out HBq.out.size HN.out⟩)
   rintro ⟨⟨A1, c1⟩, g4, g7, g10, g13⟩ wq ⟨hB_, hP_⟩
   have HBq := Aside0.mk hB_
   have HPq := Aside0.mk hP_
   clear hB_ hP_
   have hHeld := trivial
   refine norm_ (a' := ?_) ?_ ?_
   rotate_left
   ·simp only [putAll, Act.put, List.setIfInBounds_toArray, List.set_cons_zero, List.set_cons_succ]
    rfl
   refine pure_ (i := 14) (N := some 32) (v := ?_) (a' := ?_) #[true, true, true, true, true, true, true, true, true, true, true, true, true, true, true, false, false] rfl rfl (by kernel_rfl) (fun _ _ _ h => h) (Or.inl ⟨by rfl, ?_⟩) ?_ ?_
   rotate_left
   ·intro w'
    go_simp
    with_reducible rfl
   rotate_left
   ·simp only [Act.put, List.setIfInBounds_toArray, List.set_cons_zero, List.set_cons_succ, i64_w, i32_w]
    rfl
   refine last_ (i := 15) (N := some 33) #[true, true, true, true, true, true, true, true, true, true, true, true, true, true, true, true, false] rfl rfl (by kernel_rfl) (by decide) (fun K hK => ?_)
   refine value_ (w1 := ?_) (v := ?_) (by rfl) rfl ?_ ?_
   rotate_left 2
   ·go_simp
    constructor
    ·rfl
    ·rfl
   refine hK.out _ _ ?_
   clear hK K
   refine norm_ (a' := ?_) ?_ ?_
   rotate_left
   ·show Act.put _ (some 33) _ = _
    simp only [Act.put, List.setIfInBounds_toArray, List.set_cons_zero, List.set_cons_succ, i64_w, i32_w]
    rfl
   refine pure_ (i := 16) (N := some 9) (v := ?_) (a' := ?_) #[true, true, true, true, true, true, true, true, true, true, true, true, true, true, true, true, true] rfl rfl (by kernel_rfl) (fun _ _ _ h => h) (Or.inl ⟨by rfl, ?_⟩) ?_ ?_
   rotate_left
   ·intro w'
    go_simp
    with_reducible rfl
   rotate_left
   ·simp only [Act.put, List.setIfInBounds_toArray, List.set_cons_zero, List.set_cons_succ, i64_w, i32_w]
    rfl
   refine done_ (by kernel_rfl) ?_
   go_wp2
   have HSOL := Aside0.mk (show Sol w _ wq.heap.size us0 l0 (st0 l0 nn) from ⟨below_alloc HBq.out _, _, _, _, _, _, _, _, _, [], sol_start HPq.out HBq.out.size, rfl, by show l0 = l0 ++ []; rw [List.append_nil]⟩)
   clear HBq HPq hm38 hm3 hm44 hHeld
   generalize wq.alloc _ = w0 at HSOL ⊢
   generalize wq.heap.size = g at HSOL ⊢
   go_loopg [10] k (fun kq v10 wr => ∃ s1 : St, Aside0 (Sol w wr g us0 l0 s1) ∧ Aside0 (solveLoop kq k a2 s1 = some (r1, r2, r3)))
   case atStart => exact ⟨_, HSOL, HS⟩
   case round =>
    clear HSOL HS
    obtain ⟨s1, HSOL, HS⟩ := hrel
    cases gk with
    | zero => exact absurd HS.out (by simp [solveLoop])
    | succ k1 =>
     have hs := HS.out
     rw [solveLoop] at hs
     obtain ⟨st, hst, hs⟩ := Option.bind_eq_some_iff.mp hs
     unfold stepF at hst
     by_cases hok : Okb s1
     ·rw [if_pos hok] at hst
      obtain ⟨⟨s2, cf⟩, hsp, hst⟩ := Option.bind_eq_some_iff.mp hst
      simp only at hst
      by_cases hok2 : Okb s2
      ·rw [if_pos hok2] at hst
       have SP := Aside0.mk (spread_calls w wr g us0 l0 HH.out s1 HSOL.out hok.bd k s2 cf hsp)
       have OK2 := Aside0.mk hok2
       have HS2 := Aside0.mk hs
       have HST := Aside0.mk hst
       clear hs HS HSOL hok hok2 hsp hst
       by_cases c1 : cf = -1
       ·have hst := HST.out
        rw [if_pos c1] at hst
        obtain ⟨⟨s3, r⟩, hch, hst⟩ := Option.bind_eq_some_iff.mp hst
        have CH := Aside0.mk (fun (ww : World) (h : Sol w ww g us0 l0 s2) => choose_calls w ww g us0 l0 s2 s3 h r hch)
        have MD := Aside0.mk (fun (ww : World) (h : Sol w ww g us0 l0 s3) (hv : s3.value.length ≤ 1000000) => model_calls w ww g us0 l0 s3 h hv)
        have HCHV := Aside0.mk (chooseF_len hch)
        subst c1
        clear HST hch
        cases r with
        | true =>
         rw [if_pos rfl] at hst
         obtain rfl := Option.some.inj hst
         have HS3 := HS2.out
         simp only at HS3
         clear hst HS2
         go_wp2_with (first | (go_at_call 23; (with_reducible refine SP.out.mono ?_); rintro e w2 ⟨rfl, hs2⟩; have HSA := Aside0.mk hs2; clear hs2) | (go_at_call 24; (with_reducible refine (CH.out _ HSA.out).mono ?_); rintro e w3 ⟨rfl, hs3⟩; have HSB := Aside0.mk hs3; clear hs3))
         go_roundg k1
         case measure => omega
         case rel => exact ⟨s3, HSB, ⟨HS3⟩⟩
        | false =>
         rw [if_neg (by simp)] at hst
         obtain rfl := Option.some.inj hst
         have HS3 := HS2.out
         simp only [Option.some.injEq, Prod.mk.injEq] at HS3
         obtain ⟨rfl, rfl, rfl⟩ := HS3
         have HLV := Aside0.mk (show s3.value.length ≤ 1000000 by rw [HCHV.out]; exact OK2.out.v)
         clear hst HS2
         go_wp2_with (first | (go_at_call 23; (with_reducible refine SP.out.mono ?_); rintro e w2 ⟨rfl, hs2⟩; have HSA := Aside0.mk hs2; clear hs2) | (go_at_call 24; (with_reducible refine (CH.out _ HSA.out).mono ?_); rintro e w3 ⟨rfl, hs3⟩; have HSB := Aside0.mk hs3; clear hs3) | (go_at_call 25; (with_reducible refine (MD.out _ HSB.out HLV.out).mono ?_); rintro e w4 ⟨v4, rfl, ho4, hb4⟩; have HO4 := Aside0.mk ho4; have HB4 := Aside0.mk hb4; clear ho4 hb4))
         (try rw [Exit.noGoto_ret])
         go_ret3
         exact ⟨_, _, rfl, R_of_row HO4.out HSB.out.1.size, S_nil0 _ _, below_step HSB.out.1 HB4.out⟩
       ·have hst := HST.out
        rw [if_neg c1] at hst
        have b1 : (cf == -1) = false := beq_eq_false_iff_ne.mpr c1
        have SO := Aside0.mk (SP.out.mono (R' := fun e w2 => e = .returned (.int .i64 cf) ∧ ∃ (vc vv vl vr vt : Value) (Ao : Option Addr) (co : Nat) (Aw : Option Addr) (cw : Nat) (Am : Option Addr) (cm : Nat) (lp : List (Value × List Int)), Below w.heap.size w w2 ∧ Pool w2 w.heap.size (solRows g vc vv vl vr vt (.slice Ao s2.chosen.length co) (.slice Aw s2.weights.length cw) (.slice Am s2.lemmas.length cm) us0 lp s2) ∧ s2.lemmas = lp.map (·.2) ∧ s2.clauses = l0 ++ lp.map (·.2) ∧
          w2.cell? ⟨g, 5, none⟩ = some (.slice Ao s2.chosen.length co) ∧ w2.cell? ⟨g, 8, none⟩ = some (.slice Am s2.lemmas.length cm)) (by
         rintro e w2 ⟨rfl, h⟩
         obtain ⟨vc, vv, vl, vr, vt, Ao, co, Aw, cw, Am, cm, lp, h1, h2, h3, h4, h5, h6, h7, h8, h9, h10⟩ := sol_open h
         exact ⟨rfl, vc, vv, vl, vr, vt, Ao, co, Aw, cw, Am, cm, lp, h1, h2, h3, h4, h6, h9⟩))
        clear HST SP
        by_cases c2 : s2.chosen.length = 0
        ·rw [if_pos c2] at hst
         obtain rfl := Option.some.inj hst
         have HS3 := HS2.out
         simp only [Option.some.injEq, Prod.mk.injEq] at HS3
         obtain ⟨rfl, rfl, rfl⟩ := HS3
         have b2 : ((s2.chosen.length : Int) == 0) = true := beq_iff_eq.mpr (by omega)
         clear hst HS2
         go_wp2_with (first | (go_at_call 23; (with_reducible refine SO.out.mono ?_); rintro e w2 ⟨rfl, vc, vv, vl, vr, vt, Ao, co, Aw, cw, Am, cm, lp, hb2, hp2, hlm2, hcl2, g5, g8⟩; have HB2 := Aside0.mk hb2; have HP2 := Aside0.mk hp2; have HLM := Aside0.mk hlm2; clear hb2 hp2 hlm2 hcl2; obtain ⟨hno1, hno2⟩ := sol_no HP2.out HB2.out.size; have HN1 := Aside0.mk hno1; have HN2 := Aside0.mk hno2; clear hno1 hno2) | (at_builtin; refine print_append_cells (w0 := w) (W := w2.alloc (.cells #[] 3)) w.heap.size rfl (.tmp 59) (.tmp 61) 22 32 (.slice none 0 0) 1 24 rfl Try.underlying22 info32 rfl (by decide) (by decide) (.slice Am s2.lemmas.length cm) (lp.map (·.1)).length (lp.map (·.1)) [.slice (some ⟨w2.heap.size, 0, none⟩) 0 0] rfl ?hx rfl (one_slice _ _ _) ?o1 ?o2 ?o3 ?c1 ?_; (case hx => rw [World.size_alloc]; rfl); (case o1 => exact HN1.out); (case o2 => exact below_alloc HB2.out _); (case o3 => exact (below_alloc HB2.out _).size); (case c1 => have h1 := OK2.out.m; have h2 := HLM.out; rw [h2, List.length_map] at h1; rw [List.length_map]; omega); intro v7 w7 ho7 hb7 hg7 hat7; have HK := Aside0.mk (HN2.out _ _ ho7 hg7 hat7); have HB7 := Aside0.mk hb7; clear ho7 hb7 hg7 hat7))
         (try rw [Exit.noGoto_ret])
         go_ret3
         refine ⟨_, _, rfl, Kd.R_nil _ _ _ _ _, ?_, HB7.out⟩
         rw [HLM.out]
         exact HK.out
        ·rw [if_neg c2] at hst
         have b2 : ((s2.chosen.length : Int) == 0) = false := beq_eq_false_iff_ne.mpr (by omega)
         by_cases c3 : a2 ≤ (s2.lemmas.length : Int)
         ·rw [if_pos c3] at hst
          obtain rfl := Option.some.inj hst
          have HS3 := HS2.out
          simp only [Option.some.injEq, Prod.mk.injEq] at HS3
          obtain ⟨rfl, rfl, rfl⟩ := HS3
          have b3 : decide (a2 ≤ (s2.lemmas.length : Int)) = true := decide_eq_true c3
          clear hst HS2
          go_wp2_with (first | (go_at_call 23; (with_reducible refine SO.out.mono ?_); rintro e w2 ⟨rfl, vc, vv, vl, vr, vt, Ao, co, Aw, cw, Am, cm, lp, hb2, hp2, hlm2, hcl2, g5, g8⟩; have HB2 := Aside0.mk hb2; clear hb2 hp2 hlm2 hcl2))
          (try rw [Exit.noGoto_ret])
          go_ret3
          exact ⟨_, _, rfl, Kd.R_nil _ _ _ _ _, S_nil0 _ _, HB2.out⟩
         ·rw [if_neg c3] at hst
          have b3 : decide (a2 ≤ (s2.lemmas.length : Int)) = false := decide_eq_false c3
          obtain ⟨⟨s3, lem, back⟩, hle, hst⟩ := Option.bind_eq_some_iff.mp hst
          obtain ⟨s6, haf, hst⟩ := Option.map_eq_some_iff.1 hst
          subst hst
          unfold afterF at haf
          simp only at haf
          obtain ⟨s4, hfo, haf⟩ := Option.bind_eq_some_iff.mp haf
          obtain ⟨bb, hde, haf⟩ := Option.bind_eq_some_iff.mp haf
          obtain ⟨⟨ws6, far⟩, hre, haf⟩ := Option.bind_eq_some_iff.mp haf
          have haf := Option.some.inj haf
          simp only at haf
          have HS3 := HS2.out
          simp only at HS3
          have LC := Aside0.mk (fun (ww : World) (vc vv vl vr vt vo vw vm : Value) (lp : List (Value × List Int)) (hb : Below w.heap.size w ww) (P : Pool ww w.heap.size (solRows g vc vv vl vr vt vo vw vm us0 lp s2)) (hc : s2.clauses = l0 ++ lp.map (·.2)) => ((learn_calls w ww g us0 l0 HH.out vc vv vl vr vt vo vw vm lp s2 s3 hb P hc OK2.out.bd OK2.out.t OK2.out.v k cf lem back hle).mono (R' := fun e w3 => ∃ Al cl, e = .returned (.tuple #[.slice Al lem.length cl, .int .i64 back]) ∧ Below w.heap.size w w3 ∧ Pool w3 w.heap.size (⟨3, .slice Al lem.length cl, i64s lem⟩ :: solRows g vc vv vl vr vt vo vw vm us0 lp s3) ∧ w3.cell? ⟨g, 8, none⟩ = some vm) (by
           rintro e w3 ⟨vlem, rfl, hb3, hp3⟩
           obtain ⟨Al, cl, e1, _⟩ := row_len (hp3.at_ (pre := []))
           subst e1
           exact ⟨Al, cl, rfl, hb3, hp3, (box_at (pre := [_]) hp3 8 _ rfl).1⟩)))
          have HLE := Aside0.mk (learnF_same hle)
          have FC := Aside0.mk (fun (ww : World) (h : Sol w ww g us0 l0 { s3 with lemmas := s3.lemmas ++ [lem], clauses := s3.clauses ++ [lem] }) => (forget_calls w ww g us0 l0 { s3 with lemmas := s3.lemmas ++ [lem], clauses := s3.clauses ++ [lem] } s4 h (by obtain ⟨ws, rfl⟩ := HLE.out; exact OK2.out.t) back hfo).mono (R' := fun e w5 => e = .returned (.tuple #[]) ∧ ∃ (vc vv vl vr vt : Value) (Ao : Option Addr) (co : Nat) (Aw : Option Addr) (cw : Nat) (Am : Option Addr) (cm : Nat) (lp : List (Value × List Int)), Below w.heap.size w w5 ∧ Pool w5 w.heap.size (solRows g vc vv vl vr vt (.slice Ao s4.chosen.length co) (.slice Aw s4.weights.length cw) (.slice Am s4.lemmas.length cm) us0 lp s4) ∧ s4.lemmas = lp.map (·.2) ∧ s4.clauses = l0 ++ lp.map (·.2) ∧
            w5.cell? ⟨g, 7, none⟩ = some (.float .f64 s4.by_) ∧ s4.weights.length ≤ cw ∧ ∀ (nd : Nat) (x : Nat), (w5.drewN nd).cell? ⟨g, 7, none⟩ = some (.float .f64 s4.by_) ∧ (w5.drewN nd).frozen? ⟨g, 7, none⟩ = false ∧ ((w5.drewN nd).setCell ⟨g, 7, none⟩ (.float .f64 x)).cell? ⟨g, 6, none⟩ = some (.slice Aw s4.weights.length cw) ∧ Below w.heap.size w ((w5.drewN nd).setCell ⟨g, 7, none⟩ (.float .f64 x)) ∧ Pool ((w5.drewN nd).setCell ⟨g, 7, none⟩ (.float .f64 x)) w.heap.size (solRows g vc vv vl vr vt (.slice Ao s4.chosen.length co) (.slice Aw s4.weights.length cw) (.slice Am s4.lemmas.length cm) us0 lp { s4 with by_ := x })) (by
           rintro e w5 ⟨rfl, h⟩
           obtain ⟨vc, vv, vl, vr, vt, Ao, co, Aw, cw, Am, cm, lp, h1, h2, h3, h4, h5, h6, h7, h8, h9, h10⟩ := sol_open h
           refine ⟨rfl, vc, vv, vl, vr, vt, Ao, co, Aw, cw, Am, cm, lp, h1, h2, h3, h4, h8, h10, fun nd x => ?_⟩
           have P5 := h2.drewN nd
           obtain ⟨_, _, _, _, _, _, _, k7, _, kf⟩ := sol_box P5
           have P6 := sol_put_by (x := x) P5
           exact ⟨k7, kf 7, (sol_box P6).2.2.2.2.2.2.1, below_set (pw_below_drewN h1 nd) (sol_g h2), P6⟩))
          have HDE := Aside0.mk hde
          have RS := Aside0.mk (fun (ww : World) (vc vv vl vr vt vo vm : Value) (Aw : Option Addr) (cw : Nat) (lp : List (Value × List Int)) (hb : Below w.heap.size w ww) (P : Pool ww w.heap.size (solRows g vc vv vl vr vt vo (.slice Aw s4.weights.length cw) vm us0 lp { s4 with by_ := bb })) (hcw : s4.weights.length ≤ cw) => ((weigh_Rescale.calls k Aw cw s4.weights ws6 far ww (Kd.C_of_reads (h1 := fun _ => rfl) (own_reads (0 : Nat) (show (Row.mk 44 (.slice Aw s4.weights.length cw) (f64s s4.weights)).own ww w.heap.size from sol_w (s := { s4 with by_ := bb }) P))) hcw hre).mono (R' := fun e w7 => ∃ A7 c7, e = .returned (.tuple #[.slice A7 ws6.length c7, .bool far]) ∧ w7.cell? ⟨g, 6, none⟩ = some (.slice Aw s4.weights.length cw) ∧ w7.frozen? ⟨g, 6, none⟩ = false ∧ w7.cell? ⟨g, 7, none⟩ = some (.float .f64 bb) ∧ w7.frozen? ⟨g, 7, none⟩ = false ∧ Below w.heap.size w (w7.setCell ⟨g, 6, none⟩ (.slice A7 ws6.length c7)) ∧ Pool (w7.setCell ⟨g, 6, none⟩ (.slice A7 ws6.length c7)) w.heap.size (solRows g vc vv vl vr vt vo (.slice A7 ws6.length c7) vm us0 lp { s4 with by_ := bb, weights := ws6 })) (by
           rintro e w7 ⟨v0, rfl, hR, hb7⟩
           have ho := own_of_scalar hR
           obtain ⟨A7, c7, e7, _⟩ := row_len ho
           subst e7
           obtain ⟨k6, f6, P7⟩ := sol_new_w P hb.size hb7 ho
           obtain ⟨_, _, _, _, _, _, _, k7, _, kf⟩ := sol_box (P.below hb7)
           exact ⟨A7, c7, rfl, k6, f6, k7, kf 7, below_set (below_step hb hb7) (sol_g P), P7⟩)))
          have HFO := Aside0.mk (show s4.by_ = s4.by_ from rfl)
          clear HS2 hle hfo hde hre hst
          cases far with
          | false =>
           rw [if_neg (by simp)] at haf
           subst haf
           go_wp2_with (first | (go_at_call 23; (with_reducible refine SO.out.mono ?_); rintro e w2 ⟨rfl, vc, vv, vl, vr, vt, Ao, co, Aw, cw, Am, cm, lp, hb2, hp2, hlm2, hcl2, g5, g8⟩; have HB2 := Aside0.mk hb2; have HP2 := Aside0.mk hp2; have HLM := Aside0.mk hlm2; have HCL := Aside0.mk hcl2; clear hb2 hp2 hlm2 hcl2) | (go_at_call 26; (with_reducible refine (LC.out _ _ _ _ _ _ _ _ _ _ HB2.out HP2.out HCL.out).mono ?_); rintro e w3 ⟨Al, cl, rfl, hb3, hp3, g8⟩; have HB3 := Aside0.mk hb3; have HP3 := Aside0.mk hp3; clear hb3 hp3; obtain ⟨hs1, hs2⟩ := lm_step1 HP3.out; have ST1 := Aside0.mk hs1; have ST2 := Aside0.mk hs2; clear hs1 hs2) | (at_builtin; refine print_append_cells (w0 := w) (W := w3) w.heap.size rfl (.tmp 81) (.tmp 83) 22 32 (.slice none 0 0) 1 24 rfl Try.underlying22 info32 rfl (by decide) (by decide) (.slice Am s2.lemmas.length cm) lp.length (lp.map (·.1)) [.slice Al lem.length cl] rfl rfl rfl (one_slice _ _ _) ST1.out HB3.out HB3.out.size ?c1 ?_; (case c1 => have h1 := OK2.out.m; have h2 := HLM.out; rw [h2, List.length_map] at h1; omega); intro v4 w4 ho4 hb4 hg4 hat4; obtain ⟨A4, c4, rfl⟩ := app_slice ho4; obtain ⟨m8, mf8, m0, hp4⟩ := ST2.out w4 _ ho4 hg4 hat4; have HB4 := Aside0.mk (below_set (j := 8) (v := .slice A4 (lp.length + 1) c4) hb4 (sol_g (HP2.out))); obtain ⟨n0, hs1, hs2⟩ := lm_step2 hp4; have ST3 := Aside0.mk hs1; have ST4 := Aside0.mk hs2; clear hs1 hs2 ho4 hb4 hg4 hat4 hp4) | (at_builtin; refine print_append_cells (w0 := w) (W := w4.setCell ⟨g, 8, none⟩ (.slice A4 (lp.length + 1) c4)) w.heap.size rfl (.tmp 91) (.tmp 93) 22 32 (.slice none 0 0) 1 24 rfl Try.underlying22 info32 rfl (by decide) (by decide) vc (us0.length + lp.length) (us0 ++ lp.map (·.1)) [.slice Al lem.length cl] rfl ?hx rfl (one_slice _ _ _) ST3.out HB4.out HB4.out.size ?c1 ?_; (case hx => rw [World.size_setCell]; rfl); (case c1 => have h1 := OK2.out.c; have h2 := HCL.out; rw [h2, List.length_append, List.length_map] at h1; have h3 := HH.out.len; omega); intro v5 w5 ho5 hb5 hg5 hat5; obtain ⟨A5, c5, rfl⟩ := app_slice ho5; obtain ⟨m0, mf0, hp5⟩ := ST4.out w5 _ ho5 hg5 hat5; have HB5 := Aside0.mk (below_set (j := 0) (v := .slice A5 (us0.length + lp.length + 1) c5) hb5 (sol_g (HP2.out))); have HP5 := Aside0.mk hp5; clear ho5 hb5 hg5 hat5 hp5) | (go_at_call 27; (with_reducible refine (FC.out _ (sol_of5 HB5.out HP5.out HLE.out HLM.out HCL.out)).mono ?_); rintro e w6 ⟨rfl, vc6, vv6, vl6, vr6, vt6, Ao6, co6, Aw6, cw6, Am6, cm6, lp6, hb6, hp6, hlm6, hcl6, g7, hcw6, h6⟩; have HLM6 := Aside0.mk hlm6; have HCL6 := Aside0.mk hcl6; have HCW6 := Aside0.mk hcw6; have H6 := Aside0.mk h6; clear hb6 hp6 hlm6 hcl6 hcw6 h6) | (go_at_call 28; (with_reducible refine (weigh_Decay.calls s4.by_ bb _ HDE.out).mono ?_); rintro e w7 ⟨rfl, ⟨nd, rfl⟩⟩; obtain ⟨k7, kf7, k6, hb7, hp7⟩ := H6.out nd bb; have HB7 := Aside0.mk hb7; have HP7 := Aside0.mk hp7; clear hb7 hp7) | (go_at_call 29; (with_reducible refine (RS.out _ _ _ _ _ _ _ _ _ _ _ HB7.out HP7.out HCW6.out).mono ?_); rintro e w8 ⟨A8, c8, rfl, j6, jf6, j7, jf7, hb8, hp8⟩; have HB8 := Aside0.mk hb8; have HP8 := Aside0.mk hp8; clear hb8 hp8))
           go_roundg k1
           case measure => omega
           case rel => exact ⟨_, ⟨⟨HB8.out, _, _, _, _, _, _, _, _, lp6, HP8.out, HLM6.out, HCL6.out⟩⟩, ⟨HS3⟩⟩
          | true =>
           rw [if_pos rfl] at haf
           subst haf
           go_wp2_with (first | (go_at_call 23; (with_reducible refine SO.out.mono ?_); rintro e w2 ⟨rfl, vc, vv, vl, vr, vt, Ao, co, Aw, cw, Am, cm, lp, hb2, hp2, hlm2, hcl2, g5, g8⟩; have HB2 := Aside0.mk hb2; have HP2 := Aside0.mk hp2; have HLM := Aside0.mk hlm2; have HCL := Aside0.mk hcl2; clear hb2 hp2 hlm2 hcl2) | (go_at_call 26; (with_reducible refine (LC.out _ _ _ _ _ _ _ _ _ _ HB2.out HP2.out HCL.out).mono ?_); rintro e w3 ⟨Al, cl, rfl, hb3, hp3, g8⟩; have HB3 := Aside0.mk hb3; have HP3 := Aside0.mk hp3; clear hb3 hp3; obtain ⟨hs1, hs2⟩ := lm_step1 HP3.out; have ST1 := Aside0.mk hs1; have ST2 := Aside0.mk hs2; clear hs1 hs2) | (at_builtin; refine print_append_cells (w0 := w) (W := w3) w.heap.size rfl (.tmp 81) (.tmp 83) 22 32 (.slice none 0 0) 1 24 rfl Try.underlying22 info32 rfl (by decide) (by decide) (.slice Am s2.lemmas.length cm) lp.length (lp.map (·.1)) [.slice Al lem.length cl] rfl rfl rfl (one_slice _ _ _) ST1.out HB3.out HB3.out.size ?c1 ?_; (case c1 => have h1 := OK2.out.m; have h2 := HLM.out; rw [h2, List.length_map] at h1; omega); intro v4 w4 ho4 hb4 hg4 hat4; obtain ⟨A4, c4, rfl⟩ := app_slice ho4; obtain ⟨m8, mf8, m0, hp4⟩ := ST2.out w4 _ ho4 hg4 hat4; have HB4 := Aside0.mk (below_set (j := 8) (v := .slice A4 (lp.length + 1) c4) hb4 (sol_g (HP2.out))); obtain ⟨n0, hs1, hs2⟩ := lm_step2 hp4; have ST3 := Aside0.mk hs1; have ST4 := Aside0.mk hs2; clear hs1 hs2 ho4 hb4 hg4 hat4 hp4) | (at_builtin; refine print_append_cells (w0 := w) (W := w4.setCell ⟨g, 8, none⟩ (.slice A4 (lp.length + 1) c4)) w.heap.size rfl (.tmp 91) (.tmp 93) 22 32 (.slice none 0 0) 1 24 rfl Try.underlying22 info32 rfl (by decide) (by decide) vc (us0.length + lp.length) (us0 ++ lp.map (·.1)) [.slice Al lem.length cl] rfl ?hx rfl (one_slice _ _ _) ST3.out HB4.out HB4.out.size ?c1 ?_; (case hx => rw [World.size_setCell]; rfl); (case c1 => have h1 := OK2.out.c; have h2 := HCL.out; rw [h2, List.length_append, List.length_map] at h1; have h3 := HH.out.len; omega); intro v5 w5 ho5 hb5 hg5 hat5; obtain ⟨A5, c5, rfl⟩ := app_slice ho5; obtain ⟨m0, mf0, hp5⟩ := ST4.out w5 _ ho5 hg5 hat5; have HB5 := Aside0.mk (below_set (j := 0) (v := .slice A5 (us0.length + lp.length + 1) c5) hb5 (sol_g (HP2.out))); have HP5 := Aside0.mk hp5; clear ho5 hb5 hg5 hat5 hp5) | (go_at_call 27; (with_reducible refine (FC.out _ (sol_of5 HB5.out HP5.out HLE.out HLM.out HCL.out)).mono ?_); rintro e w6 ⟨rfl, vc6, vv6, vl6, vr6, vt6, Ao6, co6, Aw6, cw6, Am6, cm6, lp6, hb6, hp6, hlm6, hcl6, g7, hcw6, h6⟩; have HLM6 := Aside0.mk hlm6; have HCL6 := Aside0.mk hcl6; have HCW6 := Aside0.mk hcw6; have H6 := Aside0.mk h6; clear hb6 hp6 hlm6 hcl6 hcw6 h6) | (go_at_call 28; (with_reducible refine (weigh_Decay.calls s4.by_ bb _ HDE.out).mono ?_); rintro e w7 ⟨rfl, ⟨nd, rfl⟩⟩; obtain ⟨k7, kf7, k6, hb7, hp7⟩ := H6.out nd bb; have HB7 := Aside0.mk hb7; have HP7 := Aside0.mk hp7; clear hb7 hp7) | (go_at_call 29; (with_reducible refine (RS.out _ _ _ _ _ _ _ _ _ _ _ HB7.out HP7.out HCW6.out).mono ?_); rintro e w8 ⟨A8, c8, rfl, j6, jf6, j7, jf7, hb8, hp8⟩; have HB8 := Aside0.mk hb8; have HP8 := Aside0.mk hp8; clear hb8 hp8))
           go_roundg k1
           case measure => omega
           case rel => exact ⟨_, ⟨⟨below_set HB8.out (sol_g HP8.out), _, _, _, _, _, _, _, _, lp6, sol_put_by (x := oneB) HP8.out, HLM6.out, HCL6.out⟩⟩, ⟨HS3⟩⟩
      ·rw [if_neg hok2] at hst; cases hst
     ·rw [if_neg hok] at hst; cases hst
  ·rw [if_neg hl] at hs; cases hs

end Go.Proofs.Ytmdjlhmifhnpdaa.SatW
