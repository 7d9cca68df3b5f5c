/- Texts of this seat, joined by a program of this session (wip/tools/pack.py). -/
import Derived.Test.YtmdjlhmifhnpdaaZa
namespace Go.Proofs.Ytmdjlhmifhnpdaa.SatW
set_option linter.unusedVariables false
set_option linter.unusedSimpArgs false
open Go.RowKit Go.Proofs.YtmdjlhmifhnpdaaW.PrintWords Go.Proofs.YtmdjlhmifhnpdaaW.PrintLast Go.Proofs.Ytmdjlhmifhnpdaa.B

/-! ### learn's closure -/
theorem Pool.perm {w : World} {B : Nat} {L M : List Row} (h : Pool w B L) (hp : L.Perm M) : Pool w B M :=
  ⟨fun r hr => h.1 r (hp.mem_iff.2 hr), (hp.pairwise_iff (fun {_ _} k => Row.apart.symm k)).1 h.2⟩
theorem Pool.comm {w : World} {B : Nat} {L M : List Row} (h : Pool w B (L ++ M)) : Pool w B (M ++ L) := h.perm List.perm_append_comm
structure Ln where
  seen : List Bool
  here : Int
  lem : List Int
  back : Int
def box1 (b : Nat) : Value := .slice (some ⟨b, 0, none⟩) 1 1
def lnRows (g b2 b4 b5 b6 b7 bs n : Nat) (vlem : Value) (L : Ln) : List Row :=
  [⟨42, .slice (some ⟨b2, 0, none⟩) 1 1, [.pointer (some ⟨g, 0, none⟩)]⟩, ⟨32, .slice (some ⟨b4, 0, none⟩) 1 1, [vlem]⟩, ⟨3, .slice (some ⟨b5, 0, none⟩) 1 1, [.int .i64 L.back]⟩,
   ⟨25, .slice (some ⟨b6, 0, none⟩) 1 1, [.slice (some ⟨bs, 0, none⟩) n n]⟩, ⟨3, .slice (some ⟨b7, 0, none⟩) 1 1, [.int .i64 L.here]⟩, ⟨4, .slice (some ⟨bs, 0, none⟩) n n, bools L.seen⟩, ⟨3, vlem, i64s L.lem⟩]
def addStep (s : St) (L : Ln) (n : Int) : Option (St × Ln) :=
  (gi L.seen (sizeI n)).bind fun sn => if sn = true then some (s, L) else (gi s.level (sizeI n)).bind fun lv => if lv = 0 then some (s, L) else
    (bumpF s (sizeI n)).bind fun s' => if lv = (s.chosen.length : Int) then (if -1000000000 < L.here ∧ L.here < 1000000000 then some (s', { L with seen := L.seen.set (sizeI n).toNat true, here := L.here + 1 }) else none)
      else if L.lem.length < lim then some (s', { L with seen := L.seen.set (sizeI n).toNat true, lem := L.lem ++ [n], back := if L.back < lv then lv else L.back }) else none
def addsF : List Int → St → Ln → Option (St × Ln)
  | [], s, L => some (s, L)
  | n :: c, s, L => (addStep s L n).bind fun r => addsF c r.1 r.2
section
variable {w : World} {B g b2 b4 b5 b6 b7 bs n : Nat} {vlem : Value} {L : Ln} {M : List Row}
theorem ln_cells (P : Pool w B (lnRows g b2 b4 b5 b6 b7 bs n vlem L ++ M)) : w.cell? ⟨b2, 0, none⟩ = some (.pointer (some ⟨g, 0, none⟩)) ∧ w.cell? ⟨b4, 0, none⟩ = some vlem ∧ w.cell? ⟨b5, 0, none⟩ = some (.int .i64 L.back) ∧ w.cell? ⟨b6, 0, none⟩ = some (.slice (some ⟨bs, 0, none⟩) n n) ∧ w.cell? ⟨b7, 0, none⟩ = some (.int .i64 L.here) ∧
    w.frozen? ⟨b4, 0, none⟩ = false ∧ w.frozen? ⟨b5, 0, none⟩ = false ∧ w.frozen? ⟨b7, 0, none⟩ = false :=
  ⟨(box_at (pre := []) P 0 _ rfl).1, (box_at (pre := [_]) P 0 _ rfl).1, (box_at (pre := [_, _]) P 0 _ rfl).1, (box_at (pre := [_, _, _]) P 0 _ rfl).1, (box_at (pre := [_, _, _, _]) P 0 _ rfl).1,
   (box_at (pre := [_]) P 0 _ rfl).2, (box_at (pre := [_, _]) P 0 _ rfl).2, (box_at (pre := [_, _, _, _]) P 0 _ rfl).2⟩
theorem ln_seen (P : Pool w B (lnRows g b2 b4 b5 b6 b7 bs n vlem L ++ M)) : (Row.mk 4 (.slice (some ⟨bs, 0, none⟩) n n) (bools L.seen)).own w B := P.at_ (pre := [_, _, _, _, _])
theorem ln_lem (P : Pool w B (lnRows g b2 b4 b5 b6 b7 bs n vlem L ++ M)) : (Row.mk 3 vlem (i64s L.lem)).own w B := P.at_ (pre := [_, _, _, _, _, _])
theorem ln_len (P : Pool w B (lnRows g b2 b4 b5 b6 b7 bs n vlem L ++ M)) : n = L.seen.length := by
  have := own_len (ln_seen P)
  unfold bools at this
  rw [List.length_map] at this
  exact this
theorem ln_put_seen (P : Pool w B (lnRows g b2 b4 b5 b6 b7 bs n vlem L ++ M)) (i : Nat) : Pool (w.setCell ⟨bs, i, none⟩ (.bool true)) B (lnRows g b2 b4 b5 b6 b7 bs n vlem { L with seen := L.seen.set i true } ++ M) := by
  have := Pool.put (pre := [_, _, _, _, _]) P i (.bool true)
  rw [show (bools L.seen).set i (.bool true) = bools (L.seen.set i true) from mapset _ _ _ _] at this
  exact this
theorem ln_put_here (P : Pool w B (lnRows g b2 b4 b5 b6 b7 bs n vlem L ++ M)) (x : Int) : Pool (w.setCell ⟨b7, 0, none⟩ (.int .i64 x)) B (lnRows g b2 b4 b5 b6 b7 bs n vlem { L with here := x } ++ M) :=
  Pool.put (pre := [_, _, _, _]) P 0 (.int .i64 x)
theorem ln_put_back (P : Pool w B (lnRows g b2 b4 b5 b6 b7 bs n vlem L ++ M)) (x : Int) : Pool (w.setCell ⟨b5, 0, none⟩ (.int .i64 x)) B (lnRows g b2 b4 b5 b6 b7 bs n vlem { L with back := x } ++ M) :=
  Pool.put (pre := [_, _]) P 0 (.int .i64 x)
theorem ln_app_lem (P : Pool w B (lnRows g b2 b4 b5 b6 b7 bs n vlem L ++ M)) (x : Int) : ∀ (w3 : World) (v4 : Value), w3.ownsRow B 3 1 v4 ((i64s L.lem).length + 1) (i64s L.lem ++ [.int .i64 x]) → w.grownBy w3 vlem.ownBlock → (v4.ownBlock = vlem.ownBlock ∨ ∃ b, v4.ownBlock = some b ∧ w.heap.size ≤ b) →
    w3.cell? ⟨b4, 0, none⟩ = some vlem ∧ w3.frozen? ⟨b4, 0, none⟩ = false ∧ Pool (w3.setCell ⟨b4, 0, none⟩ v4) B (lnRows g b2 b4 b5 b6 b7 bs n v4 { L with lem := L.lem ++ [x] } ++ M) := by
  intro w3 v4 ho hg hat
  have P3 := Pool.upd (pre := [_, _, _, _, _, _]) P hg (app_own ho) hat
  obtain ⟨k4, kf4⟩ := box_at (pre := [_]) P3 0 _ rfl
  refine ⟨k4, kf4, ?_⟩
  have P4 := Pool.put (pre := [_]) P3 0 v4
  have e : i64s L.lem ++ [.int .i64 x] = i64s (L.lem ++ [x]) := by unfold i64s; rw [List.map_append]; rfl
  rw [e] at P4
  exact P4
theorem ln_ge (P : Pool w B (lnRows g b2 b4 b5 b6 b7 bs n vlem L ++ M)) : B ≤ b4 ∧ B ≤ b5 ∧ B ≤ b7 ∧ B ≤ bs :=
  ⟨sol_ge (P.at_ (pre := [_])), sol_ge (P.at_ (pre := [_, _])), sol_ge (P.at_ (pre := [_, _, _, _])), sol_ge (ln_seen P)⟩
theorem ln_sol (P : Pool w B (lnRows g b2 b4 b5 b6 b7 bs n vlem L ++ M)) : Pool w B M := P.sub (List.sublist_append_right _ _)
end
theorem bumpF_same {s s' : St} {v : Int} (h : bumpF s v = some s') : ∃ ws, s' = { s with weights := ws } := by
  unfold bumpF at h
  obtain ⟨x, _, h⟩ := Option.bind_eq_some_iff.mp h
  obtain ⟨y, _, rfl⟩ := Option.map_eq_some_iff.1 h
  exact ⟨_, rfl⟩
set_option maxHeartbeats 4000000 in
set_option maxRecDepth 100000 in
theorem add_calls (W w : World) (g : Nat) (us0 : List Value) (cl0 : List (List Int)) (vc vv vl vr vt vo vw vm : Value) (lp : List (Value × List Int)) (b2 b4 b5 b6 b7 bs n : Nat) (u : Value) (c : List Int) (hcl : c.length ≤ 1000000) (hcb : ∀ n ∈ c, -1000000 ≤ n ∧ n ≤ 1000000)
    (hrd : ∀ (wr : World) (s1 : St) (vw' : Value), Below W.heap.size W wr → Pool wr W.heap.size (solRows g vc vv vl vr vt vo vw' vm us0 lp s1) → Rd wr u c)
    (s s' : St) (L L' : Ln) (vlem : Value) (hbel : Below W.heap.size W w) (P : Pool w W.heap.size (lnRows g b2 b4 b5 b6 b7 bs n vlem L ++ solRows g vc vv vl vr vt vo vw vm us0 lp s)) (hs : addsF c s L = some (s', L')) :
    Calls Try.prog 41 #[u, .pointer (some ⟨b6, 0, none⟩), .pointer (some ⟨b2, 0, none⟩), .pointer (some ⟨b7, 0, none⟩), .pointer (some ⟨b4, 0, none⟩), .pointer (some ⟨b5, 0, none⟩)] w fun e w' => e = .returned (.tuple #[]) ∧ Below W.heap.size W w' ∧ ∃ vlem', Pool w' W.heap.size (lnRows g b2 b4 b5 b6 b7 bs n vlem' L' ++ solRows g vc vv vl vr vt vo vw vm us0 lp s') := by
  obtain ⟨A, cap, rfl, hcap, _⟩ := hrd w s vw hbel (ln_sol P)
  have HRD := Aside0.mk hrd
  have HB0 := Aside0.mk hbel
  have HP0 := Aside0.mk P
  have HS0 := Aside0.mk hs
  have HCB := Aside0.mk hcb
  clear hrd hbel P hs hcb
  go_enter Try.func41, Try.ntmps41
  go_wp2
  go_loopw [12] (fun v wr => ∃ (k : Nat) (s1 : St) (L1 : Ln) (vlem1 : Value), v = .int .i64 (k : Int) ∧ Aside0 (k ≤ c.length) ∧ Aside0 (Below W.heap.size W wr) ∧ Aside0 (Pool wr W.heap.size (lnRows g b2 b4 b5 b6 b7 bs n vlem1 L1 ++ solRows g vc vv vl vr vt vo vw vm us0 lp s1)) ∧ Aside0 (addsF (c.drop k) s1 L1 = some (s', L'))) (fun v _ => c.length - (intOf v).toNat)
  case atStart => exact ⟨0, s, L, vlem, rfl, ⟨Nat.zero_le _⟩, HB0, HP0, ⟨by rw [List.drop_zero]; exact HS0.out⟩⟩
  case round =>
    clear HB0 HP0 HS0
    obtain ⟨k, s1, L1, vlem1, rfl, HK, HB, HP, HS⟩ := hrel
    by_cases hlt : k < c.length
    · have hkb : k < 1000000000 := by omega
      have d0 : decide (k < c.length) = true := decide_eq_true hlt
      obtain ⟨m, hm, hd, hmem⟩ := drop_at c k hlt
      obtain ⟨mb1, mb2⟩ := HCB.out m hmem
      obtain ⟨A', cap', e0, _, hrd1⟩ := HRD.out wr s1 vw HB.out (ln_sol HP.out)
      injection e0 with e01 _ e03
      subst e01
      subst e03
      obtain ⟨ad, rfl, hx⟩ := hrd1 (by omega)
      have hxm := hx k m hm
      clear hx hrd1
      have hs := HS.out
      rw [hd, addsF] at hs
      obtain ⟨⟨s2, L2⟩, hst, hs⟩ := Option.bind_eq_some_iff.mp hs
      unfold addStep at hst
      obtain ⟨sn, hsn, hst⟩ := Option.bind_eq_some_iff.mp hst
      have SC := Aside0.mk (fun ww => size_calls m ww ⟨mb1, mb2⟩)
      obtain ⟨q2, q4, q5, q6, q7, f4, f5, f7⟩ := ln_cells HP.out
      obtain ⟨i0, i1, i2⟩ := gi_some hsn
      obtain rfl := ln_len HP.out
      have xs := own_cell (ln_seen HP.out) (sizeI m).toNat (.bool sn) (by unfold bools; rw [List.getElem?_map, i1]; rfl)
      generalize hz : sizeI m = z at *
      have HS2 := Aside0.mk hs
      have dz0 : decide (0 ≤ z) = true := decide_eq_true i0
      have dz1 : decide (z < (L1.seen.length : Int)) = true := decide_eq_true i2
      have ez0 := eq_true i0
      have ez1 := eq_true i2
      clear hs HS hd hm hmem i1 hsn
      cases sn with
      | true =>
        rw [if_pos rfl] at hst
        obtain ⟨rfl, rfl⟩ : s1 = s2 ∧ L1 = L2 := by simpa using hst
        clear hst
        go_wp2_with (first | (go_at_call 42; (with_reducible refine (SC.out _).mono ?_); rintro e w' ⟨rfl, rfl⟩))
        refine ⟨⟨k + 1, s1, L1, vlem1, rfl, ⟨hlt⟩, HB, HP, HS2⟩, by simp only [intOf]; omega⟩
      | false =>
        rw [if_neg Bool.false_ne_true] at hst
        obtain ⟨lv, hlv, hst⟩ := Option.bind_eq_some_iff.mp hst
        obtain ⟨j0, j1, j2⟩ := gi_some hlv
        obtain ⟨bl, cl, rfl, xl, _, _⟩ := row_at (sol_l (ln_sol HP.out)) z.toNat lv j1
        obtain ⟨_, _, g2, _, _, g5, _⟩ := sol_box (ln_sol HP.out)
        have dl1 : decide (z < (s1.level.length : Int)) = true := decide_eq_true j2
        have el1 := eq_true j2
        have HJ := Aside0.mk j1
        clear hlv j1 g5
        by_cases cz : lv = 0
        · subst cz
          rw [if_pos rfl] at hst
          obtain ⟨rfl, rfl⟩ : s1 = s2 ∧ L1 = L2 := by simpa using hst
          clear hst
          go_wp2_with (first | (go_at_call 42; (with_reducible refine (SC.out _).mono ?_); rintro e w' ⟨rfl, rfl⟩))
          refine ⟨⟨k + 1, s1, L1, vlem1, rfl, ⟨hlt⟩, HB, HP, HS2⟩, by simp only [intOf]; omega⟩
        · rw [if_neg cz] at hst
          have bz : (lv == 0) = false := beq_eq_false_iff_ne.mpr cz
          obtain ⟨s3, hb3, hst⟩ := Option.bind_eq_some_iff.mp hst
          have fs : wr.frozen? ⟨bs, z.toNat, none⟩ = false := own_free (ln_seen HP.out) z.toNat
          obtain ⟨nb4, nb5, nb7, nbs⟩ := ln_ge HP.out
          have HP1 := ln_put_seen HP.out z.toNat
          obtain ⟨ne1, ne2⟩ := apart_ne (Pool.ne [] [_, _, _, _] HP.out)
          have BC := Aside0.mk (bump_calls W _ g us0 cl0 _ s1 s3 vc vv _ vr vt vo vw vm lp (below_set (j := z.toNat) (v := .bool true) HB.out nbs) (Pool.comm HP1) z hb3)
          obtain ⟨ws, rfl⟩ := bumpF_same hb3
          have HST := Aside0.mk hst
          clear HP1 hst hb3 cz HP HB f4 f5 f7
          go_wp2_with (first | (go_at_call 42; (with_reducible refine (SC.out _).mono ?_); rintro e w' ⟨rfl, rfl⟩) | (go_at_call 43; (with_reducible refine BC.out.mono ?_); rintro e w5 ⟨rfl, hb5, hp5⟩; have HB5 := Aside0.mk hb5; have HP5 := Aside0.mk (Pool.comm hp5); clear hb5 hp5))
          obtain ⟨q2, q4, q5, q6, q7, f4, f5, f7⟩ := ln_cells HP5.out
          obtain ⟨Ao, co, rfl, lo⟩ := row_len (sol_o (ln_sol HP5.out))
          obtain ⟨_, _, g2, _, _, g5, _⟩ := sol_box (ln_sol HP5.out)
          have xl5 := own_cell (sol_l (ln_sol HP5.out)) z.toNat (.int .i64 lv) (by unfold i64s; rw [List.getElem?_map, HJ.out]; rfl)
          clear xl q2 q4 q5 q6 q7 f4 f5 f7 xs fs
          obtain ⟨q2, _⟩ := ln_cells HP5.out
          have hst := HST.out
          by_cases cq : lv = (s1.chosen.length : Int)
          · rw [if_pos cq] at hst
            have bq : (lv == (s1.chosen.length : Int)) = true := beq_iff_eq.mpr cq
            by_cases ch : -1000000000 < L1.here ∧ L1.here < 1000000000
            · rw [if_pos ch] at hst
              have HE := Option.some.inj hst
              have HE1 := congrArg Prod.fst HE
              have HE2 := congrArg Prod.snd HE
              simp only at HE1 HE2
              subst HE1
              subst HE2
              obtain ⟨ch1, ch2⟩ := ch
              clear hst HE HST cq
              go_region
              have HP6 := Aside0.mk HP5.out.drew
              have HB6 := Aside0.mk (below_drew1 HB5.out)
              generalize w5.drew = w6 at HP6 HB6 ⊢
              clear HP5 HB5 xl5 g2 g5 q2
              obtain ⟨q2, q4, q5, q6, q7, f4, f5, f7⟩ := ln_cells HP6.out
              clear q2 q4 q5 q6 f4 f5
              go_wp2
              refine ⟨⟨k + 1, _, _, vlem1, rfl, ⟨hlt⟩, ⟨below_set HB6.out nb7⟩, ⟨ln_put_here HP6.out _⟩, HS2⟩, by simp only [intOf]; omega⟩
            · rw [if_neg ch] at hst; cases hst
          · rw [if_neg cq] at hst
            have bq : (lv == (s1.chosen.length : Int)) = false := beq_eq_false_iff_ne.mpr cq
            by_cases ch : L1.lem.length < lim
            · rw [if_pos ch] at hst
              have HE := Option.some.inj hst
              have HE1 := congrArg Prod.fst HE
              have HE2 := congrArg Prod.snd HE
              simp only at HE1 HE2
              subst HE1
              subst HE2
              clear hst HE HST cq
              go_region
              have HP6 := Aside0.mk HP5.out.drew
              have HB6 := Aside0.mk (below_drew1 HB5.out)
              generalize w5.drew = w6 at HP6 HB6 ⊢
              clear HP5 HB5 xl5 g2 g5 q2
              obtain ⟨q2, q4, q5, q6, q7, f4, f5, f7⟩ := ln_cells HP6.out
              clear q2 q5 q6 q7 f5 f7
              obtain ⟨Am, cm, rfl, _⟩ := row_len (ln_lem HP6.out)
              have TL := Aside0.mk (show (i64s L1.lem).length = L1.lem.length from List.length_map _)
              have STEP := Aside0.mk (ln_app_lem HP6.out m)
              have ho := ln_lem HP6.out
              have HO := Aside0.mk (show w6.ownsRow W.heap.size 3 1 (.slice Am L1.lem.length cm) (i64s L1.lem).length (i64s L1.lem) from ho)
              clear ho
              go_wp2_with (first | (at_builtin; refine print_append_cells W.heap.size rfl (.tmp 53) (.tmp 55) 32 3 (.int .i64 0) 1 8 rfl Try.underlying32 info3 rfl (by decide) (by decide) (.slice Am L1.lem.length cm) (i64s L1.lem).length (i64s L1.lem) [.int .i64 m] rfl rfl rfl (one_int _ _) ?o1 HB6.out HB6.out.size ?c1 ?_; (case o1 => exact HO.out); (case c1 => unfold lim at ch; have := TL.out; omega); intro v7 w7 ho7 hb7 hg7 hat7; obtain ⟨A7, c7, rfl⟩ := app_slice ho7; obtain ⟨k7, kf7, P7⟩ := STEP.out w7 _ ho7 hg7 hat7; have HP7 := Aside0.mk P7; have HB7 := Aside0.mk hb7; clear ho7 hb7 hg7 hat7 P7))
              have HB8 := Aside0.mk (below_set (j := 0) (v := .slice A7 ((i64s L1.lem).length + 1) c7) HB7.out nb4)
              have HP8 := HP7
              generalize w7.setCell ⟨b4, 0, none⟩ (.slice A7 ((i64s L1.lem).length + 1) c7) = w8 at HP8 HB8 ⊢
              clear HP7 HB7 HO STEP HB6 HP6 q4 f4 k7 kf7
              obtain ⟨q2, q4, q5, q6, q7, f4, f5, f7⟩ := ln_cells HP8.out
              obtain ⟨_, _, g2, _, _, _, _⟩ := sol_box (ln_sol HP8.out)
              have xl8 := own_cell (sol_l (ln_sol HP8.out)) z.toNat (.int .i64 lv) (by unfold i64s; rw [List.getElem?_map, HJ.out]; rfl)
              clear q4 q6 q7 f4 f7
              go_region
              go_wp2
              refine ⟨⟨k + 1, _, _, _, rfl, ⟨hlt⟩, ⟨below_drew1 (below_set HB8.out nb5)⟩, ⟨(ln_put_back HP8.out _).drew⟩, HS2⟩, by simp only [intOf]; omega⟩
            · rw [if_neg ch] at hst; cases hst
    · have d0 : decide (k < c.length) = false := decide_eq_false hlt
      obtain rfl : k = c.length := by have := HK.out; omega
      go_wp2
      go_end0
      have hf := HS.out
      rw [List.drop_of_length_le (Nat.le_refl _)] at hf
      simp only [addsF, Option.some.injEq, Prod.mk.injEq] at hf
      obtain ⟨rfl, rfl⟩ := hf
      exact ⟨rfl, HB.out, vlem1, HP.out⟩

end Go.Proofs.Ytmdjlhmifhnpdaa.SatW
namespace Go.Proofs.Ytmdjlhmifhnpdaa.SatW
set_option linter.unusedVariables false
set_option linter.unusedSimpArgs false
open Go.RowKit Go.Proofs.YtmdjlhmifhnpdaaW.PrintWords Go.Proofs.YtmdjlhmifhnpdaaW.PrintLast Go.Proofs.Ytmdjlhmifhnpdaa.B

theorem addStep_same {s s' : St} {L L' : Ln} {n : Int} (h : addStep s L n = some (s', L')) : ∃ ws, s' = { s with weights := ws } := by
  unfold addStep at h
  obtain ⟨sn, _, h⟩ := Option.bind_eq_some_iff.mp h
  split at h
  · cases h; exact ⟨_, rfl⟩
  · obtain ⟨lv, _, h⟩ := Option.bind_eq_some_iff.mp h
    split at h
    · cases h; exact ⟨_, rfl⟩
    · obtain ⟨s3, hb, h⟩ := Option.bind_eq_some_iff.mp h
      obtain ⟨ws, rfl⟩ := bumpF_same hb
      split at h
      · split at h
        · cases h; exact ⟨_, rfl⟩
        · cases h
      · split at h
        · cases h; exact ⟨_, rfl⟩
        · cases h
theorem addsF_same {c : List Int} {s s' : St} {L L' : Ln} (h : addsF c s L = some (s', L')) : ∃ ws, s' = { s with weights := ws } := by
  induction c generalizing s L with
  | nil => cases h; exact ⟨_, rfl⟩
  | cons n c ih =>
    rw [addsF] at h
    obtain ⟨⟨s1, L1⟩, h1, h2⟩ := Option.bind_eq_some_iff.mp h
    obtain ⟨ws, rfl⟩ := addStep_same h1
    obtain ⟨ws2, rfl⟩ := ih h2
    exact ⟨ws2, rfl⟩
def learnLoop : Nat → St → Ln → Int → Option (St × List Int × Int)
  | 0, _, _, _ => none
  | k + 1, s, L, i => (gi s.trail i).bind fun n => (gi L.seen (sizeI n)).bind fun sn =>
    if sn = false then learnLoop k s L (i - 1) else
    if -1000000000 < L.here ∧ L.here < 1000000000 ∧ 0 < L.lem.length then
      (if L.here - 1 = 0 then some (s, L.lem.set 0 (-n), L.back) else
        (gi s.reason (sizeI n)).bind fun q => (gi s.clauses q).bind fun c => (addsF c s { L with here := L.here - 1 }).bind fun r => learnLoop k r.1 r.2 (i - 1))
    else none
def Ln0 (n : Nat) : Ln := ⟨List.replicate n false, 0, [0], 0⟩
def learnF (k : Nat) (s : St) (conflict : Int) : Option (St × List Int × Int) :=
  (gi s.clauses conflict).bind fun c => (addsF c s (Ln0 s.value.length)).bind fun r => learnLoop k r.1 r.2 ((s.trail.length : Int) - 1)
theorem pool_clauses0 {W w : World} {g : Nat} {us0 : List Value} {cl0 : List (List Int)} {vc vv vl vr vt vo vm : Value} {lp : List (Value × List Int)} {s1 : St} {vw' : Value} (hh : Heads0 W us0 cl0) (hbel : Below W.heap.size W w) (P : Pool w W.heap.size (solRows g vc vv vl vr vt vo vw' vm us0 lp s1)) :
    ∃ A cap, vc = .slice A (cl0 ++ lp.map (·.2)).length cap ∧ ∀ (i : Nat) (c : List Int), (cl0 ++ lp.map (·.2))[i]? = some c → ∃ b u, A = some ⟨b, 0, none⟩ ∧ w.cell? ⟨b, i, none⟩ = some u ∧ (us0 ++ lp.map (·.1))[i]? = some u ∧ ∀ (wr : World) (s2 : St) (vw2 : Value), Below W.heap.size W wr → Pool wr W.heap.size (solRows g vc vv vl vr vt vo vw2 vm us0 lp s2) → Rd wr u c := by
  have hc := sol_c P
  obtain ⟨A0, c0, e0, _, hA⟩ := own_slice' hc
  have hlen : (us0 ++ lp.map (·.1)).length = (cl0 ++ lp.map (·.2)).length := by rw [List.length_append, List.length_append, List.length_map, List.length_map, hh.len]
  have e1 : vc = .slice A0 (cl0 ++ lp.map (·.2)).length c0 := by rw [← hlen]; exact e0
  refine ⟨A0, c0, e1, fun i c hi => ?_⟩
  have hil := (List.getElem?_eq_some_iff.1 hi).1
  obtain ⟨b, eb, _⟩ := hA (by show 0 < (us0 ++ lp.map (·.1)).length; omega)
  obtain ⟨u, hu⟩ : ∃ u, (us0 ++ lp.map (·.1))[i]? = some u := ⟨_, List.getElem?_eq_getElem (by omega)⟩
  have hcell : w.cell? ⟨b, i, none⟩ = some u := by
    rw [e1, eb] at hc
    exact own_cell hc i u hu
  refine ⟨b, u, eb, hcell, hu, fun wr s2 vw2 hb2 P2 => ?_⟩
  by_cases hlt : i < cl0.length
  · rw [List.getElem?_append_left hlt] at hi
    rw [List.getElem?_append_left (by rw [hh.len]; exact hlt)] at hu
    exact (hh.rd i c u hi hu).below hb2
  · rw [List.getElem?_append_right (by omega)] at hi
    rw [List.getElem?_append_right (by rw [hh.len]; omega), hh.len, List.getElem?_map] at hu
    rw [List.getElem?_map] at hi
    obtain ⟨p, hp, rfl⟩ := Option.map_eq_some_iff.1 hi
    rw [hp] at hu
    cases hu
    refine Rd.own (B := W.heap.size) (P2.1 _ ?_)
    have : (Row.mk 3 p.1 (i64s p.2)) ∈ lemRows lp := List.mem_map.2 ⟨p, List.mem_of_getElem? hp, rfl⟩
    simp [solRows, this]
theorem pool_clauses {W w : World} {g : Nat} {us0 : List Value} {cl0 : List (List Int)} {vc vv vl vr vt vo vm : Value} {lp : List (Value × List Int)} {s1 : St} {vw' : Value} (hh : Heads0 W us0 cl0) (hbel : Below W.heap.size W w) (P : Pool w W.heap.size (solRows g vc vv vl vr vt vo vw' vm us0 lp s1)) (cls : List (List Int)) (hcl : cls = cl0 ++ lp.map (·.2)) :
    ∃ A cap, vc = .slice A cls.length cap ∧ ∀ (i : Nat) (c : List Int), cls[i]? = some c → ∃ b u, A = some ⟨b, 0, none⟩ ∧ w.cell? ⟨b, i, none⟩ = some u ∧ (us0 ++ lp.map (·.1))[i]? = some u ∧ ∀ (wr : World) (s2 : St) (vw2 : Value), Below W.heap.size W wr → Pool wr W.heap.size (solRows g vc vv vl vr vt vo vw2 vm us0 lp s2) → Rd wr u c := by
  subst hcl
  exact pool_clauses0 hh hbel P
theorem ln_lem_sol {w : World} {B g b2 b4 b5 b6 b7 bs n : Nat} {vlem : Value} {L : Ln} {M : List Row} (P : Pool w B (lnRows g b2 b4 b5 b6 b7 bs n vlem L ++ M)) : Pool w B (⟨3, vlem, i64s L.lem⟩ :: M) :=
  P.sub ((((((List.Sublist.refl _).cons _).cons _).cons _).cons _).cons _ |>.cons _)
theorem ln_put_box {w : World} {B g b2 b4 b5 b6 b7 bs n : Nat} {vlem : Value} {L : Ln} {M : List Row} (P : Pool w B (lnRows g b2 b4 b5 b6 b7 bs n vlem L ++ M)) :
    Pool (w.setCell ⟨b4, 0, none⟩ vlem) B (lnRows g b2 b4 b5 b6 b7 bs n vlem L ++ M) := Pool.put (pre := [_]) P 0 vlem
theorem results_cell2 {fn : Func} {p u : Tmp} {ty tz : TypeId} (h : fn.results = #[.cell p ty, .cell u tz]) (tmps : Array Value) (P : Program) (w : World) :
    (results fn tmps).run P w = ((asAddr (tmps.getD p undef)).run P w).andThen fun a w₁ => ((loadVar ty a).run P w₁).andThen fun v w₂ => ((asAddr (tmps.getD u undef)).run P w₂).andThen fun a2 w₃ => ((loadVar tz a2).run P w₃).andThen fun v2 w₄ => .ok (.tuple #[v, v2]) w₄ := by
  simp only [results, h]
  simp [Sem.run_bind, Result.andThen]
theorem ln_put_lem {w : World} {B g b2 b4 b5 b6 b7 bs n bl m c : Nat} {L : Ln} {M : List Row} (P : Pool w B (lnRows g b2 b4 b5 b6 b7 bs n (.slice (some ⟨bl, 0, none⟩) m c) L ++ M)) (i : Nat) (x : Int) :
    Pool (w.setCell ⟨bl, i, none⟩ (.int .i64 x)) B (lnRows g b2 b4 b5 b6 b7 bs n (.slice (some ⟨bl, 0, none⟩) m c) { L with lem := L.lem.set i x } ++ M) := by
  have := Pool.put (pre := [_, _, _, _, _, _]) P i (.int .i64 x)
  rw [show (i64s L.lem).set i (.int .i64 x) = i64s (L.lem.set i x) from mapset _ _ _ _] at this
  exact this
theorem goesC_ {P : Program} {ops : Array Oper} {oi : Oper} {N : Option Tmp} {a : Act} {w : World} {K : Act → World → Prop} {Q : Exit → Act → World → Prop} {f : FuncId} {fn : Func} {ags : Array Operand} {ts : Array TypeId} {t : Tmp} (hf : P.funcs[f]? = some fn) (hname : (fn.name == "runtime.NumGoroutine") = false) (hb : fn.body.isSome = true) (args cap all : Array Value)
    (hw : Region.wanted oi (yielded ops a.tmps) = true) (hN : oi.dst = N) (hop : oi.op = .call { callee := .value (.tmp t), args := ags, argTypes := ts }) (hfn : a.eval (.tmp t) = .func (.func f) #[] cap) (hargs : ags.map a.eval = args) (hall : args ++ cap = all)
    (h : Calls P f all w fun e w' => ∃ v, e = .returned v ∧ K (a.put N v) w') : if Region.wanted oi (yielded ops a.tmps) = true then Oper.wp P oi a w K Q else K (a.put N undef) w := by
  subst hall
  refine call_ f (args ++ cap) hw hN ?_ h
  have he := enters_ hf hname hb (args ++ cap) w
  unfold execOp
  simp [hop, resolve, Deferred.ofValue, invoke, hfn, hargs, he]
theorem one_le_max : 1 ≤ maxLen := by unfold maxLen; omega
def lnWorld (w : World) (g n : Nat) : World :=
  (((((((w.alloc (.cells #[.pointer (some ⟨g, 0, none⟩)] 42)).alloc (.cells #[.slice (some ⟨w.heap.size + 1 + 1 + 1 + 1 + 1, 0, none⟩) 1 1] 32)).alloc (.cells #[.int .i64 0] 3)).alloc (.cells (madeCells #[.bool false] n) 4)).alloc
    (.cells #[.slice (some ⟨w.heap.size + 1 + 1 + 1, 0, none⟩) n n] 25)).alloc (.cells #[.int .i64 0] 3)).alloc (.cells #[.int .i64 0] 3))
theorem perm7 {α : Type} (a b c d e f h : α) (M : List α) : (M ++ [a] ++ [b] ++ [c] ++ [d] ++ [e] ++ [f] ++ [h]).Perm ([a, b, c, e, h, d, f] ++ M) := by
  have h1 : M ++ [a] ++ [b] ++ [c] ++ [d] ++ [e] ++ [f] ++ [h] = M ++ [a, b, c, d, e, f, h] := by simp
  rw [h1]
  refine List.perm_append_comm.trans (List.Perm.append_right M ?_)
  refine ((((List.Perm.swap e d [f, h]).trans (List.Perm.cons e ?_)).cons c).cons b).cons a
  exact List.perm_append_comm (l₁ := [d, f]) (l₂ := [h])
theorem ln_start {w : World} {B : Nat} {M : List Row} (P : Pool w B M) (hB : B ≤ w.heap.size) (g n : Nat) (hn : n ≤ 1000000) : Pool (lnWorld w g n) B (lnRows g w.heap.size (w.heap.size + 1) (w.heap.size + 1 + 1) (w.heap.size + 1 + 1 + 1 + 1) (w.heap.size + 1 + 1 + 1 + 1 + 1 + 1) (w.heap.size + 1 + 1 + 1) n (.slice (some ⟨w.heap.size + 1 + 1 + 1 + 1 + 1, 0, none⟩) 1 1) (Ln0 n) ++ M) := by
  have P1 := P.lit hB 42 #[.pointer (some ⟨g, 0, none⟩)] one_le_max
  generalize hw1 : w.alloc (.cells #[.pointer (some ⟨g, 0, none⟩)] 42) = w1 at P1
  have s1 : w1.heap.size = w.heap.size + 1 := by rw [← hw1, World.size_alloc]
  have P2 := P1.lit (by omega) 32 #[.slice (some ⟨w.heap.size + 1 + 1 + 1 + 1 + 1, 0, none⟩) 1 1] one_le_max
  generalize hw2 : w1.alloc (.cells #[.slice (some ⟨w.heap.size + 1 + 1 + 1 + 1 + 1, 0, none⟩) 1 1] 32) = w2 at P2
  have s2 : w2.heap.size = w.heap.size + 1 + 1 := by rw [← hw2, World.size_alloc, s1]
  have P3 := P2.lit (by omega) 3 #[.int .i64 0] one_le_max
  generalize hw3 : w2.alloc (.cells #[.int .i64 0] 3) = w3 at P3
  have s3 : w3.heap.size = w.heap.size + 1 + 1 + 1 := by rw [← hw3, World.size_alloc, s2]
  have P4 := P3.push (r := ⟨4, .slice (some ⟨w3.heap.size, 0, none⟩) n n, bools (List.replicate n false)⟩) (World.grownBy_alloc w3 (.cells (madeCells #[.bool false] n) 4) none) (by
    have := own_made_of (enc := Value.bool) (d := false) w3 B 4 n (by omega) (by omega)
    show World.ownsRow _ B 4 1 _ (bools (List.replicate n false)).length _
    rw [show (bools (List.replicate n false)).length = n by unfold bools; simp]
    exact this) (fresh_at w3 n n)
  generalize hw4 : w3.alloc (.cells (madeCells #[.bool false] n) 4) = w4 at P4
  have s4 : w4.heap.size = w.heap.size + 1 + 1 + 1 + 1 := by rw [← hw4, World.size_alloc, s3]
  have P5 := P4.lit (by omega) 25 #[.slice (some ⟨w.heap.size + 1 + 1 + 1, 0, none⟩) n n] one_le_max
  generalize hw5 : w4.alloc (.cells #[.slice (some ⟨w.heap.size + 1 + 1 + 1, 0, none⟩) n n] 25) = w5 at P5
  have s5 : w5.heap.size = w.heap.size + 1 + 1 + 1 + 1 + 1 := by rw [← hw5, World.size_alloc, s4]
  have P6 := P5.lit (by omega) 3 #[.int .i64 0] one_le_max
  generalize hw6 : w5.alloc (.cells #[.int .i64 0] 3) = w6 at P6
  have s6 : w6.heap.size = w.heap.size + 1 + 1 + 1 + 1 + 1 + 1 := by rw [← hw6, World.size_alloc, s5]
  have P7 := P6.lit (by omega) 3 #[.int .i64 0] one_le_max
  generalize hw7 : w6.alloc (.cells #[.int .i64 0] 3) = w7 at P7
  have e : lnWorld w g n = w7 := by unfold lnWorld; rw [hw1, hw2, hw3, hw4, hw5, hw6, hw7]
  rw [e]
  rw [s1, s2, s3, s4, s5, s6] at P7
  exact P7.perm (perm7 _ _ _ _ _ _ _ M)
theorem ln_below {W w : World} (h : Below W.heap.size W w) (g n : Nat) : Below W.heap.size W (lnWorld w g n) := below_alloc (below_alloc (below_alloc (below_alloc (below_alloc (below_alloc (below_alloc h _) _) _) _) _) _) _
set_option maxHeartbeats 8000000 in
set_option maxRecDepth 100000 in
theorem learn_calls (W w : World) (g : Nat) (us0 : List Value) (cl0 : List (List Int)) (hh : Heads0 W us0 cl0) (vc vv vl vr vt vo vw vm : Value) (lp : List (Value × List Int)) (s s' : St) (hbel : Below W.heap.size W w) (P : Pool w W.heap.size (solRows g vc vv vl vr vt vo vw vm us0 lp s)) (hcl : s.clauses = cl0 ++ lp.map (·.2)) (bd : Bd s) (htb : ∀ n ∈ s.trail, -1000000 ≤ n ∧ n ≤ 1000000) (hvl : s.value.length ≤ 1000000) (k : Nat) (conflict : Int) (lem : List Int) (back : Int) (hs : learnF k s conflict = some (s', lem, back)) :
    Calls Try.prog 26 #[.pointer (some ⟨g, 0, none⟩), .int .i64 conflict] w fun e w' => ∃ vlem, e = .returned (.tuple #[vlem, .int .i64 back]) ∧ Below W.heap.size W w' ∧ Pool w' W.heap.size (⟨3, vlem, i64s lem⟩ :: solRows g vc vv vl vr vt vo vw vm us0 lp s') := by
  unfold learnF at hs
  obtain ⟨c, hc, hs⟩ := Option.bind_eq_some_iff.mp hs
  obtain ⟨⟨s1, L1⟩, ha, hs⟩ := Option.bind_eq_some_iff.mp hs
  have HS := Aside0.mk hs
  have HA := Aside0.mk ha
  obtain ⟨Av, cv, rfl, _⟩ := row_len (sol_v P)
  obtain ⟨At, ct, rfl, lt⟩ := row_len (sol_t P)
  obtain ⟨g0, g1, _⟩ := sol_box P
  obtain ⟨ws1, rfl⟩ := addsF_same ha
  have HP := Aside0.mk P
  have HB := Aside0.mk hbel
  have hnz : s.value.length * 1 ≤ 281474976710656 := by omega
  have hmk := print_make_of (P := Try.prog) 25 4 (.bool false) 1 Try.underlying25 info4 rfl (by decide) s.value.length hnz
  have hmf : ∀ (fn : Fn) (first cap : Array Value) (w : World), (Instr.makeFunc fn first cap).run Try.prog w = .ok (.func fn first cap) w := fun _ _ _ _ => rfl
  have P2 := (P.lit hbel.size 42 #[.pointer (some ⟨g, 0, none⟩)] one_le_max).lit (Nat.le_trans hbel.size (by rw [World.size_alloc]; omega)) 32 #[.slice none 0 0] one_le_max |>.lit (Nat.le_trans hbel.size (by rw [World.size_alloc, World.size_alloc]; omega)) 3 #[.int .i64 0] one_le_max
  obtain ⟨_, h1, _⟩ := sol_box (P2.sub ((List.sublist_append_left _ _).trans ((List.sublist_append_left _ _).trans (List.sublist_append_left _ _))))
  clear P2
  have P0 := ln_start P hbel.size g s.value.length hvl
  have B0 := ln_below hbel g s.value.length
  obtain ⟨A0, cap0, rfl, hcs⟩ := pool_clauses hh hbel P s.clauses hcl
  obtain ⟨x0, x1, x2⟩ := gi_some hc
  obtain ⟨bc, u, rfl, _, hu, hrd⟩ := hcs _ c x1
  have hcu := own_cell (sol_c (ln_sol P0)) conflict.toNat u hu
  obtain ⟨f0, f1, f2, f3, f4, f5, f6, f7, f8, _⟩ := sol_box (ln_sol P0)
  have AC := Aside0.mk (add_calls W _ g us0 cl0 _ _ vl vr _ vo vw vm lp _ _ _ _ _ _ _ u c (bd.c c (List.mem_of_getElem? x1)).1 (bd.c c (List.mem_of_getElem? x1)).2 hrd s _ (Ln0 s.value.length) L1 _ B0 P0 ha)
  have dc0 : decide (0 ≤ conflict) = true := decide_eq_true x0
  have ec0 := eq_true x0
  have dc1 : decide (conflict < (s.clauses.length : Int)) = true := decide_eq_true x2
  have ec1 := eq_true x2
  have HH := Aside0.mk hh
  have HBD := Aside0.mk bd
  have HTB := Aside0.mk htb
  have HCL := Aside0.mk hcl
  unfold lnWorld at f0 f4 hcu AC
  clear hs ha P hbel hh bd htb hcl hcs hrd x1 hc hu P0 B0
  go_enter Try.func26, Try.ntmps26
  have htl : s.trail.length ≤ 9223372036854775807 := by unfold maxLen at lt; omega
  go_wp2_with (first | (go_at_call 41; go_must ((with_reducible refine AC.out.mono ?_)); rintro e w2 ⟨rfl, hb2, vlem2, hp2⟩; have HB2 := Aside0.mk hb2; have HP2 := Aside0.mk hp2; clear hb2 hp2; obtain ⟨q2, _⟩ := ln_cells HP2.out; obtain ⟨_, _, _, _, g4, _⟩ := sol_box (ln_sol HP2.out)))
  have HL1 := Aside0.mk (ln_len HP2.out)
  clear AC hmk hmf f0 f4 hcu h1 q2 g4 g0 g1 hnz
  generalize w.heap.size + 1 + 1 + 1 + 1 + 1 + 1 = b7 at HP2 ⊢
  generalize w.heap.size + 1 + 1 + 1 + 1 + 1 = bx at HP2 ⊢
  generalize w.heap.size + 1 + 1 + 1 + 1 = b6 at HP2 ⊢
  generalize w.heap.size + 1 + 1 + 1 = bs at HP2 ⊢
  generalize w.heap.size + 1 + 1 = b5 at HP2 ⊢
  generalize w.heap.size + 1 = b4 at HP2 ⊢
  generalize w.heap.size = b2 at HP2 ⊢
  go_loopg [9] k (fun kq v wr => ∃ (i : Int) (ws : List Nat) (L : Ln) (vlem : Value), v = .int .i64 i ∧ Aside0 (Below W.heap.size W wr) ∧ Aside0 (Pool wr W.heap.size (lnRows g b2 b4 b5 b6 b7 bs s.value.length vlem L ++ solRows g (.slice (some ⟨bc, 0, none⟩) s.clauses.length cap0) (.slice Av s.value.length cv) vl vr (.slice At s.trail.length ct) vo vw vm us0 lp { s with weights := ws })) ∧ Aside0 (learnLoop kq { s with weights := ws } L i = some (s', lem, back)))
  case atStart => exact ⟨_, ws1, L1, vlem2, rfl, HB2, HP2, HS⟩
  case round =>
    clear HB2 HP2 HS HL1 HA HB HP
    obtain ⟨i, ws, L, vlem, rfl, HB, HP, HS⟩ := hrel
    cases gk with
    | zero => exact absurd HS.out (by simp [learnLoop])
    | succ k1 =>
      have hs := HS.out
      rw [learnLoop] at hs
      obtain ⟨m, hm, hs⟩ := Option.bind_eq_some_iff.mp hs
      obtain ⟨sn, hsn, hs⟩ := Option.bind_eq_some_iff.mp hs
      obtain ⟨y0, y1, y2⟩ := gi_some hm
      obtain ⟨bt, ct', et, xt, _, _⟩ := row_at (sol_t (ln_sol HP.out)) i.toNat m y1
      injection et with et1 _ et3
      subst et1
      subst et3
      obtain ⟨q2, q4, q5, q6, q7, f4, f5, f7⟩ := ln_cells HP.out
      obtain ⟨g0, g1, g2, g3, g4, g5, g6, g7, g8, _⟩ := sol_box (ln_sol HP.out)
      obtain ⟨mb1, mb2⟩ := HTB.out m (List.mem_of_getElem? y1)
      have SC := Aside0.mk (fun ww => size_calls m ww ⟨mb1, mb2⟩)
      obtain ⟨i0, i1, i2⟩ := gi_some hsn
      have HLL := ln_len HP.out
      have xs := own_cell (ln_seen HP.out) (sizeI m).toNat (.bool sn) (by unfold bools; rw [List.getElem?_map, i1]; rfl)
      rw [← HLL] at i2
      clear HLL
      generalize hz : sizeI m = z at *
      have hib : i < 9223372036854775807 := by have : i < (s.trail.length : Int) := y2; omega
      have di0 : decide (0 ≤ i) = true := decide_eq_true y0
      have di1 : decide (i < (s.trail.length : Int)) = true := decide_eq_true y2
      have ei0 := eq_true y0
      have ei1 := eq_true y2
      have dz0 : decide (0 ≤ z) = true := decide_eq_true i0
      have dz1 : decide (z < (s.value.length : Int)) = true := decide_eq_true i2
      have ez0 := eq_true i0
      have ez1 := eq_true i2
      have HS2 := Aside0.mk hs
      clear hs HS hm i1 hsn y1 g1 g2 g5 g6 g7 g8
      go_wp2
      refine start_ (n := 6) (S := fun w' => w'.cell? ⟨b6, 0, none⟩ = some (.slice (some ⟨bs, 0, none⟩) s.value.length s.value.length) ∧ w'.cell? ⟨bs, z.toNat, none⟩ = some (.bool sn)) (ds := []) #[false, false, false, false, false, false] (by kernel_rfl) rfl rfl ⟨q6, xs⟩ (fun hHeld => ?_)
      refine pure_ (i := 1) (N := some 44) (v := ?_) (a' := ?_) #[false, true, false, false, false, false] rfl rfl (by kernel_rfl) (fun _ _ _ h => h) (Or.inl ⟨by rfl, ?_⟩) ?_ ?_
      rotate_left
      · intro w'
        go_simp
        with_reducible rfl
      rotate_left
      · simp only [Act.put, List.setIfInBounds_toArray, List.set_cons_zero, List.set_cons_succ, i64_w, i32_w]
        rfl
      refine take_ (i := 0) (N := some 43) (v := ?_) (a' := ?_) #[true, true, false, false, false, false] rfl rfl (by kernel_rfl) (fun _ _ _ h => h) (Or.inl ⟨by rfl, ?_⟩) hHeld ?_ ?_
      rotate_left
      · rintro w' ⟨s0, s1⟩
        go_simp
        with_reducible rfl
      rotate_left
      · simp only [Act.put, List.setIfInBounds_toArray, List.set_cons_zero, List.set_cons_succ, i64_w, i32_w]
        rfl
      refine one_ (i := 2) (N := some 45) #[true, true, true, false, false, false] rfl rfl (by kernel_rfl) (by decide) (fun K hK => ?_)
      refine goes_ Try.func42 (by kernel_rfl) rfl #[.int .i64 m] (by rfl) rfl rfl (by simp only [List.map_toArray, List.map_cons, List.map_nil]; rfl) ?_
      with_reducible refine (SC.out _).mono ?_
      rintro e w' ⟨rfl, rfl⟩
      refine ⟨_, rfl, ?_⟩
      refine hK.out _ _ ⟨hHeld.1, hHeld.2⟩ (fun hHeld => ?_)
      clear hK K
      refine norm_ (a' := ?_) ?_ ?_
      rotate_left
      · show Act.put _ (some 45) _ = _
        simp only [Act.put, List.setIfInBounds_toArray, List.set_cons_zero, List.set_cons_succ, i64_w, i32_w]
        rfl
      refine pure_ (i := 3) (N := some 46) (v := ?_) (a' := ?_) #[true, true, true, true, false, false] rfl rfl (by kernel_rfl) (fun _ _ _ h => h) (Or.inl ⟨by rfl, ?_⟩) ?_ ?_
      rotate_left
      · intro w'
        go_simp
        with_reducible rfl
      rotate_left
      · simp only [Act.put, List.setIfInBounds_toArray, List.set_cons_zero, List.set_cons_succ, i64_w, i32_w]
        rfl
      refine take_ (i := 4) (N := some 47) (v := ?_) (a' := ?_) #[true, true, true, true, true, false] rfl rfl (by kernel_rfl) (fun _ _ _ h => h) (Or.inl ⟨by rfl, ?_⟩) hHeld ?_ ?_
      rotate_left
      · rintro w' ⟨s0, s1⟩
        go_simp
        with_reducible rfl
      rotate_left
      · simp only [Act.put, List.setIfInBounds_toArray, List.set_cons_zero, List.set_cons_succ, i64_w, i32_w]
        rfl
      refine pure_ (i := 5) (N := some 48) (v := ?_) (a' := ?_) #[true, true, true, true, true, true] rfl rfl (by kernel_rfl) (fun _ _ _ h => h) (Or.inl ⟨by rfl, ?_⟩) ?_ ?_
      rotate_left
      · intro w'
        go_simp
        with_reducible rfl
      rotate_left
      · simp only [Act.put, List.setIfInBounds_toArray, List.set_cons_zero, List.set_cons_succ, i64_w, i32_w]
        rfl
      refine done_ (by kernel_rfl) ?_
      have HP1 := Aside0.mk HP.out.drew
      have HB1 := Aside0.mk (below_drew1 HB.out)
      clear q2 q4 q5 q6 q7 f4 f5 f7 g0 g3 g4 xs xt
      cases sn with
      | false =>
        have hs := HS2.out
        rw [if_pos rfl] at hs
        have HS3 := Aside0.mk hs
        clear hs HS2
        go_wp2
        go_roundg k1
        case measure => omega
        case rel => exact ⟨_, ws, L, vlem, rfl, HB1, HP1, HS3⟩
      | true =>
        have hs := HS2.out
        rw [if_neg (by decide)] at hs
        by_cases ch : -1000000000 < L.here ∧ L.here < 1000000000 ∧ 0 < L.lem.length
        · rw [if_pos ch] at hs
          obtain ⟨ch1, ch2, ch3⟩ := ch
          generalize wr.drew = w3 at HP1 HB1 ⊢
          obtain ⟨q2, q4, q5, q6, q7, f4, f5, f7⟩ := ln_cells HP1.out
          obtain ⟨nb4, nb5, nb7, nbs⟩ := ln_ge HP1.out
          obtain ⟨bl, cl, rfl, _⟩ := row_st0 (ln_lem HP1.out) ch3
          have HP2 := Aside0.mk (ln_put_here HP1.out (L.here - 1))
          have HB2 := Aside0.mk (below_set (j := 0) (v := .int .i64 (L.here - 1)) HB1.out nb7)
          obtain ⟨ne1, ne2⟩ := apart_ne (Pool.ne [_] [_, _] HP1.out)
          clear q2 q6 HB HP
          by_cases c0 : L.here - 1 = 0
          · rw [if_pos c0] at hs
            have bz : (L.here - 1 == 0) = true := beq_iff_eq.mpr c0
            have HE := Option.some.inj hs
            have HE1 := congrArg Prod.fst HE
            have HE2 := congrArg (fun r => r.2.1) HE
            have HE3 := congrArg (fun r => r.2.2) HE
            simp only at HE1 HE2 HE3
            subst HE1
            subst HE2
            subst HE3
            clear hs HE HS2
            have xl := own_cell (ln_lem HP1.out) 0 (.int .i64 (L.lem.getD 0 0)) (by unfold i64s; rw [List.getElem?_map, List.getD_eq_getElem?_getD, List.getElem?_eq_getElem ch3]; rfl)
            have fl := own_free (ln_lem HP1.out) 0
            have HP3 := Aside0.mk (ln_put_lem HP2.out 0 (-m))
            have HB3 := Aside0.mk (below_set (j := 0) (v := .int .i64 (-m)) HB2.out (sol_ge (ln_lem HP2.out)))
            obtain ⟨ne3, ne4⟩ := apart_ne (Pool.ne [_, _, _, _] [_] HP1.out)
            obtain ⟨ne5, ne6⟩ := apart_ne (Pool.ne [_] [_, _, _, _] HP1.out)
            obtain ⟨ne7, ne8⟩ := apart_ne (Pool.ne [_, _] [_, _, _] HP1.out)
            obtain ⟨ne9, ne10⟩ := apart_ne (Pool.ne [_, _] [_] HP1.out)
            obtain ⟨ne11, ne12⟩ := apart_ne (Pool.ne [_] [] HP1.out)
            rw [c0] at HP2 HB2 HP3 HB3
            have hpl : ((0 : Nat) < L.lem.length) = True := eq_true ch3
            have hpd : decide (0 < L.lem.length) = true := decide_eq_true ch3
            go_wp2
            generalize (w3.setCell ⟨b7, 0, none⟩ (.int .i64 0)).setCell ⟨bl, 0, none⟩ (.int .i64 (-m)) = w5 at HP3 HB3 ⊢
            clear q4 q5 q7 f4 f5 f7 xl fl
            obtain ⟨_, q4, q5, _, _, f4, f5, _⟩ := ln_cells HP3.out
            go_region
            go_wp2
            generalize hw6 : ((w5.setCell ⟨b4, 0, none⟩ (.slice (some ⟨bl, 0, none⟩) L.lem.length cl)).setCell ⟨b5, 0, none⟩ (.int .i64 L.back)).drew = w6
            have HP6 := Aside0.mk (show Pool w6 W.heap.size _ by rw [← hw6]; exact (ln_put_back (ln_put_box HP3.out) L.back).drew)
            have HB6 := Aside0.mk (show Below W.heap.size W w6 by rw [← hw6]; exact below_drew1 (below_set (below_set HB3.out nb4) nb5))
            clear hw6 q4 q5 f4 f5 HP3 HB3
            obtain ⟨_, q4, q5, _⟩ := ln_cells HP6.out
            refine bodyPost_ret (v := .tuple #[.slice (some ⟨bl, 0, none⟩) L.lem.length cl, .int .i64 L.back]) ?_ rfl ?_
            · rw [results_cell2 rfl]
              go_simp
            · exact ⟨_, rfl, HB6.out, ln_lem_sol HP6.out⟩
          · rw [if_neg c0] at hs
            have bz : (L.here - 1 == 0) = false := beq_eq_false_iff_ne.mpr c0
            go_wp2
            obtain ⟨q, hq, hs⟩ := Option.bind_eq_some_iff.mp hs
            obtain ⟨cc, hcc, hs⟩ := Option.bind_eq_some_iff.mp hs
            obtain ⟨⟨sx, Lx⟩, hax, hs⟩ := Option.bind_eq_some_iff.mp hs
            have HS3 := Aside0.mk hs
            clear hs HS2 q4 q5 q7 f4 f5 f7
            generalize w3.setCell ⟨b7, 0, none⟩ (.int .i64 (L.here - 1)) = w4 at HP2 HB2 ⊢
            obtain ⟨q2, _, _, _, _, _, _, _⟩ := ln_cells HP2.out
            obtain ⟨g0, _, _, g3, _⟩ := sol_box (ln_sol HP2.out)
            obtain ⟨z0, z1, z2⟩ := gi_some hq
            obtain ⟨br, cr, rfl, xr, _, _⟩ := row_at (sol_r (ln_sol HP2.out)) z.toNat q z1
            obtain ⟨A9, cap9, e9, hcs⟩ := pool_clauses HH.out HB2.out (ln_sol HP2.out) s.clauses HCL.out
            injection e9 with e91 _ e93
            subst e91
            subst e93
            obtain ⟨p0, p1, p2⟩ := gi_some hcc
            obtain ⟨bc', u2, ebc, xu, _, hrd⟩ := hcs _ cc p1
            injection ebc with ebc
            injection ebc with ebc
            subst ebc
            have AC := Aside0.mk (add_calls W w4.drew g us0 cl0 _ _ vl _ _ vo vw vm lp _ _ _ _ _ _ _ u2 cc (HBD.out.c cc (List.mem_of_getElem? p1)).1 (HBD.out.c cc (List.mem_of_getElem? p1)).2 hrd _ sx _ Lx _ (below_drew1 HB2.out) HP2.out.drew hax)
            obtain ⟨wsx, rfl⟩ := addsF_same hax
            have dq0 : decide (0 ≤ z) = true := decide_eq_true z0
            have dq1 : decide (z < (s.reason.length : Int)) = true := decide_eq_true z2
            have eq1 := eq_true z2
            have dp0 : decide (0 ≤ q) = true := decide_eq_true p0
            have dp1 : decide (q < (s.clauses.length : Int)) = true := decide_eq_true p2
            have ep0 := eq_true p0
            have ep1 := eq_true p2
            clear hq hcc hcs hrd p1 z1 hax
            refine start_ (n := 16) (S := fun w' => w'.cell? ⟨b2, 0, none⟩ = some (.pointer (some ⟨g, 0, none⟩)) ∧ w'.cell? ⟨g, 0, none⟩ = some (.slice (some ⟨bc, 0, none⟩) s.clauses.length cap0) ∧ w'.cell? ⟨g, 3, none⟩ = some (.slice (some ⟨br, 0, none⟩) s.reason.length cr) ∧ w'.cell? ⟨br, z.toNat, none⟩ = some (.int .i64 q) ∧ w'.cell? ⟨bc, q.toNat, none⟩ = some u2) (ds := [15]) #[false, false, false, false, false, false, false, false, false, false, false, false, false, false, false, false] (by kernel_rfl) rfl rfl ⟨q2, g0, g3, xr, xu⟩ (fun hHeld => ?_)
            refine pure_ (i := 0) (N := some 59) (v := ?_) (a' := ?_) #[true, false, false, false, false, false, false, false, false, false, false, false, false, false, false, false] rfl rfl (by kernel_rfl) (fun _ _ _ h => h) (Or.inl ⟨by rfl, ?_⟩) ?_ ?_
            rotate_left
            · intro w'
              go_simp
              with_reducible rfl
            rotate_left
            · simp only [Act.put, List.setIfInBounds_toArray, List.set_cons_zero, List.set_cons_succ, i64_w, i32_w]
              rfl
            refine pure_ (i := 9) (N := some 68) (v := ?_) (a' := ?_) #[true, false, false, false, false, false, false, false, false, true, false, false, false, false, false, false] rfl rfl (by kernel_rfl) (fun _ _ _ h => h) (Or.inl ⟨by rfl, ?_⟩) ?_ ?_
            rotate_left
            · intro w'
              go_simp
              with_reducible rfl
            rotate_left
            · simp only [Act.put, List.setIfInBounds_toArray, List.set_cons_zero, List.set_cons_succ, i64_w, i32_w]
              rfl
            refine take_ (i := 1) (N := some 60) (v := ?_) (a' := ?_) #[true, true, false, false, false, false, false, false, false, true, false, false, false, false, false, false] rfl rfl (by kernel_rfl) (fun _ _ _ h => h) (Or.inl ⟨by rfl, ?_⟩) hHeld ?_ ?_
            rotate_left
            · rintro w' ⟨s0, s1, s2, s3, s4⟩
              go_simp
              with_reducible rfl
            rotate_left
            · simp only [Act.put, List.setIfInBounds_toArray, List.set_cons_zero, List.set_cons_succ, i64_w, i32_w]
              rfl
            refine pure_ (i := 2) (N := some 61) (v := ?_) (a' := ?_) #[true, true, true, false, false, false, false, false, false, true, false, false, false, false, false, false] rfl rfl (by kernel_rfl) (fun _ _ _ h => h) (Or.inl ⟨by rfl, ?_⟩) ?_ ?_
            rotate_left
            · intro w'
              go_simp
              with_reducible rfl
            rotate_left
            · simp only [Act.put, List.setIfInBounds_toArray, List.set_cons_zero, List.set_cons_succ, i64_w, i32_w]
              rfl
            refine pure_ (i := 3) (N := some 62) (v := ?_) (a' := ?_) #[true, true, true, true, false, false, false, false, false, true, false, false, false, false, false, false] rfl rfl (by kernel_rfl) (fun _ _ _ h => h) (Or.inl ⟨by rfl, ?_⟩) ?_ ?_
            rotate_left
            · intro w'
              go_simp
              with_reducible rfl
            rotate_left
            · simp only [Act.put, List.setIfInBounds_toArray, List.set_cons_zero, List.set_cons_succ, i64_w, i32_w]
              rfl
            refine take_ (i := 4) (N := some 63) (v := ?_) (a' := ?_) #[true, true, true, true, true, false, false, false, false, true, false, false, false, false, false, false] rfl rfl (by kernel_rfl) (fun _ _ _ h => h) (Or.inl ⟨by rfl, ?_⟩) hHeld ?_ ?_
            rotate_left
            · rintro w' ⟨s0, s1, s2, s3, s4⟩
              go_simp
              with_reducible rfl
            rotate_left
            · simp only [Act.put, List.setIfInBounds_toArray, List.set_cons_zero, List.set_cons_succ, i64_w, i32_w]
              rfl
            refine take_ (i := 5) (N := some 64) (v := ?_) (a' := ?_) #[true, true, true, true, true, true, false, false, false, true, false, false, false, false, false, false] rfl rfl (by kernel_rfl) (fun _ _ _ h => h) (Or.inl ⟨by rfl, ?_⟩) hHeld ?_ ?_
            rotate_left
            · rintro w' ⟨s0, s1, s2, s3, s4⟩
              go_simp
              with_reducible rfl
            rotate_left
            · simp only [Act.put, List.setIfInBounds_toArray, List.set_cons_zero, List.set_cons_succ, i64_w, i32_w]
              rfl
            refine pure_ (i := 6) (N := some 65) (v := ?_) (a' := ?_) #[true, true, true, true, true, true, true, false, false, true, false, false, false, false, false, false] rfl rfl (by kernel_rfl) (fun _ _ _ h => h) (Or.inl ⟨by rfl, ?_⟩) ?_ ?_
            rotate_left
            · intro w'
              go_simp
              with_reducible rfl
            rotate_left
            · simp only [Act.put, List.setIfInBounds_toArray, List.set_cons_zero, List.set_cons_succ, i64_w, i32_w]
              rfl
            refine pure_ (i := 7) (N := some 66) (v := ?_) (a' := ?_) #[true, true, true, true, true, true, true, true, false, true, false, false, false, false, false, false] rfl rfl (by kernel_rfl) (fun _ _ _ h => h) (Or.inl ⟨by rfl, ?_⟩) ?_ ?_
            rotate_left
            · intro w'
              go_simp
              with_reducible rfl
            rotate_left
            · simp only [Act.put, List.setIfInBounds_toArray, List.set_cons_zero, List.set_cons_succ, i64_w, i32_w]
              rfl
            refine take_ (i := 8) (N := some 67) (v := ?_) (a' := ?_) #[true, true, true, true, true, true, true, true, true, true, false, false, false, false, false, false] rfl rfl (by kernel_rfl) (fun _ _ _ h => h) (Or.inl ⟨by rfl, ?_⟩) hHeld ?_ ?_
            rotate_left
            · rintro w' ⟨s0, s1, s2, s3, s4⟩
              go_simp
              with_reducible rfl
            rotate_left
            · simp only [Act.put, List.setIfInBounds_toArray, List.set_cons_zero, List.set_cons_succ, i64_w, i32_w]
              rfl
            refine one_ (i := 10) (N := some 69) #[true, true, true, true, true, true, true, true, true, true, true, false, false, false, false, false] rfl rfl (by kernel_rfl) (by decide) (fun K hK => ?_)
            refine goes_ Try.func42 (by kernel_rfl) rfl #[.int .i64 m] (by rfl) rfl rfl (by simp only [List.map_toArray, List.map_cons, List.map_nil]; rfl) ?_
            with_reducible refine (SC.out _).mono ?_
            rintro e w' ⟨rfl, rfl⟩
            refine ⟨_, rfl, ?_⟩
            refine hK.out _ _ ⟨hHeld.1, hHeld.2.1, hHeld.2.2.1, hHeld.2.2.2.1, hHeld.2.2.2.2⟩ (fun hHeld => ?_)
            clear hK K
            refine norm_ (a' := ?_) ?_ ?_
            rotate_left
            · show Act.put _ (some 69) _ = _
              simp only [Act.put, List.setIfInBounds_toArray, List.set_cons_zero, List.set_cons_succ, i64_w, i32_w]
              rfl
            refine pure_ (i := 11) (N := some 70) (v := ?_) (a' := ?_) #[true, true, true, true, true, true, true, true, true, true, true, true, false, false, false, false] rfl rfl (by kernel_rfl) (fun _ _ _ h => h) (Or.inl ⟨by rfl, ?_⟩) ?_ ?_
            rotate_left
            · intro w'
              go_simp
              with_reducible rfl
            rotate_left
            · simp only [Act.put, List.setIfInBounds_toArray, List.set_cons_zero, List.set_cons_succ, i64_w, i32_w]
              rfl
            refine take_ (i := 12) (N := some 71) (v := ?_) (a' := ?_) #[true, true, true, true, true, true, true, true, true, true, true, true, true, false, false, false] rfl rfl (by kernel_rfl) (fun _ _ _ h => h) (Or.inl ⟨by rfl, ?_⟩) hHeld ?_ ?_
            rotate_left
            · rintro w' ⟨s0, s1, s2, s3, s4⟩
              go_simp
              with_reducible rfl
            rotate_left
            · simp only [Act.put, List.setIfInBounds_toArray, List.set_cons_zero, List.set_cons_succ, i64_w, i32_w]
              rfl
            refine pure_ (i := 13) (N := some 72) (v := ?_) (a' := ?_) #[true, true, true, true, true, true, true, true, true, true, true, true, true, true, false, false] rfl rfl (by kernel_rfl) (fun _ _ _ h => h) (Or.inl ⟨by rfl, ?_⟩) ?_ ?_
            rotate_left
            · intro w'
              go_simp
              with_reducible rfl
            rotate_left
            · simp only [Act.put, List.setIfInBounds_toArray, List.set_cons_zero, List.set_cons_succ, i64_w, i32_w]
              rfl
            refine take_ (i := 14) (N := some 73) (v := ?_) (a' := ?_) #[true, true, true, true, true, true, true, true, true, true, true, true, true, true, true, false] rfl rfl (by kernel_rfl) (fun _ _ _ h => h) (Or.inl ⟨by rfl, ?_⟩) hHeld ?_ ?_
            rotate_left
            · rintro w' ⟨s0, s1, s2, s3, s4⟩
              go_simp
              with_reducible rfl
            rotate_left
            · simp only [Act.put, List.setIfInBounds_toArray, List.set_cons_zero, List.set_cons_succ, i64_w, i32_w]
              rfl
            refine last_ (i := 15) (N := some 74) #[true, true, true, true, true, true, true, true, true, true, true, true, true, true, true, true] rfl rfl (by kernel_rfl) (by decide) (fun K hK => ?_)
            refine goesC_ Try.func41 (by kernel_rfl) rfl #[u2] #[.pointer (some ⟨b6, 0, none⟩), .pointer (some ⟨b2, 0, none⟩), .pointer (some ⟨b7, 0, none⟩), .pointer (some ⟨b4, 0, none⟩), .pointer (some ⟨b5, 0, none⟩)] #[u2, .pointer (some ⟨b6, 0, none⟩), .pointer (some ⟨b2, 0, none⟩), .pointer (some ⟨b7, 0, none⟩), .pointer (some ⟨b4, 0, none⟩), .pointer (some ⟨b5, 0, none⟩)] (by rfl) rfl rfl rfl (by simp only [List.map_toArray, List.map_cons, List.map_nil]; rfl) rfl ?_
            with_reducible refine AC.out.mono ?_
            rintro e w6 ⟨rfl, hb6, vlem6, hp6⟩
            refine ⟨_, rfl, ?_⟩
            refine hK.out _ _ ?_
            clear hK K
            refine norm_ (a' := ?_) ?_ ?_
            rotate_left
            · show Act.put _ (some 74) _ = _
              simp only [Act.put, List.setIfInBounds_toArray, List.set_cons_zero, List.set_cons_succ, i64_w, i32_w]
              rfl
            refine done_ (by kernel_rfl) ?_
            go_wp2
            go_roundg k1
            case measure => omega
            case rel => exact ⟨_, _, _, vlem6, rfl, ⟨hb6⟩, ⟨hp6⟩, HS3⟩
        · rw [if_neg ch] at hs; cases hs

end Go.Proofs.Ytmdjlhmifhnpdaa.SatW
namespace Go.Proofs.Ytmdjlhmifhnpdaa.SatW
set_option linter.unusedVariables false
set_option linter.unusedSimpArgs false
open Go.RowKit Go.Proofs.YtmdjlhmifhnpdaaW.PrintWords Go.Proofs.YtmdjlhmifhnpdaaW.PrintLast Go.Proofs.Ytmdjlhmifhnpdaa.B

/-! ### Solve -/
theorem clone22r (A0 : Option Addr) (c0 n : Nat) (us0 : List Value) (w : World) (hrr : RawRead w A0 n (us0.map fun u => [u])) (hl : n < 5864062014805) :
    Calls Try.prog 22 #[.slice A0 n c0] w fun e w' => ∃ A1 c1, e = .returned (.slice A1 n c1) ∧ (Row.mk 32 (.slice A1 n c1) us0).own w' w.heap.size ∧ Below w.heap.size w w' := by
  have hn0 : us0.length = n := by have := hrr.1; rwa [List.length_map] at this
  have HB := Aside0.mk (Below.refl w.heap.size w)
  cases A0 with
  | none =>
    have hz : n = 0 := by
      have := hrr.2.2
      by_cases hp : 0 < n
      · obtain ⟨ad, h, _⟩ := this hp
        cases h
      · omega
    have hus : us0 = [] := List.eq_nil_of_length_eq_zero (by omega)
    clear hrr hl hn0
    subst hz
    subst hus
    have hn := fun W => Lib.run_eql_slice_nil (P := Try.prog) W 22 32 none 0 c0 0 0 Try.underlying22
    go_enter Try.func22, Try.ntmps22
    go_wp2
    go_ret
    exact ⟨none, 0, rfl, ⟨rfl, Or.inl ⟨rfl, rfl⟩⟩, HB.out⟩
  | some a =>
    have HRR := Aside0.mk hrr
    have HL := Aside0.mk hl
    have HN0 := Aside0.mk hn0
    clear hrr hl hn0
    have hn := fun W => Lib.run_eql_slice_nil (P := Try.prog) W 22 32 (some a) n c0 0 0 Try.underlying22
    go_enter Try.func22, Try.ntmps22
    go_wp2_with (first | ((with_reducible refine gate_dst (N := 5) rfl ?_); refine Kd.R_lit (Kd.raw 1) w.heap.size 32 ?hg (N := 5) ?hd (xs := ([] : List (List Value))) (inner := []) (ok := fun _ => True) (okp := fun _ => True) ?hr ?hp (fun _ hk => hk) trivial HB.out (Nat.le_refl _) (by simp) ?_; (case hd => rfl); (case hg => rfl); (case hr => first | (go_simp; done) | (go_simp; rfl)); (case hp => exact (Reps.none _ _)); intro v1 w1 ho1 hb1 hg1 hnew1; clear hg1 hnew1; have HO1 := Aside0.mk ho1; have HB1 := Aside0.mk hb1; clear ho1 hb1) | ((with_reducible refine gate_builtin (b := .append) (xs := #[.tmp 5, .tmp 6]) rfl ?_); at_builtin; refine Kd.R_append_rows (Kd.raw 1) (w0 := w) w.heap.size rfl (.tmp 5) (.tmp 6) 22 32 (.slice none 0 0) 24 rfl Try.underlying22 info32 rfl (by decide) (by decide) v1 [] (us0.map fun u => [u]) (some a) n c0 (fun _ => True) (fun _ => False) ?hs ?hx HO1.out ?hR (fun _ _ h => h) (fun _ h => h.elim) (fun _ _ => trivial) HB1.out ?hS ?hL ?_; (case hs => rfl); (case hx => rfl); (case hR => exact ReadsRow.imp_ HRR.out HB1.out (fun _ _ h => h)); (case hS => exact HB1.out.size); (case hL => have := HL.out; simp only [List.length_nil]; omega); intro v2 w2 ho2 hb2 hg2 hat2; clear hg2 hat2; have HO2 := Aside0.mk ho2; have HB2 := Aside0.mk hb2; clear ho2 hb2))
    go_ret
    have h1 := HO2.out
    rw [List.nil_append] at h1
    have h2 := own_of_raw h1
    obtain ⟨A1, c1, e1, _⟩ := own_slice' h2
    have e2 : v2 = .slice A1 n c1 := by rw [← HN0.out]; exact e1
    subst e2
    exact ⟨A1, c1, rfl, h2, HB2.out⟩
theorem rawread_below {W w : World} {A : Option Addr} {n : Nat} {us : List (List Value)} (h : RawRead W A n us) (hb : Below W.heap.size W w) : RawRead w A n us := ReadsRow.imp_ h hb (fun _ _ h => h)
theorem pool_made {W : World} {B : Nat} {α : Type} {enc : α → Value} {d : α} (pre post : List Row) (e : TypeId) (N : Nat) (P : Pool W B (pre ++ post)) (hB : B ≤ W.heap.size) (hN : N ≤ 1000000) :
    Pool (W.alloc (.cells (madeCells #[enc d] N) e)) B (pre ++ ⟨e, .slice (some ⟨W.heap.size, 0, none⟩) N N, (List.replicate N d).map enc⟩ :: post) := by
  have P4 := P.push (r := ⟨e, .slice (some ⟨W.heap.size, 0, none⟩) N N, (List.replicate N d).map enc⟩) (World.grownBy_alloc W (.cells (madeCells #[enc d] N) e) none) (by
    have := own_made_of (enc := enc) (d := d) W B e N hB (by omega)
    show World.ownsRow _ B e 1 _ ((List.replicate N d).map enc).length _
    rw [show ((List.replicate N d).map enc).length = N by simp]
    exact this) (fresh_at W N N)
  refine P4.perm ?_
  rw [List.append_assoc]
  exact List.Perm.append_left pre List.perm_append_comm
theorem pool_new {W w : World} {B : Nat} {r : Row} (pre post : List Row) (P : Pool W B (pre ++ post)) (hb : Below W.heap.size W w) (hB : B ≤ W.heap.size) (ho : r.own w W.heap.size) : Pool w B (pre ++ r :: post) := by
  refine (P.fresh hb hB ho).perm ?_
  rw [List.append_assoc]
  exact List.Perm.append_left pre List.perm_append_comm
theorem S_of_pool {w : World} {B : Nat} {v : Value} {lp : List (Value × List Int)} (P : Pool w B (⟨32, v, lp.map (·.1)⟩ :: lemRows lp)) : Kd.S (Kd.slice 3 (Kd.int .i64)) 32 w B (fun _ => True) v (lp.map (·.2)) := by
  have hrow : ∀ (j : Nat) (p : Value × List Int), lp[j]? = some p → (lemRows lp)[j]? = some ⟨3, p.1, i64s p.2⟩ := fun j p hj => by unfold lemRows; rw [List.getElem?_map, hj]; rfl
  have hap : ∀ (i j : Nat) (p q : Value × List Int), i < j → lp[i]? = some p → lp[j]? = some q → ∀ k, q.1.ownBlock = some k → p.1.ownBlock ≠ some k := by
    intro i j p q hij hi hj k hk
    have h2 := (List.pairwise_cons.1 P.2).2
    have h3 := List.pairwise_iff_getElem.1 h2 i j (by have := (List.getElem?_eq_some_iff.1 (hrow i p hi)).1; exact this) (by have := (List.getElem?_eq_some_iff.1 (hrow j q hj)).1; exact this) hij
    rw [(List.getElem?_eq_some_iff.1 (hrow i p hi)).2, (List.getElem?_eq_some_iff.1 (hrow j q hj)).2] at h3
    rcases h3 with h3 | h3
    · have h3' : p.1.ownBlock = none := h3
      rw [h3']; simp
    · intro e
      exact h3 (e.trans hk.symm)
  refine ⟨fun k => lp.findIdx (fun p => p.1.ownBlock == some k), fun _ _ => trivial, lp.map (·.1), ?_, ?_, ?_⟩
  · have hq : (Row.mk 32 v (lp.map (·.1))).own w B := P.1 _ (by simp)
    have h1 : World.ownsRow w B 32 1 v (lp.map (·.1)).length (lp.map (·.1)) := hq
    rw [List.length_zipIdx, List.length_map]
    rw [List.length_map] at h1
    exact h1
  · rw [List.length_zipIdx, List.length_map, List.length_map]
    exact (Nat.mul_one _).symm
  · intro j x hj
    rw [List.getElem?_zipIdx, List.getElem?_map, Nat.zero_add] at hj
    obtain ⟨q, hq, rfl⟩ := Option.map_eq_some_iff.1 hj
    obtain ⟨p, hp, rfl⟩ := Option.map_eq_some_iff.1 hq
    have hjl := (List.getElem?_eq_some_iff.1 hp).1
    have hr : (Row.mk 3 p.1 (i64s p.2)).own w B := P.1 _ (by have := List.mem_of_getElem? (hrow j p hp); simp [this])
    refine ⟨p.1, ?_, ?_⟩
    · show ((lp.map (·.1)).drop (j * 1)).take 1 = [p.1]
      rw [Nat.mul_one, List.drop_eq_getElem_cons (by rw [List.length_map]; exact hjl)]
      rw [List.getElem_map, (List.getElem?_eq_some_iff.1 hp).2]; rfl
    · refine Kd.R_of_own ?_ ?_
      · have := hr
        show World.ownsRow w B 3 1 p.1 p.2.length _
        have h2 : World.ownsRow w B 3 1 p.1 (i64s p.2).length (i64s p.2) := hr
        rw [show (i64s p.2).length = p.2.length from List.length_map _] at h2
        exact h2
      · intro k hk
        refine ⟨⟨trivial, ?_⟩, ?_⟩
        · have h3 := (List.pairwise_cons.1 P.2).1 ⟨3, p.1, i64s p.2⟩ (List.mem_of_getElem? (hrow j p hp))
          rcases h3 with h3 | h3
          · have h3' : v.ownBlock = none := h3
            rw [h3']; simp
          · intro e
            exact h3 (e.symm.trans hk.symm)
        · show lp.findIdx (fun p => p.1.ownBlock == some k) = j
          rw [List.findIdx_eq hjl]
          refine ⟨?_, fun i hi => ?_⟩
          · rw [(List.getElem?_eq_some_iff.1 hp).2]; simpa using hk
          · have := hap i j lp[i] p hi (List.getElem?_eq_getElem (by omega)) hp k hk
            simpa using this
theorem wrap64_small (x : Int) (h0 : -9223372036854775808 ≤ x) (h1 : x ≤ 9223372036854775807) : wrap64 x = x := by unfold wrap64; omega
def oneB : Nat := 4607182418800017408
structure Okb (s : St) : Prop where
  bd : Bd s
  t : ∀ n ∈ s.trail, -1000000 ≤ n ∧ n ≤ 1000000
  v : s.value.length ≤ 1000000
  m : s.lemmas.length < 1000000000
  c : s.clauses.length < 1000000000
def okbB (s : St) : Bool := decide (s.clauses.length ≤ 1000000000) && s.clauses.all (fun c => decide (c.length ≤ 1000000) && c.all fun n => decide (-1000000 ≤ n) && decide (n ≤ 1000000)) && s.value.all (fun y => decide (-1 ≤ y) && decide (y ≤ 1)) &&
  s.trail.all (fun n => decide (-1000000 ≤ n) && decide (n ≤ 1000000)) && decide (s.value.length ≤ 1000000) && decide (s.lemmas.length < 1000000000) && decide (s.clauses.length < 1000000000)
theorem okbB_iff (s : St) : okbB s = true ↔ Okb s := by
  unfold okbB
  simp only [Bool.and_eq_true, decide_eq_true_eq, List.all_eq_true]
  constructor
  · rintro ⟨⟨⟨⟨⟨⟨a, b⟩, c⟩, d⟩, e⟩, f⟩, g⟩
    exact ⟨⟨a, b, c⟩, d, e, f, g⟩
  · rintro ⟨⟨a, b, c⟩, d, e, f, g⟩
    exact ⟨⟨⟨⟨⟨⟨a, b⟩, c⟩, d⟩, e⟩, f⟩, g⟩
instance (s : St) : Decidable (Okb s) := decidable_of_iff _ (okbB_iff s)
abbrev Ans := Int × List Bool × List (List Int)
def afterF (kf : Nat) (s : St) (lem : List Int) (back : Int) : Option St :=
  (forgetF { s with lemmas := s.lemmas ++ [lem], clauses := s.clauses ++ [lem] } back).bind fun s4 => (weigh_Decay.f s4.by_).bind fun b => (weigh_Rescale.f kf s4.weights).bind fun r => some { s4 with weights := r.1, by_ := if r.2 = true then oneB else b }
def stepF (kf : Nat) (fuel : Int) (s : St) : Option (St ⊕ Ans) :=
  if Okb s then (spreadF kf s).bind fun p => if Okb p.1 then
    (if p.2 = -1 then (chooseF p.1).bind fun q => if q.2 = true then some (.inl q.1) else some (.inr (1, modelF q.1, []))
     else if p.1.chosen.length = 0 then some (.inr (2, [], p.1.lemmas ++ [[]]))
     else if fuel ≤ (p.1.lemmas.length : Int) then some (.inr (0, [], []))
     else (learnF kf p.1 p.2).bind fun q => (afterF kf q.1 q.2.1 q.2.2).map .inl) else none else none
def solveLoop : Nat → Nat → Int → St → Option Ans
  | 0, _, _, _ => none
  | k + 1, kf, fuel, s => (stepF kf fuel s).bind fun r => match r with
    | .inl s' => solveLoop k kf fuel s'
    | .inr a => some a
def st0 (l0 : List (List Int)) (n : Nat) : St := { clauses := l0, value := List.replicate n 0, level := List.replicate n 0, reason := List.replicate n 0, trail := [], chosen := [], weights := List.replicate n 0, by_ := oneB, lemmas := [] }
def solveF (k : Nat) (l0 : List (List Int)) (a1 a2 : Int) : Option Ans :=
  if rightF l0 a1 = false then some (0, [], []) else if l0.length < 1000000000 then solveLoop k k a2 (st0 l0 (a1 + 1).toNat) else none
theorem rightF_bound {cl : List (List Int)} {a1 : Int} (h : rightF cl a1 = true) : 0 ≤ a1 ∧ a1 ≤ 10000 := by
  unfold rightF at h
  simp only [Bool.and_eq_true, decide_eq_true_eq] at h
  exact h.1
theorem info38 : (Try.prog.info? 38).map (fun i => (i.zero, i.size, i.bytes)) = some (some (.int .i8 0), 1, 1) := by kernel_rfl
theorem pool_nil {w : World} {B : Nat} (pre post : List Row) (e : TypeId) (P : Pool w B (pre ++ post)) : Pool w B (pre ++ ⟨e, .slice none 0 0, []⟩ :: post) := by
  refine (P.push (r := ⟨e, .slice none 0 0, []⟩) (grown_refl w none) ⟨rfl, Or.inl ⟨rfl, rfl⟩⟩ (Or.inl rfl)).perm ?_
  rw [List.append_assoc]
  exact List.Perm.append_left pre List.perm_append_comm
theorem sol_start {w : World} {B : Nat} {v1 v4 v7 v10 v13 : Value} {us0 : List Value} {l0 : List (List Int)} {nn : Nat} (P : Pool w B [⟨32, v1, us0⟩, ⟨38, v4, i8s (List.replicate nn (0 : Int))⟩, ⟨3, v7, i64s (List.replicate nn (0 : Int))⟩, ⟨3, v10, i64s (List.replicate nn (0 : Int))⟩, ⟨44, v13, f64s (List.replicate nn (0 : Nat))⟩]) (hB : B ≤ w.heap.size) :
    Pool (w.alloc (.cells #[v1, v4, v7, v10, .slice none 0 0, .slice none 0 0, v13, .float .f64 4607182418800017408, .slice none 0 0] 46)) B (solRows w.heap.size v1 v4 v7 v10 (.slice none 0 0) (.slice none 0 0) v13 (.slice none 0 0) us0 [] (st0 l0 nn)) := by
  have P1 := P.lit hB 46 #[v1, v4, v7, v10, .slice none 0 0, .slice none 0 0, v13, .float .f64 4607182418800017408, .slice none 0 0] (by show 9 ≤ maxLen; unfold maxLen; omega)
  have P2 := P1.perm (List.perm_append_comm (l₂ := [_]))
  have P3 := pool_nil [_, _, _, _, _] [_] 3 P2
  have P4 := pool_nil [_, _, _, _, _, _] [_] 3 P3
  have P5 := pool_nil [_, _, _, _, _, _, _, _] [] 32 P4
  unfold solRows
  simp only [List.map_nil, List.append_nil]
  exact P5
theorem chooseF_len {s s' : St} {r : Bool} (h : chooseF s = some (s', r)) : s'.value.length = s.value.length := by
  unfold chooseF at h
  split at h
  · obtain ⟨v, _, h⟩ := Option.bind_eq_some_iff.mp h
    obtain ⟨x, _, h⟩ := Option.bind_eq_some_iff.mp h
    split at h
    · cases h; rfl
    · obtain ⟨s3, h3, h⟩ := Option.map_eq_some_iff.1 h
      cases h
      unfold setF at h3
      split at h3
      · cases h3
        exact List.length_set
      · cases h3
  · cases h
theorem R_of_row {w : World} {B b : Nat} {v : Value} {l : List Bool} (h : (Row.mk 4 v (bools l)).own w b) (hB : B ≤ b) : Kd.R Kd.bool 4 w B (fun _ => True) v l := by
  refine Kd.R_of_own ?_ (fun _ _ => trivial)
  have h2 : World.ownsRow w B 4 1 v (bools l).length (bools l) := own_mono h hB
  rw [show (bools l).length = l.length from List.length_map _] at h2
  exact h2
theorem S_nil0 (w : World) (B : Nat) : Kd.S (Kd.slice 3 (Kd.int .i64)) 32 w B (fun _ => True) (.slice none 0 0) [] :=
  S_of_pool (lp := []) ⟨by rintro r hr; rw [List.mem_singleton.1 hr]; exact ⟨rfl, Or.inl ⟨rfl, rfl⟩⟩, by simp [lemRows]⟩
theorem sol_open {W w : World} {g : Nat} {us0 : List Value} {cl0 : List (List Int)} {s : St} (h : Sol W w g us0 cl0 s) :
    ∃ (vc vv vl vr vt : Value) (Ao : Option Addr) (co : Nat) (Aw : Option Addr) (cw : Nat) (Am : Option Addr) (cm : Nat) (lp : List (Value × List Int)), Below W.heap.size W w ∧ Pool w W.heap.size (solRows g vc vv vl vr vt (.slice Ao s.chosen.length co) (.slice Aw s.weights.length cw) (.slice Am s.lemmas.length cm) us0 lp s) ∧ s.lemmas = lp.map (·.2) ∧ s.clauses = cl0 ++ lp.map (·.2) ∧
      w.cell? ⟨g, 0, none⟩ = some vc ∧ w.cell? ⟨g, 5, none⟩ = some (.slice Ao s.chosen.length co) ∧ w.cell? ⟨g, 6, none⟩ = some (.slice Aw s.weights.length cw) ∧ w.cell? ⟨g, 7, none⟩ = some (.float .f64 s.by_) ∧ w.cell? ⟨g, 8, none⟩ = some (.slice Am s.lemmas.length cm) ∧ s.weights.length ≤ cw := by
  obtain ⟨hbel, vc, vv, vl, vr, vt, vo, vw, vm, lp, P, hlm, hcl⟩ := h
  obtain ⟨Ao, co, rfl, _⟩ := row_len (sol_o P)
  obtain ⟨Aw, cw, e, hcw, _⟩ := own_slice' (sol_w P)
  have hwl : (f64s s.weights).length = s.weights.length := List.length_map _
  simp only [hwl] at e hcw
  have e' : vw = .slice Aw s.weights.length cw := e
  subst e'
  obtain ⟨Am, cm, e, _, _⟩ := own_slice' (sol_m P)
  have hml : (lp.map (·.1)).length = s.lemmas.length := by rw [hlm, List.length_map, List.length_map]
  simp only [hml] at e
  have e' : vm = .slice Am s.lemmas.length cm := e
  subst e'
  obtain ⟨g0, g1, g2, g3, g4, g5, g6, g7, g8, gf⟩ := sol_box P
  exact ⟨vc, vv, vl, vr, vt, Ao, co, Aw, cw, Am, cm, lp, hbel, P, hlm, hcl, g0, g5, g6, g7, g8, hcw⟩
theorem sol_no {w : World} {B g : Nat} {vc vv vl vr vt vo vw vm : Value} {us0 : List Value} {lp : List (Value × List Int)} {s : St} (P : Pool w B (solRows g vc vv vl vr vt vo vw vm us0 lp s)) (hB : B ≤ w.heap.size) :
    (w.alloc (.cells #[] 3)).ownsRow B 32 1 vm (lp.map (·.1)).length (lp.map (·.1)) ∧ ∀ (w3 : World) (v4 : Value), w3.ownsRow B 32 1 v4 ((lp.map (·.1)).length + 1) (lp.map (·.1) ++ [.slice (some ⟨w.heap.size, 0, none⟩) 0 0]) → (w.alloc (.cells #[] 3)).grownBy w3 vm.ownBlock → (v4.ownBlock = vm.ownBlock ∨ ∃ b, v4.ownBlock = some b ∧ (w.alloc (.cells #[] 3)).heap.size ≤ b) →
      Kd.S (Kd.slice 3 (Kd.int .i64)) 32 w3 B (fun _ => True) v4 (lp.map (·.2) ++ [[]]) := by
  have P1 := P.lit hB 3 #[] (by show 0 ≤ maxLen; omega)
  refine ⟨P1.at_ (pre := [_, _, _, _, _, _, _, _]), fun w3 v4 ho hg hat => ?_⟩
  have P2 := Pool.upd (pre := [_, _, _, _, _, _, _, _]) P1 hg (app_own ho) hat
  have P3 := P2.sub (M := (⟨32, v4, lp.map (·.1) ++ [.slice (some ⟨w.heap.size, 0, none⟩) 0 0]⟩ : Row) :: (lemRows lp ++ [⟨3, .slice (some ⟨w.heap.size, 0, none⟩) 0 0, []⟩])) (List.sublist_append_right [_, _, _, _, _, _, _, _] _)
  have P4 : Pool w3 B (⟨32, v4, (lp ++ [((.slice (some ⟨w.heap.size, 0, none⟩) 0 0 : Value), ([] : List Int))]).map (·.1)⟩ :: lemRows (lp ++ [((.slice (some ⟨w.heap.size, 0, none⟩) 0 0 : Value), ([] : List Int))])) := by
    unfold lemRows
    rw [List.map_append, List.map_append]
    exact P3
  have := S_of_pool P4
  rw [List.map_append] at this
  exact this
theorem one_slice (A : Option Addr) (n c : Nat) : ∀ u ∈ [Value.slice A n c], u.oneCell' = true := fun u hu => by rw [List.mem_singleton.1 hu]; rfl
theorem learnLoop_same {k : Nat} {s s' : St} {L : Ln} {i : Int} {lem : List Int} {back : Int} (h : learnLoop k s L i = some (s', lem, back)) : ∃ ws, s' = { s with weights := ws } := by
  induction k generalizing s L i with
  | zero => cases h
  | succ k ih =>
    rw [learnLoop] at h
    obtain ⟨n, _, h⟩ := Option.bind_eq_some_iff.mp h
    obtain ⟨sn, _, h⟩ := Option.bind_eq_some_iff.mp h
    split at h
    · exact ih h
    · split at h
      · split at h
        · cases h; exact ⟨_, rfl⟩
        · obtain ⟨q, _, h⟩ := Option.bind_eq_some_iff.mp h
          obtain ⟨c, _, h⟩ := Option.bind_eq_some_iff.mp h
          obtain ⟨⟨s1, L1⟩, h1, h⟩ := Option.bind_eq_some_iff.mp h
          obtain ⟨ws, rfl⟩ := addsF_same h1
          obtain ⟨ws2, rfl⟩ := ih h
          exact ⟨ws2, rfl⟩
      · cases h
theorem learnF_same {k : Nat} {s s' : St} {cf : Int} {lem : List Int} {back : Int} (h : learnF k s cf = some (s', lem, back)) : ∃ ws, s' = { s with weights := ws } := by
  unfold learnF at h
  obtain ⟨c, _, h⟩ := Option.bind_eq_some_iff.mp h
  obtain ⟨⟨s1, L1⟩, h1, h⟩ := Option.bind_eq_some_iff.mp h
  obtain ⟨ws, rfl⟩ := addsF_same h1
  obtain ⟨ws2, rfl⟩ := learnLoop_same h
  exact ⟨ws2, rfl⟩
def rowsX (g : Nat) (vc vv vl vr vt vo vw vm : Value) (us0 : List Value) (lp : List (Value × List Int)) (s : St) (vn : Value) (lem : List Int) : List Row :=
  ⟨3, vn, i64s lem⟩ :: ⟨46, .slice (some ⟨g, 0, none⟩) 9 9, [vc, vv, vl, vr, vt, vo, vw, .float .f64 s.by_, vm]⟩ :: ⟨32, vc, us0 ++ lp.map (·.1)⟩ :: ⟨38, vv, i8s s.value⟩ :: ⟨3, vl, i64s s.level⟩ :: ⟨3, vr, i64s s.reason⟩ ::
  ⟨3, vt, i64s s.trail⟩ :: ⟨3, vo, i64s s.chosen⟩ :: ⟨44, vw, f64s s.weights⟩ :: ⟨32, vm, lp.map (·.1) ++ [vn]⟩ :: lemRows lp
section
variable {w : World} {B g : Nat} {vc vv vl vr vt vo vw vm vn : Value} {us0 : List Value} {lp : List (Value × List Int)} {s : St} {lem : List Int}
theorem lm_step1 (P : Pool w B (⟨3, vn, i64s lem⟩ :: solRows g vc vv vl vr vt vo vw vm us0 lp s)) :
    w.ownsRow B 32 1 vm lp.length (lp.map (·.1)) ∧ ∀ (w3 : World) (v4 : Value), w3.ownsRow B 32 1 v4 (lp.length + 1) (lp.map (·.1) ++ [vn]) → w.grownBy w3 vm.ownBlock → (v4.ownBlock = vm.ownBlock ∨ ∃ b, v4.ownBlock = some b ∧ w.heap.size ≤ b) →
      w3.cell? ⟨g, 8, none⟩ = some vm ∧ w3.frozen? ⟨g, 8, none⟩ = false ∧ w3.cell? ⟨g, 0, none⟩ = some vc ∧ Pool (w3.setCell ⟨g, 8, none⟩ v4) B (rowsX g vc vv vl vr vt vo vw v4 us0 lp s vn lem) := by
  have hl : (lp.map (·.1)).length = lp.length := List.length_map _
  rw [← hl]
  refine ⟨P.at_ (pre := [_, _, _, _, _, _, _, _, _]), fun w3 v4 ho hg hat => ?_⟩
  have P3 := Pool.upd (pre := [_, _, _, _, _, _, _, _, _]) P hg (app_own ho) hat
  obtain ⟨k4, kf4⟩ := box_at (pre := [_]) P3 8 _ rfl
  exact ⟨k4, kf4, (box_at (pre := [_]) P3 0 _ rfl).1, Pool.put (pre := [_]) P3 8 v4⟩
theorem lm_step2 (P : Pool w B (rowsX g vc vv vl vr vt vo vw vm us0 lp s vn lem)) :
    w.cell? ⟨g, 0, none⟩ = some vc ∧ w.ownsRow B 32 1 vc (us0.length + lp.length) (us0 ++ lp.map (·.1)) ∧ ∀ (w3 : World) (v5 : Value), w3.ownsRow B 32 1 v5 (us0.length + lp.length + 1) ((us0 ++ lp.map (·.1)) ++ [vn]) → w.grownBy w3 vc.ownBlock → (v5.ownBlock = vc.ownBlock ∨ ∃ b, v5.ownBlock = some b ∧ w.heap.size ≤ b) →
      w3.cell? ⟨g, 0, none⟩ = some vc ∧ w3.frozen? ⟨g, 0, none⟩ = false ∧ Pool (w3.setCell ⟨g, 0, none⟩ v5) B (solRows g v5 vv vl vr vt vo vw vm us0 (lp ++ [(vn, lem)]) s) := by
  have hl : (us0 ++ lp.map (·.1)).length = us0.length + lp.length := by rw [List.length_append, List.length_map]
  rw [← hl]
  refine ⟨(box_at (pre := [_]) P 0 _ rfl).1, P.at_ (pre := [_, _]), fun w3 v5 ho hg hat => ?_⟩
  have P3 := Pool.upd (pre := [_, _]) P hg (app_own ho) hat
  obtain ⟨k4, kf4⟩ := box_at (pre := [_]) P3 0 _ rfl
  refine ⟨k4, kf4, ?_⟩
  have P4 := Pool.put (pre := [_]) P3 0 v5
  have P5 := P4.perm (List.perm_append_comm (l₁ := [_]))
  unfold solRows lemRows
  rw [List.map_append, List.map_append, ← List.append_assoc]
  exact P5
theorem sol_new_w {w' : World} {vn : Value} {ws : List Nat} (P : Pool w B (solRows g vc vv vl vr vt vo vw vm us0 lp s)) (hB : B ≤ w.heap.size) (hb : Below w.heap.size w w') (ho : (Row.mk 44 vn (f64s ws)).own w' w.heap.size) :
    w'.cell? ⟨g, 6, none⟩ = some vw ∧ w'.frozen? ⟨g, 6, none⟩ = false ∧ Pool (w'.setCell ⟨g, 6, none⟩ vn) B (solRows g vc vv vl vr vt vo vn vm us0 lp { s with weights := ws }) := by
  have P1 := P.fresh hb hB ho
  obtain ⟨k4, kf4⟩ := box_at (pre := []) P1 6 _ rfl
  refine ⟨k4, kf4, ?_⟩
  have P2 := Pool.put (pre := []) P1 6 vn
  have P3 := P2.sub (M := (⟨46, .slice (some ⟨g, 0, none⟩) 9 9, [vc, vv, vl, vr, vt, vo, vn, .float .f64 s.by_, vm]⟩ : Row) :: ⟨32, vc, us0 ++ lp.map (·.1)⟩ :: ⟨38, vv, i8s s.value⟩ :: ⟨3, vl, i64s s.level⟩ :: ⟨3, vr, i64s s.reason⟩ ::
    ⟨3, vt, i64s s.trail⟩ :: ⟨3, vo, i64s s.chosen⟩ :: ((⟨32, vm, lp.map (·.1)⟩ :: lemRows lp) ++ [⟨44, vn, f64s ws⟩])) ((((((((List.sublist_cons_self _ _).cons_cons _).cons_cons _).cons_cons _).cons_cons _).cons_cons _).cons_cons _).cons_cons _)
  exact P3.perm (((((((List.perm_append_comm (l₂ := [_])).cons _).cons _).cons _).cons _).cons _).cons _ |>.cons _)
theorem sol_put_by {x : Nat} (P : Pool w B (solRows g vc vv vl vr vt vo vw vm us0 lp s)) : Pool (w.setCell ⟨g, 7, none⟩ (.float .f64 x)) B (solRows g vc vv vl vr vt vo vw vm us0 lp { s with by_ := x }) :=
  Pool.put (pre := []) P 7 (.float .f64 x)
theorem sol_g (P : Pool w B (solRows g vc vv vl vr vt vo vw vm us0 lp s)) : B ≤ g := sol_ge (P.at_ (pre := []))
end
theorem sol_of5 {W w : World} {g : Nat} {us0 : List Value} {l0 : List (List Int)} {vc vv vl vr vt vo vw vm vn : Value} {lp : List (Value × List Int)} {s2 s3 : St} {lem : List Int} (hb : Below W.heap.size W w) (P : Pool w W.heap.size (solRows g vc vv vl vr vt vo vw vm us0 (lp ++ [(vn, lem)]) s3)) (hs : ∃ ws, s3 = { s2 with weights := ws }) (hlm : s2.lemmas = lp.map (·.2)) (hcl : s2.clauses = l0 ++ lp.map (·.2)) :
    Sol W w g us0 l0 { s3 with lemmas := s3.lemmas ++ [lem], clauses := s3.clauses ++ [lem] } := by
  obtain ⟨ws, rfl⟩ := hs
  refine ⟨hb, _, _, _, _, _, _, _, _, _, P, ?_, ?_⟩
  · show s2.lemmas ++ [lem] = _
    rw [hlm, List.map_append]; rfl
  · show s2.clauses ++ [lem] = _
    rw [hcl, List.map_append, List.append_assoc]; rfl

end Go.Proofs.Ytmdjlhmifhnpdaa.SatW
