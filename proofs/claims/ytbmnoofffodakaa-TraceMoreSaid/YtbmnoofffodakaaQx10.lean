/- written by a program of this session (wip/tools/printx.py, over the kit's printing program) out of the translation -/
import Derived.Test.YtbmnoofffodakaaQx0
import Derived.Test.YtbmnoofffodakaaQx3
import Derived.Test.YtbmnoofffodakaaQx4
namespace Go.Proofs.Ytbmnoofffodakaa.Q
open Go.RowKit Go.Proofs.YtbmnoofffodakaaW.PrintWords Go.Proofs.YtbmnoofffodakaaW.PrintLast Go.Proofs.YtbmnoofffodakaaW.PrintMore
attribute [local go_sem] max2_int min2_int max_two min_two max_three min_three max_four min_four   -- for this text's walks alone
set_option linter.unusedVariables false
set_option linter.unusedSimpArgs false

/-! ### ashlarlaw10_TraceMore: function 5 -/
/-! Rows of headers: cuts. -/
theorem RawRead.take {w : World} {A : Option Addr} {n : Nat} {us : List (List Value)} (h : RawRead w A n us) (m : Nat) (hm : m ≤ n) : RawRead w A m (us.take m) := by
  obtain ⟨h1, h2, h3⟩ := h
  refine ⟨by rw [List.length_take]; omega, by omega, fun hp => ?_⟩
  obtain ⟨ad, hA, hj⟩ := h3 (by omega)
  refine ⟨ad, hA, fun j p hjp => hj j p ?_⟩
  rw [List.getElem?_take] at hjp
  split at hjp
  · exact hjp
  · cases hjp
theorem RawRead.below {W w : World} {A : Option Addr} {n : Nat} {us : List (List Value)} (h : RawRead W A n us) (hb : Below W.heap.size W w) : RawRead w A n us := ReadsRow.imp_ h hb (fun _ _ h => h)
theorem RawRead.of {w : World} {A : Option Addr} {n : Nat} {us : List (List Value)} (h : RawRead w A n us) : ∃ hs : List Value, us = hs.map (fun u => [u]) ∧ (∀ u ∈ hs, u.oneCell' = true) ∧ ReadsOf (fun v : Value => v) (.slice none 0 0) w A n hs := by
  obtain ⟨h1, h2, h3⟩ := h
  by_cases hp : 0 < n
  · obtain ⟨ad, hA, hj⟩ := h3 hp
    have each : ∀ j, j < us.length → ∃ v : Value, us[j]? = some [v] ∧ v.oneCell' = true ∧ w.cell? (ad.add j) = some v := by
      intro j hjl
      obtain ⟨c, g1, ⟨g2, g3, g4⟩, g5⟩ := hj j _ (List.getElem?_eq_getElem hjl)
      subst g2
      obtain ⟨v, hv⟩ := List.length_eq_one_iff.1 g3
      refine ⟨v, by rw [List.getElem?_eq_getElem hjl, hv], g4 v (by rw [hv]; simp), ?_⟩
      have := g5 0 v (by rw [hv]; rfl)
      simpa using this
    obtain ⟨f, hf⟩ := Go.Deep.choose_lt each
    refine ⟨(List.range us.length).map f, ?_, fun u hu => ?_, by simp [h1], h2, fun _ => ⟨ad, hA, fun j hjn => ?_⟩⟩
    · apply List.ext_getElem?
      intro j
      by_cases hjl : j < us.length
      · rw [(hf j hjl).1, List.getElem?_map, List.getElem?_map, List.getElem?_range hjl]; rfl
      · rw [List.getElem?_eq_none (by omega), List.getElem?_eq_none (by simp; omega)]
    · obtain ⟨j, hjr, rfl⟩ := List.mem_map.1 hu
      exact (hf j (List.mem_range.1 hjr)).2.1
    · have hjl : j < us.length := by omega
      rw [List.getD_eq_getElem?_getD, List.getElem?_map, List.getElem?_range hjl]
      exact (hf j hjl).2.2
  · have : us = [] := List.eq_nil_of_length_eq_zero (by omega)
    subst this
    exact ⟨[], rfl, by simp, by simpa using h1, h2, fun h => absurd h (by omega)⟩
theorem RawRead.mk' {w : World} {A : Option Addr} {n : Nat} {hs : List Value} (h1 : ∀ u ∈ hs, u.oneCell' = true) (h : ReadsOf (fun v : Value => v) (.slice none 0 0) w A n hs) : RawRead w A n (hs.map fun u => [u]) := by
  obtain ⟨a, b, c⟩ := h
  refine ⟨by rw [List.length_map]; exact a, b, fun hp => ?_⟩
  obtain ⟨ad, hA, hj⟩ := c hp
  refine ⟨ad, hA, fun j p hjp => ?_⟩
  rw [List.getElem?_map] at hjp
  obtain ⟨u, hu, rfl⟩ := Option.map_eq_some_iff.1 hjp
  have hjl := (List.getElem?_eq_some_iff.1 hu).1
  refine ⟨[u], rfl, ⟨rfl, rfl, fun x hx => ?_⟩, fun i x hx => ?_⟩
  · rw [List.mem_singleton.1 hx]
    exact h1 u (List.mem_of_getElem? hu)
  · cases i with
    | zero =>
      have hxe : u = x := by simpa using hx
      subst hxe
      have := hj j (by omega)
      rw [List.getD_eq_getElem?_getD, hu] at this
      simpa using this
    | succ i => simp at hx
/-- 'xs[q:]' of a row of headers. -/
theorem raw_drop {A : Option Addr} {n c q : Nat} (hq : q ≤ n) (hc : n ≤ c) : ∃ A' : Option Addr, (∀ W : World, (Instr.slice 22 (.slice A n c) (some (.int .i64 (q : Int))) none none).run Try.prog W = .ok (.slice A' (n - q) (c - q)) W) ∧ ∀ (w : World) (us : List (List Value)), RawRead w A n us → RawRead w A' (n - q) (us.drop q) := by
  obtain ⟨i0, hi0, _, hsz, _⟩ := info_parts info26
  obtain ⟨A', h1, h2⟩ := print_cut_of (P := Try.prog) (fun v : Value => v) (.slice none 0 0) 22 26 .i64 Try.underlying22 hi0 hsz A n c q hq
  refine ⟨A', h1, fun w us hr => ?_⟩
  obtain ⟨hs, rfl, g1, g2⟩ := hr.of
  rw [← List.map_drop]
  exact RawRead.mk' (fun u hu => g1 u (List.mem_of_mem_drop hu)) (h2 w hs hc g2)
theorem raw_take {A : Option Addr} {n c q : Nat} (hq : q ≤ n) (hc : n ≤ c) : ∀ W : World, (Instr.slice 22 (.slice A n c) none (some (.int .i64 (q : Int))) none).run Try.prog W = .ok (.slice A q c) W := by
  obtain ⟨i0, hi0, _, hsz, _⟩ := info_parts info26
  have := (print_take_of (P := Try.prog) (fun v : Value => v) (.slice none 0 0) 22 26 .i64 Try.underlying22 hi0 hsz A c (List.replicate n (.slice none 0 0)) (q : Int) (by omega) (by simp; omega) (by simp; omega)).1
  simp only [List.length_replicate, List.length_take, Int.toNat_natCast] at this
  rw [Nat.min_eq_left hq] at this
  exact this
theorem Heads.take {w : World} {us : List (List Value)} {xs : List (List Int)} (h : Heads w us xs) (m : Nat) : Heads w (us.take m) (xs.take m) := by
  refine ⟨by rw [List.length_take, List.length_take, h.1], fun j p u hp hu => h.2 j p u ?_ ?_⟩
  · rw [List.getElem?_take] at hp
    split at hp
    · exact hp
    · cases hp
  · rw [List.getElem?_take] at hu
    split at hu
    · exact hu
    · cases hu
theorem Heads.drop {w : World} {us : List (List Value)} {xs : List (List Int)} (h : Heads w us xs) (m : Nat) : Heads w (us.drop m) (xs.drop m) := by
  refine ⟨by rw [List.length_drop, List.length_drop, h.1], fun j p u hp hu => h.2 (m + j) p u ?_ ?_⟩
  · rw [List.getElem?_drop] at hp; exact hp
  · rw [List.getElem?_drop] at hu; exact hu
theorem Heads.one {w : World} {A : Option Addr} {c : Nat} {x : List Int} (hl : x.length ≤ c) (h : (Kd.int .i64).C w A x.length x) : Heads w [[.slice A x.length c]] [x] := by
  refine ⟨rfl, fun j p u hp hu => ?_⟩
  cases j with
  | zero =>
    have e1 : x = p := by simpa using hp
    have e2 : [Value.slice A x.length c] = u := by simpa using hu
    subst e1 e2
    exact ⟨A, c, rfl, hl, h⟩
  | succ j => simp at hp
theorem rawR_reads {e : Nat} {w : World} {base : Nat} {ok : Nat → Prop} {A : Option Addr} {n c : Nat} {us : List (List Value)} (h : (Kd.raw 1).R e w base ok (.slice A n c) us) : n = us.length ∧ RawRead w A us.length us := by
  obtain ⟨h1, h2, h3⟩ := Kd.R_reads' h
  exact ⟨h1, h3⟩
theorem ne_new {X v : Value} {n : Nat} (hX : ∀ k, X.ownBlock = some k → k < n) (hv : ∃ b, v.ownBlock = some b ∧ n ≤ b) : X.ownBlock ≠ v.ownBlock := by
  obtain ⟨b, e, hb⟩ := hv
  intro h
  have := hX b (h.trans e)
  omega
theorem ne_after {v v1 v9 : Value} {n : Nat} (hne : v.ownBlock ≠ v9.ownBlock) (h9 : ∀ k, v9.ownBlock = some k → k < n) (hat : v1.ownBlock = v.ownBlock ∨ ∃ b, v1.ownBlock = some b ∧ n ≤ b) : v1.ownBlock ≠ v9.ownBlock := by
  rcases hat with e | h
  · rw [e]; exact hne
  · exact (ne_new h9 h).symm
theorem bits_mask_more (a : Int) : 0 ≤ Go.bits .and .i64 a 65535 := by
  have h2 : (BitVec.ofInt 64 (65535 : Int)).toNat = 65535 := by decide
  show 0 ≤ IntKind.i64.wrap ((BitVec.ofInt 64 a &&& BitVec.ofInt 64 (65535 : Int)).toNat : Int)
  rw [BitVec.toNat_and, h2, i64_w]
  have : (BitVec.ofInt 64 a).toNat &&& 65535 ≤ 65535 := Nat.and_le_right
  unfold wrap64
  omega
/-! The law More: walked by hand (moremk.py, moreg.py). -/
def ashlarlaw10_TraceMore.t (k : Nat) (L M : List (List Int)) (C : List Int) (a3 : Int) : Option Bool :=
  if M.length = 0 then none else if L.length ≤ 1000 ∧ M.length ≤ 1000 then
    (trace_Check.f k (L ++ [C]) M).bind fun t1 => if t1 = true then (trace_Check.f k L (M.take (Int.tmod (Go.bits .and .i64 a3 65535) (M.length : Int)).toNat ++ [rd_L1 M (Int.tmod (Go.bits .and .i64 a3 65535) (M.length : Int))] ++ M.drop (Int.tmod (Go.bits .and .i64 a3 65535) (M.length : Int)).toNat)).bind fun t2 => if t2 = true then
      (trace_Check.f k L (if 0 < L.length then [rd_L1 L (Int.tmod (Go.bits .and .i64 a3 65535) (L.length : Int))] ++ M else M)).bind fun t3 => if t3 = true then trace_Check.f k ([C] ++ L) M else none else none else none
  else none
def ashlarlaw10_TraceMore.l0 : Nat → List (List Int) → List (List Int) → List Int → Int → Int → Option Bool
  | 0, _, _, _, _, _ => none
  | k + 1, L, M, C, a3, i => if i < (C.length : Int) then (if 0 ≤ i then (if rd C i = 0 then some true else (if rd C i < -10000 then some true else (if rd C i > 10000 then some true else ashlarlaw10_TraceMore.l0 k L M C a3 (wrap64 (i + 1))))) else none) else ashlarlaw10_TraceMore.t k L M C a3
def ashlarlaw10_TraceMore.f (k : Nat) (l0 l1 : List (List Int)) (l2 : List Int) (a3 : Int) : Option Bool :=
  (ashlarlaw10_shown.f k).bind fun h => if h = true then (ashlarlaw10_few.f k l0).bind fun L => (ashlarlaw10_few.f k l1).bind fun M => (trace_Check.f k L M).bind fun t => if t = true then ashlarlaw10_TraceMore.l0 k L M (l2.take (mn (l2.length : Int) 10).toNat) a3 0 else some true else none
set_option maxHeartbeats 4000000 in
set_option maxRecDepth 100000 in
theorem ashlarlaw10_TraceMore.calls (k : Nat) (AA : Option Addr) (cA : Nat) (lA : List (List Int)) (AB : Option Addr) (cB : Nat) (lB : List (List Int)) (A2 : Option Addr) (c2 : Nat) (l2 : List Int) (a3 : Int) (r : Bool) (wA : World) (hr0 : Kd.C (Kd.slice 3 (Kd.int .i64)) wA AA lA.length lA) (hc0 : lA.length ≤ cA) (hr1 : Kd.C (Kd.slice 3 (Kd.int .i64)) wA AB lB.length lB) (hc1 : lB.length ≤ cB) (hr2 : Kd.C (Kd.int .i64) wA A2 l2.length l2) (hc2 : l2.length ≤ c2) (h : ashlarlaw10_TraceMore.f k lA lB l2 a3 = some r) :
    Calls Try.prog 5 #[.slice AA lA.length cA, .slice AB lB.length cB, .slice A2 l2.length c2, .int .i64 a3] wA fun e w' => e = .returned (.bool r) ∧ Below wA.heap.size wA w' := by
  have HRA := Aside0.mk hr0
  have HCA := Aside0.mk hc0
  have HRB := Aside0.mk hr1
  have HCB := Aside0.mk hc1
  have HR2 := Aside0.mk hr2
  have HC2 := Aside0.mk hc2
  have HBA := Aside0.mk (Below.refl wA.heap.size wA)
  clear hr0 hc0 hr1 hc1 hr2 hc2
  unfold ashlarlaw10_TraceMore.f at h
  obtain ⟨th, hs, h⟩ := Option.bind_eq_some_iff.mp h
  by_cases cth : th = true
  case neg => rw [if_neg cth] at h; cases h
  subst cth
  rw [if_pos rfl] at h
  obtain ⟨L, hf0, h⟩ := Option.bind_eq_some_iff.mp h
  obtain ⟨M, hf1, h⟩ := Option.bind_eq_some_iff.mp h
  obtain ⟨t, hch, h⟩ := Option.bind_eq_some_iff.mp h
  have HS := Aside0.mk hs
  have HF0 := Aside0.mk hf0
  have HF1 := Aside0.mk hf1
  have HCH := Aside0.mk hch
  clear hs hf0 hf1 hch
  cases t with
  | false =>
    rw [if_neg (by decide)] at h
    obtain rfl := Option.some.inj h
    clear h
    go_enter Try.func5, Try.ntmps5
    go_wp2_with (first | ((with_reducible refine gate_callee (f := 10) rfl ?_); (try (refine gate_guard (by rfl) ?_; dsimp only)); refine goesL_ (some 14) rfl rfl Try.func10 (by kernel_rfl) rfl #[] rfl (by (try simp only [List.map_toArray, List.map_cons, List.map_nil]); first | done | rfl) ?_; (with_reducible refine (ashlarlaw10_shown.calls k true _ HS.out).mono ?_); rintro e w1 ⟨rfl, hb⟩; refine ⟨_, rfl, ?_⟩; have n0_ := Aside0.mk (below_step (by repeat (first | (with_reducible first | exact HBA.out | apply below_alloc | apply pw_below_drewN | apply below_drew1) | exact HBA.out)) hb); clear HBA; have HBA := n0_; clear n0_ hb) | ((with_reducible refine gate_callee (f := 11) rfl ?_); (try (refine gate_guard (by rfl) ?_; dsimp only)); refine goesL_ (some 16) rfl rfl Try.func11 (by kernel_rfl) rfl #[.slice AA lA.length cA] rfl (by (try simp only [List.map_toArray, List.map_cons, List.map_nil]); first | done | rfl) ?_; (with_reducible refine (ashlarlaw10_few.calls k AA cA lA L _ (Kd.C_below HRA.out (by repeat (first | (with_reducible first | exact HBA.out | apply below_alloc | apply pw_below_drewN | apply below_drew1) | exact HBA.out))) HCA.out HF0.out).mono ?_); rintro e w2 ⟨vA, rfl, ho0, hb⟩; obtain ⟨A0, c0, eA⟩ := Kd.S_slice ho0; subst eA; refine ⟨_, rfl, ?_⟩; have n0_ := Aside0.mk (below_step (by repeat (first | (with_reducible first | exact HBA.out | apply below_alloc | apply pw_below_drewN | apply below_drew1) | exact HBA.out)) hb); clear HBA HF0; have HBA := n0_; clear n0_ hb; have HO0 := Aside0.mk ho0; clear ho0) | ((with_reducible refine gate_callee (f := 11) rfl ?_); (try (refine gate_guard (by rfl) ?_; dsimp only)); refine goesL_ (some 18) rfl rfl Try.func11 (by kernel_rfl) rfl #[.slice AB lB.length cB] rfl (by (try simp only [List.map_toArray, List.map_cons, List.map_nil]); first | done | rfl) ?_; (with_reducible refine (ashlarlaw10_few.calls k AB cB lB M _ (Kd.C_below HRB.out (by repeat (first | (with_reducible first | exact HBA.out | apply below_alloc | apply pw_below_drewN | apply below_drew1) | exact HBA.out))) HCB.out HF1.out).mono ?_); rintro e w ⟨vB, rfl, ho1, hb⟩; obtain ⟨A1, c1, eB⟩ := Kd.S_slice ho1; subst eB; refine ⟨_, rfl, ?_⟩; have HR0 := Aside0.mk (Kd.C_below (Kd.S_reads' HO0.out).2.2 hb); have HC0 := Aside0.mk (Kd.S_reads' HO0.out).2.1; have HR1 := Aside0.mk (Kd.S_reads' ho1).2.2; have HC1 := Aside0.mk (Kd.S_reads' ho1).2.1; have n0_ := Aside0.mk (below_step (by repeat (first | (with_reducible first | exact HBA.out | apply below_alloc | apply pw_below_drewN | apply below_drew1) | exact HBA.out)) hb); clear HBA HF1 HO0; have HBA := n0_; clear n0_ hb ho1; have HB := Aside0.mk (Below.refl w.heap.size w)) | ((with_reducible refine gate_callee (f := 12) rfl ?_); (try (refine gate_guard (by rfl) ?_; dsimp only)); refine goesL_ (some 21) rfl rfl Try.func12 (by kernel_rfl) rfl #[.slice A0 L.length c0, .slice A1 M.length c1] rfl (by (try simp only [List.map_toArray, List.map_cons, List.map_nil]); first | done | rfl) ?_; (with_reducible refine (trace_Check.calls k A0 c0 L A1 c1 M _ _ (Kd.C_below HR0.out (by repeat (first | (with_reducible first | exact HB.out | apply below_alloc | apply pw_below_drewN | apply below_drew1) | exact HB.out))) HC0.out (Kd.C_below HR1.out (by repeat (first | (with_reducible first | exact HB.out | apply below_alloc | apply pw_below_drewN | apply below_drew1) | exact HB.out))) HC1.out HCH.out).mono ?_); rintro e w4 ⟨rfl, hb⟩; refine ⟨_, rfl, ?_⟩; have n0_ := Aside0.mk (below_step (by repeat (first | (with_reducible first | exact HB.out | apply below_alloc | apply pw_below_drewN | apply below_drew1) | exact HB.out)) hb); clear HB HCH; have HB := n0_; clear n0_ hb))
    go_ret
    exact ⟨rfl, below_step HBA.out HB.out⟩
  | true =>
    rw [if_pos rfl] at h
    obtain ⟨jc, hjc⟩ : ∃ j : Int, mn (l2.length : Int) 10 = j := ⟨_, rfl⟩
    rw [hjc] at h
    have hjc0 : 0 ≤ jc ∧ jc ≤ (l2.length : Int) := by rw [← hjc]; unfold mn; split <;> omega
    have hjc_ : (if 10 < (l2.length : Int) then 10 else (l2.length : Int)) = jc := hjc
    obtain ⟨i0, hi0, _, hsz0, _⟩ := info_parts info3
    obtain ⟨hcut, hA9, hC9⟩ := print_take_of (P := Try.prog) (Value.int .i64) 0 26 3 .i64 Try.underlying26 hi0 hsz0 A2 c2 l2 jc hjc0.1 hjc0.2 HC2.out
    have HRC := Aside0.mk (Kd.C_of_reads (h1 := fun _ => rfl) (hA9 _ (Kd.reads_of_C HR2.out)))
    have HCC := Aside0.mk hC9
    clear hA9 hC9 hi0 hsz0
    generalize l2.take jc.toNat = C at h hcut HRC HCC
    have H' := Aside0.mk h
    have d0 := eq_true hjc0.1
    have d1 := eq_true hjc0.2
    clear h hjc0
    go_enter Try.func5, Try.ntmps5
    go_wp2_with (first | ((with_reducible refine gate_callee (f := 10) rfl ?_); (try (refine gate_guard (by rfl) ?_; dsimp only)); refine goesL_ (some 14) rfl rfl Try.func10 (by kernel_rfl) rfl #[] rfl (by (try simp only [List.map_toArray, List.map_cons, List.map_nil]); first | done | rfl) ?_; (with_reducible refine (ashlarlaw10_shown.calls k true _ HS.out).mono ?_); rintro e w1 ⟨rfl, hb⟩; refine ⟨_, rfl, ?_⟩; have n0_ := Aside0.mk (below_step (by repeat (first | (with_reducible first | exact HBA.out | apply below_alloc | apply pw_below_drewN | apply below_drew1) | exact HBA.out)) hb); clear HBA; have HBA := n0_; clear n0_ hb) | ((with_reducible refine gate_callee (f := 11) rfl ?_); (try (refine gate_guard (by rfl) ?_; dsimp only)); refine goesL_ (some 16) rfl rfl Try.func11 (by kernel_rfl) rfl #[.slice AA lA.length cA] rfl (by (try simp only [List.map_toArray, List.map_cons, List.map_nil]); first | done | rfl) ?_; (with_reducible refine (ashlarlaw10_few.calls k AA cA lA L _ (Kd.C_below HRA.out (by repeat (first | (with_reducible first | exact HBA.out | apply below_alloc | apply pw_below_drewN | apply below_drew1) | exact HBA.out))) HCA.out HF0.out).mono ?_); rintro e w2 ⟨vA, rfl, ho0, hb⟩; obtain ⟨A0, c0, eA⟩ := Kd.S_slice ho0; subst eA; refine ⟨_, rfl, ?_⟩; have n0_ := Aside0.mk (below_step (by repeat (first | (with_reducible first | exact HBA.out | apply below_alloc | apply pw_below_drewN | apply below_drew1) | exact HBA.out)) hb); clear HBA HF0; have HBA := n0_; clear n0_ hb; have HO0 := Aside0.mk ho0; clear ho0) | ((with_reducible refine gate_callee (f := 11) rfl ?_); (try (refine gate_guard (by rfl) ?_; dsimp only)); refine goesL_ (some 18) rfl rfl Try.func11 (by kernel_rfl) rfl #[.slice AB lB.length cB] rfl (by (try simp only [List.map_toArray, List.map_cons, List.map_nil]); first | done | rfl) ?_; (with_reducible refine (ashlarlaw10_few.calls k AB cB lB M _ (Kd.C_below HRB.out (by repeat (first | (with_reducible first | exact HBA.out | apply below_alloc | apply pw_below_drewN | apply below_drew1) | exact HBA.out))) HCB.out HF1.out).mono ?_); rintro e w ⟨vB, rfl, ho1, hb⟩; obtain ⟨A1, c1, eB⟩ := Kd.S_slice ho1; subst eB; refine ⟨_, rfl, ?_⟩; have HR0 := Aside0.mk (Kd.C_below (Kd.S_reads' HO0.out).2.2 hb); have HC0 := Aside0.mk (Kd.S_reads' HO0.out).2.1; have HR1 := Aside0.mk (Kd.S_reads' ho1).2.2; have HC1 := Aside0.mk (Kd.S_reads' ho1).2.1; have n0_ := Aside0.mk (below_step (by repeat (first | (with_reducible first | exact HBA.out | apply below_alloc | apply pw_below_drewN | apply below_drew1) | exact HBA.out)) hb); clear HBA HF1 HO0; have HBA := n0_; clear n0_ hb ho1; have HB := Aside0.mk (Below.refl w.heap.size w)) | ((with_reducible refine gate_callee (f := 12) rfl ?_); (try (refine gate_guard (by rfl) ?_; dsimp only)); refine goesL_ (some 21) rfl rfl Try.func12 (by kernel_rfl) rfl #[.slice A0 L.length c0, .slice A1 M.length c1] rfl (by (try simp only [List.map_toArray, List.map_cons, List.map_nil]); first | done | rfl) ?_; (with_reducible refine (trace_Check.calls k A0 c0 L A1 c1 M _ _ (Kd.C_below HR0.out (by repeat (first | (with_reducible first | exact HB.out | apply below_alloc | apply pw_below_drewN | apply below_drew1) | exact HB.out))) HC0.out (Kd.C_below HR1.out (by repeat (first | (with_reducible first | exact HB.out | apply below_alloc | apply pw_below_drewN | apply below_drew1) | exact HB.out))) HC1.out HCH.out).mono ?_); rintro e w4 ⟨rfl, hb⟩; refine ⟨_, rfl, ?_⟩; have n0_ := Aside0.mk (below_step (by repeat (first | (with_reducible first | exact HB.out | apply below_alloc | apply pw_below_drewN | apply below_drew1) | exact HB.out)) hb); clear HB HCH; have HB := n0_; clear n0_ hb))
    clear hcut hjc_ d0 d1
    obtain ⟨HRCw, HBAw⟩ : Aside0 (Kd.C (Kd.int .i64) w A2 C.length C) ∧ Aside0 (Below wA.heap.size wA w) := ⟨⟨Kd.C_below HRC.out HBA.out⟩, HBA⟩
    clear HRC HBA HRA HCA HRB HCB HR2 HC2
    go_loopg [10] k (fun kq v10 w' => ∃ (x10 : Int), v10 = .int .i64 x10 ∧ Aside0 (ashlarlaw10_TraceMore.l0 kq L M C a3 x10 = some r) ∧ Aside0 (kq ≤ k) ∧ Aside0 (Below w.heap.size w w'))
    case atStart => exact ⟨0, rfl, H', ⟨Nat.le_refl _⟩, HB⟩
    case round =>
      clear H' HB
      obtain ⟨x10, rfl, HQ, HK, HB⟩ := hrel
      cases gk with
      | zero => exact absurd HQ.out (by simp [ashlarlaw10_TraceMore.l0])
      | succ k1 =>
        have H := HQ.out
        clear HQ
        simp only [ashlarlaw10_TraceMore.l0] at H
        by_cases c1 : x10 < (C.length : Int)
        · rw [if_pos c1] at H
          have c1b : decide (x10 < (C.length : Int)) = true := decide_eq_true c1
          by_cases c2 : 0 ≤ x10
          · rw [if_pos c2] at H
            have c2b : decide (0 ≤ x10) = true := decide_eq_true c2
            obtain ⟨adC, eC, hxC⟩ := Kd.at_int HRCw.out x10 c2 c1
            cases eC
            have hxC2 := (HB.out.cell (World.block_lt_of_cell? w _ hxC)).trans hxC
            clear hxC
            have p1 := eq_true c2
            have p2 := eq_true c1
            clear c1 c2
            by_cases c3 : rd C x10 = 0
            · rw [if_pos c3] at H
              have c3b : (rd C x10 == 0) = true := beq_iff_eq.mpr c3
              obtain rfl := Option.some.inj H
              clear c3 H
              go_wp2
              go_ret
              exact ⟨rfl, below_step HBAw.out HB.out⟩
            · rw [if_neg c3] at H
              have c3b : (rd C x10 == 0) = false := beq_eq_false_iff_ne.mpr c3
              clear c3
              by_cases c4 : rd C x10 < -10000
              · rw [if_pos c4] at H
                have c4b : decide (rd C x10 < -10000) = true := decide_eq_true c4
                obtain rfl := Option.some.inj H
                clear c4 H
                go_wp2
                go_ret
                exact ⟨rfl, below_step HBAw.out HB.out⟩
              · rw [if_neg c4] at H
                have c4b : decide (rd C x10 < -10000) = false := decide_eq_false c4
                clear c4
                by_cases c5 : rd C x10 > 10000
                · rw [if_pos c5] at H
                  have c5b : decide (10000 < rd C x10) = true := decide_eq_true c5
                  obtain rfl := Option.some.inj H
                  clear c5 H
                  go_wp2
                  go_ret
                  exact ⟨rfl, below_step HBAw.out HB.out⟩
                · rw [if_neg c5] at H
                  have c5b : decide (10000 < rd C x10) = false := decide_eq_false c5
                  clear c5
                  have H' := Aside0.mk H
                  clear H
                  go_wp2
                  go_roundg k1
                  case measure => have := HK.out; omega
                  case rel => exact ⟨wrap64 (x10 + 1), (by first | rfl | (simp; done) | (simp [*]; done)), H', ⟨by have := HK.out; omega⟩, HB⟩
          · rw [if_neg c2] at H
            cases H
        · rw [if_neg c1] at H
          have c1b : decide (x10 < (C.length : Int)) = false := decide_eq_false c1
          clear c1
          have HBA := HBAw
          unfold ashlarlaw10_TraceMore.t at H
          by_cases cm : M.length = 0
          · rw [if_pos cm] at H
            cases H
          rw [if_neg cm] at H
          by_cases cl : L.length ≤ 1000 ∧ M.length ≤ 1000
          case neg => rw [if_neg cl] at H; cases H
          rw [if_pos cl] at H
          obtain ⟨q, hq, hqlt⟩ : ∃ q : Nat, Int.tmod (Go.bits .and .i64 a3 65535) (M.length : Int) = (q : Int) ∧ q < M.length := by
            have h0 := bits_mask_more a3
            have h1 := Int.tmod_nonneg (M.length : Int) h0
            have h2 := Int.tmod_lt_of_pos (Go.bits .and .i64 a3 65535) (b := (M.length : Int)) (by omega)
            exact ⟨(Int.tmod (Go.bits .and .i64 a3 65535) (M.length : Int)).toNat, by omega, by omega⟩
          rw [hq, Int.toNat_natCast] at H
          have cm1 : ((M.length : Int) == 0) = false := beq_eq_false_iff_ne.mpr (by omega)
          have cm2 : ((M.length : Int) != 0) = true := bne_iff_ne.mpr (by omega)
          have cm3 : ((M.length : Int) = 0) = False := eq_false (by omega)
          have cm4 : (M.length = 0) = False := eq_false cm
          have HML := Aside0.mk cl.2
          have HLL := Aside0.mk cl.1
          have HQL := Aside0.mk (Nat.le_of_lt hqlt)
          have HQ1 := Aside0.mk (show q ≤ 1000 by omega)
          have HH := Aside0.mk H
          obtain ⟨adM, AM, cM, eM, hxM, hlM, hiM⟩ := at_L1 HR1.out (q : Int) (Int.natCast_nonneg q) (by omega)
          obtain rfl := eM
          rw [Int.toNat_natCast] at hxM
          have HXM := Aside0.mk hxM
          have HHQ := Aside0.mk (Heads.one hlM hiM)
          obtain ⟨us, hhm, hrm⟩ := heads_of_C HR1.out
          have HHM := Aside0.mk hhm
          have HRM := Aside0.mk hrm
          have hcutT := raw_take (A := some adM) (c := c1) HQL.out HC1.out
          obtain ⟨AD, hcutD, hdrop⟩ := raw_drop (A := some adM) (c := c1) HQL.out HC1.out
          have p1 : ((0 : Int) ≤ (q : Int)) = True := eq_true (by omega)
          have p2 : ((q : Int) < (M.length : Int)) = True := eq_true (by omega)
          have p3 : (q < M.length) = True := eq_true hqlt
          clear hlM hiM hhm hrm cl cm hxM hqlt H HBAw
          go_wp2
          replace HB := Aside0.mk (below_drew1 HB.out)
          have hxM2 := (HB.out.cell (World.block_lt_of_cell? w _ HXM.out)).trans HXM.out
          refine start_ (n := 16) (S := fun w' => w'.cell? (adM.add q) = some (.slice AM (rd_L1 M (q : Int)).length cM)) (ds := []) #[false, false, false, false, false, false, false, false, false, false, false, false, false, false, false, false] (by kernel_rfl) rfl rfl (hxM2) (fun hHeld => ?_)
          generalize wr.drew = w5 at HB hxM2 hHeld ⊢
          refine pure_ (i := 1) (N := some 61) (v := ?_) (a' := ?_) #[false, true, false, false, false, false, false, false, false, false, false, false, false, false, false, false] rfl rfl (by kernel_rfl) (fun _ _ _ h => h) (Or.inl ⟨by rfl, ?_⟩) ?_ ?_
          rotate_left
          · intro w'
            go_simp
            with_reducible rfl
          rotate_left
          · simp only [Act.put, List.setIfInBounds_toArray, List.set_cons_zero, List.set_cons_succ, i64_w, i32_w]
            rfl
          refine pure_ (i := 2) (N := some 62) (v := ?_) (a' := ?_) #[false, true, true, false, false, false, false, false, false, false, false, false, false, false, false, false] rfl rfl (by kernel_rfl) (fun _ _ _ h => h) (Or.inl ⟨by rfl, ?_⟩) ?_ ?_
          rotate_left
          · intro w'
            go_simp
            with_reducible rfl
          rotate_left
          · simp only [Act.put, List.setIfInBounds_toArray, List.set_cons_zero, List.set_cons_succ, i64_w, i32_w]
            rfl
          refine pure_ (i := 3) (N := some 63) (v := ?_) (a' := ?_) #[false, true, true, true, false, false, false, false, false, false, false, false, false, false, false, false] rfl rfl (by kernel_rfl) (fun _ _ _ h => h) (Or.inl ⟨by rfl, ?_⟩) ?_ ?_
          rotate_left
          · intro w'
            go_simp
            with_reducible rfl
          rotate_left
          · simp only [Act.put, List.setIfInBounds_toArray, List.set_cons_zero, List.set_cons_succ, i64_w, i32_w]
            rfl
          refine pure_ (i := 5) (N := some 65) (v := ?_) (a' := ?_) #[false, true, true, true, false, true, false, false, false, false, false, false, false, false, false, false] rfl rfl (by kernel_rfl) (fun _ _ _ h => h) (Or.inl ⟨by rfl, ?_⟩) ?_ ?_
          rotate_left
          · intro w'
            go_simp
            with_reducible rfl
          rotate_left
          · simp only [Act.put, List.setIfInBounds_toArray, List.set_cons_zero, List.set_cons_succ, i64_w, i32_w]
            rfl
          refine pure_ (i := 6) (N := some 66) (v := ?_) (a' := ?_) #[false, true, true, true, false, true, true, false, false, false, false, false, false, false, false, false] rfl rfl (by kernel_rfl) (fun _ _ _ h => h) (Or.inl ⟨by rfl, ?_⟩) ?_ ?_
          rotate_left
          · intro w'
            go_simp
            with_reducible rfl
          rotate_left
          · simp only [Act.put, List.setIfInBounds_toArray, List.set_cons_zero, List.set_cons_succ, i64_w, i32_w]
            rfl
          refine pure_ (i := 7) (N := some 67) (v := ?_) (a' := ?_) #[false, true, true, true, false, true, true, true, false, false, false, false, false, false, false, false] rfl rfl (by kernel_rfl) (fun _ _ _ h => h) (Or.inl ⟨by rfl, ?_⟩) ?_ ?_
          rotate_left
          · intro w'
            go_simp
            with_reducible rfl
          rotate_left
          · simp only [Act.put, List.setIfInBounds_toArray, List.set_cons_zero, List.set_cons_succ, i64_w, i32_w]
            rfl
          refine pure_ (i := 11) (N := some 71) (v := ?_) (a' := ?_) #[false, true, true, true, false, true, true, true, false, false, false, true, false, false, false, false] rfl rfl (by kernel_rfl) (fun _ _ _ h => h) (Or.inl ⟨by rfl, ?_⟩) ?_ ?_
          rotate_left
          · intro w'
            go_simp
            with_reducible rfl
          rotate_left
          · simp only [Act.put, List.setIfInBounds_toArray, List.set_cons_zero, List.set_cons_succ, i64_w, i32_w]
            rfl
          refine pure_ (i := 12) (N := some 72) (v := ?_) (a' := ?_) #[false, true, true, true, false, true, true, true, false, false, false, true, true, false, false, false] rfl rfl (by kernel_rfl) (fun _ _ _ h => h) (Or.inl ⟨by rfl, ?_⟩) ?_ ?_
          rotate_left
          · intro w'
            go_simp
            with_reducible rfl
          rotate_left
          · simp only [Act.put, List.setIfInBounds_toArray, List.set_cons_zero, List.set_cons_succ, i64_w, i32_w]
            rfl
          refine pure_ (i := 13) (N := some 73) (v := ?_) (a' := ?_) #[false, true, true, true, false, true, true, true, false, false, false, true, true, true, false, false] rfl rfl (by kernel_rfl) (fun _ _ _ h => h) (Or.inl ⟨by rfl, ?_⟩) ?_ ?_
          rotate_left
          · intro w'
            go_simp
            with_reducible rfl
          rotate_left
          · simp only [Act.put, List.setIfInBounds_toArray, List.set_cons_zero, List.set_cons_succ, i64_w, i32_w]
            rfl
          refine take_ (i := 8) (N := some 68) (v := ?_) (a' := ?_) #[false, true, true, true, false, true, true, true, true, false, false, true, true, true, false, false] rfl rfl (by kernel_rfl) (fun _ _ _ h => h) (Or.inl ⟨by rfl, ?_⟩) hHeld ?_ ?_
          rotate_left
          · intro w' s0
            go_simp
            with_reducible rfl
          rotate_left
          · simp only [Act.put, List.setIfInBounds_toArray, List.set_cons_zero, List.set_cons_succ, i64_w, i32_w]
            rfl
          refine join_ (σ := Value × Value × Value) 3 #[true, true, true, true, true, true, true, true, true, true, false, true, true, true, false, false] (fun s_ => [(60, s_.1), (64, s_.2.1), (69, s_.2.2)]) (fun s_ w' => Below w.heap.size w w' ∧ (Kd.raw 1).R 26 w' w.heap.size (fun _ => True) s_.2.1 ([] ++ us.take q) ∧ (Kd.raw 1).R 26 w' w.heap.size (fun _ => True) s_.2.2 [[(.slice AM (rd_L1 M (q : Int)).length cM)]] ∧ s_.2.1.ownBlock ≠ s_.2.2.ownBlock) ?_ ?_
          rotate_left
          · intro hCont
            refine two_ (i := 0) (j := 9) (Ni := some 60) (Nj := some 69) #[true, true, true, true, false, true, true, true, true, false, false, true, true, true, false, false] #[false, true, true, true, false, true, true, true, true, true, false, true, true, true, false, false] rfl rfl rfl rfl (by kernel_rfl) (by decide) (by decide) (fun K hK => ?_) (fun K hK => ?_)
            · skip
              refine Kd.R_lit_step (Kd.raw 1) w.heap.size 26 (by rfl) (N := 60) rfl (xs := ([] : List (List Value))) (inner := []) (ok := fun _ => True) (okp := fun _ => True) ?hrun (Reps.none _ _) (fun _ hk => hk) trivial HB.out HB.out.size (by simp) ?_
              case hrun => first | (go_simp; done) | (go_simp; rfl)
              intro v60 w60 ho hb hg hn
              have HO0 := Aside0.mk ho
              clear ho hg hn
              have n0_ := Aside0.mk hb
              clear HB
              have HB := n0_
              clear n0_ hb
              refine hK.out _ _ (((HB.out.cell (World.block_lt_of_cell? w _ HXM.out)).trans HXM.out)) (fun hHeld => ?_)
              clear hK K
              refine norm_ (a' := ?_) ?_ ?_
              rotate_left
              · show Act.put _ (some 60) _ = _
                simp only [Act.put, List.setIfInBounds_toArray, List.set_cons_zero, List.set_cons_succ, i64_w, i32_w]
                rfl
              refine two_ (i := 4) (j := 9) (Ni := some 64) (Nj := some 69) #[true, true, true, true, true, true, true, true, true, false, false, true, true, true, false, false] #[true, true, true, true, false, true, true, true, true, true, false, true, true, true, false, false] rfl rfl rfl rfl (by kernel_rfl) (by decide) (by decide) (fun K hK => ?_) (fun K hK => ?_)
              · skip
                refine Kd.R_append_rows_step (Kd.raw 1) (w0 := w) w.heap.size (by rfl) (.tmp 60) (.tmp 63) 22 26 (.slice none 0 0) 24 rfl Try.underlying22 info26 rfl (by decide) (by decide) v60 [] (us.take q) (some adM) q c1 (fun _ => True) (fun _ => False) (by rfl) (by rfl) HO0.out ((HRM.out.below HB.out).take q HQL.out) (fun _ _ h => h) (fun _ h => h.elim) (fun _ _ => trivial) HB.out HB.out.size (by have := HQ1.out; simp only [List.length_nil]; omega) ?_
                intro v64 w64 ho hb hg hat
                have HO4 := Aside0.mk ho
                clear ho hg hat HO0
                have n0_ := Aside0.mk hb
                clear HB
                have HB := n0_
                clear n0_ hb
                refine hK.out _ _ (((HB.out.cell (World.block_lt_of_cell? w _ HXM.out)).trans HXM.out)) (fun hHeld => ?_)
                clear hK K
                refine norm_ (a' := ?_) ?_ ?_
                rotate_left
                · show Act.put _ (some 64) _ = _
                  simp only [Act.put, List.setIfInBounds_toArray, List.set_cons_zero, List.set_cons_succ, i64_w, i32_w]
                  rfl
                refine one_ (i := 9) (N := some 69) #[true, true, true, true, true, true, true, true, true, true, false, true, true, true, false, false] rfl rfl (by kernel_rfl) (by decide) (fun K hK => ?_)
                refine Kd.R_lit_step (Kd.raw 1) w.heap.size 26 (by rfl) (N := 69) rfl (xs := ([[(.slice AM (rd_L1 M (q : Int)).length cM)]] : List (List Value))) (inner := [(.slice AM (rd_L1 M (q : Int)).length cM)]) (ok := fun _ => True) (okp := fun _ => True) ?hrun (Reps.one (show (Kd.raw 1).M _ _ _ [(.slice AM (rd_L1 M (q : Int)).length cM)] [(.slice AM (rd_L1 M (q : Int)).length cM)] from ⟨rfl, rfl, by simp [Value.oneCell']⟩) (Reps.none _ _)) (fun _ hk => hk) trivial HB.out HB.out.size (by simp) ?_
                case hrun => first | (go_simp; done) | (go_simp; rfl)
                intro v69 w69 ho hb hg hn
                have NE := Aside0.mk (ne_new (Kd.R_lt HO4.out) hn)
                have n9_ := Aside0.mk (Kd.R_grown2 HO4.out rfl hg (fun _ h_ => by cases h_))
                clear HO4
                have HO4 := n9_
                clear n9_
                have HN9 := Aside0.mk (show v69.ownBlock ≠ none from by obtain ⟨b_, hb_, _⟩ := hn; rw [hb_]; simp)
                have HO9 := Aside0.mk ho
                clear ho hg hn
                have n0_ := Aside0.mk hb
                clear HB
                have HB := n0_
                clear n0_ hb
                refine hK.out _ _ (((HB.out.cell (World.block_lt_of_cell? w _ HXM.out)).trans HXM.out)) (fun hHeld => ?_)
                clear hK K
                refine norm_ (a' := ?_) ?_ ?_
                rotate_left
                · show Act.put _ (some 69) _ = _
                  simp only [Act.put, List.setIfInBounds_toArray, List.set_cons_zero, List.set_cons_succ, i64_w, i32_w]
                  rfl
                exact norm_ (by simp only [putAll, Act.put, List.setIfInBounds_toArray, List.set_cons_zero, List.set_cons_succ]) (hCont (v60, v64, v69) _ ⟨HB.out, HO4.out, HO9.out, NE.out⟩)
              · skip
                refine Kd.R_lit_step (Kd.raw 1) w.heap.size 26 (by rfl) (N := 69) rfl (xs := ([[(.slice AM (rd_L1 M (q : Int)).length cM)]] : List (List Value))) (inner := [(.slice AM (rd_L1 M (q : Int)).length cM)]) (ok := fun _ => True) (okp := fun _ => True) ?hrun (Reps.one (show (Kd.raw 1).M _ _ _ [(.slice AM (rd_L1 M (q : Int)).length cM)] [(.slice AM (rd_L1 M (q : Int)).length cM)] from ⟨rfl, rfl, by simp [Value.oneCell']⟩) (Reps.none _ _)) (fun _ hk => hk) trivial HB.out HB.out.size (by simp) ?_
                case hrun => first | (go_simp; done) | (go_simp; rfl)
                intro v69 w69 ho hb hg hn
                have NE := Aside0.mk (ne_new (Kd.R_lt HO0.out) hn)
                have n9_ := Aside0.mk (Kd.R_grown2 HO0.out rfl hg (fun _ h_ => by cases h_))
                clear HO0
                have HO0 := n9_
                clear n9_
                have HN9 := Aside0.mk (show v69.ownBlock ≠ none from by obtain ⟨b_, hb_, _⟩ := hn; rw [hb_]; simp)
                have HO9 := Aside0.mk ho
                clear ho hg hn
                have n0_ := Aside0.mk hb
                clear HB
                have HB := n0_
                clear n0_ hb
                refine hK.out _ _ (((HB.out.cell (World.block_lt_of_cell? w _ HXM.out)).trans HXM.out)) (fun hHeld => ?_)
                clear hK K
                refine norm_ (a' := ?_) ?_ ?_
                rotate_left
                · show Act.put _ (some 69) _ = _
                  simp only [Act.put, List.setIfInBounds_toArray, List.set_cons_zero, List.set_cons_succ, i64_w, i32_w]
                  rfl
                refine one_ (i := 4) (N := some 64) #[true, true, true, true, true, true, true, true, true, true, false, true, true, true, false, false] rfl rfl (by kernel_rfl) (by decide) (fun K hK => ?_)
                refine Kd.R_append_rows_step (Kd.raw 1) (w0 := w) w.heap.size (by rfl) (.tmp 60) (.tmp 63) 22 26 (.slice none 0 0) 24 rfl Try.underlying22 info26 rfl (by decide) (by decide) v60 [] (us.take q) (some adM) q c1 (fun _ => True) (fun _ => False) (by rfl) (by rfl) HO0.out ((HRM.out.below HB.out).take q HQL.out) (fun _ _ h => h) (fun _ h => h.elim) (fun _ _ => trivial) HB.out HB.out.size (by have := HQ1.out; simp only [List.length_nil]; omega) ?_
                intro v64 w64 ho hb hg hat
                have n8_ := Aside0.mk (ne_after NE.out (Kd.R_lt HO9.out) hat)
                have n9_ := Aside0.mk (Kd.R_grown1 HO9.out rfl hg NE.out)
                clear HO9 NE
                have HO9 := n9_
                have NE := n8_
                clear n8_ n9_
                have HO4 := Aside0.mk ho
                clear ho hg hat HO0
                have n0_ := Aside0.mk hb
                clear HB
                have HB := n0_
                clear n0_ hb
                refine hK.out _ _ (((HB.out.cell (World.block_lt_of_cell? w _ HXM.out)).trans HXM.out)) (fun hHeld => ?_)
                clear hK K
                refine norm_ (a' := ?_) ?_ ?_
                rotate_left
                · show Act.put _ (some 64) _ = _
                  simp only [Act.put, List.setIfInBounds_toArray, List.set_cons_zero, List.set_cons_succ, i64_w, i32_w]
                  rfl
                exact norm_ (by simp only [putAll, Act.put, List.setIfInBounds_toArray, List.set_cons_zero, List.set_cons_succ]) (hCont (v60, v64, v69) _ ⟨HB.out, HO4.out, HO9.out, NE.out⟩)
            · skip
              refine Kd.R_lit_step (Kd.raw 1) w.heap.size 26 (by rfl) (N := 69) rfl (xs := ([[(.slice AM (rd_L1 M (q : Int)).length cM)]] : List (List Value))) (inner := [(.slice AM (rd_L1 M (q : Int)).length cM)]) (ok := fun _ => True) (okp := fun _ => True) ?hrun (Reps.one (show (Kd.raw 1).M _ _ _ [(.slice AM (rd_L1 M (q : Int)).length cM)] [(.slice AM (rd_L1 M (q : Int)).length cM)] from ⟨rfl, rfl, by simp [Value.oneCell']⟩) (Reps.none _ _)) (fun _ hk => hk) trivial HB.out HB.out.size (by simp) ?_
              case hrun => first | (go_simp; done) | (go_simp; rfl)
              intro v69 w69 ho hb hg hn
              have HN9 := Aside0.mk (show v69.ownBlock ≠ none from by obtain ⟨b_, hb_, _⟩ := hn; rw [hb_]; simp)
              have HO9 := Aside0.mk ho
              clear ho hg hn
              have n0_ := Aside0.mk hb
              clear HB
              have HB := n0_
              clear n0_ hb
              refine hK.out _ _ (((HB.out.cell (World.block_lt_of_cell? w _ HXM.out)).trans HXM.out)) (fun hHeld => ?_)
              clear hK K
              refine norm_ (a' := ?_) ?_ ?_
              rotate_left
              · show Act.put _ (some 69) _ = _
                simp only [Act.put, List.setIfInBounds_toArray, List.set_cons_zero, List.set_cons_succ, i64_w, i32_w]
                rfl
              refine one_ (i := 0) (N := some 60) #[true, true, true, true, false, true, true, true, true, true, false, true, true, true, false, false] rfl rfl (by kernel_rfl) (by decide) (fun K hK => ?_)
              refine Kd.R_lit_step (Kd.raw 1) w.heap.size 26 (by rfl) (N := 60) rfl (xs := ([] : List (List Value))) (inner := []) (ok := fun _ => True) (okp := fun _ => True) ?hrun (Reps.none _ _) (fun _ hk => hk) trivial HB.out HB.out.size (by simp) ?_
              case hrun => first | (go_simp; done) | (go_simp; rfl)
              intro v60 w60 ho hb hg hn
              have NE := Aside0.mk (ne_new (Kd.R_lt HO9.out) hn).symm
              have n9_ := Aside0.mk (Kd.R_grown1 HO9.out rfl hg (fun e_ => HN9.out e_.symm))
              clear HO9
              have HO9 := n9_
              clear n9_
              have HO0 := Aside0.mk ho
              clear ho hg hn
              have n0_ := Aside0.mk hb
              clear HB
              have HB := n0_
              clear n0_ hb
              refine hK.out _ _ (((HB.out.cell (World.block_lt_of_cell? w _ HXM.out)).trans HXM.out)) (fun hHeld => ?_)
              clear hK K
              refine norm_ (a' := ?_) ?_ ?_
              rotate_left
              · show Act.put _ (some 60) _ = _
                simp only [Act.put, List.setIfInBounds_toArray, List.set_cons_zero, List.set_cons_succ, i64_w, i32_w]
                rfl
              refine one_ (i := 4) (N := some 64) #[true, true, true, true, true, true, true, true, true, true, false, true, true, true, false, false] rfl rfl (by kernel_rfl) (by decide) (fun K hK => ?_)
              refine Kd.R_append_rows_step (Kd.raw 1) (w0 := w) w.heap.size (by rfl) (.tmp 60) (.tmp 63) 22 26 (.slice none 0 0) 24 rfl Try.underlying22 info26 rfl (by decide) (by decide) v60 [] (us.take q) (some adM) q c1 (fun _ => True) (fun _ => False) (by rfl) (by rfl) HO0.out ((HRM.out.below HB.out).take q HQL.out) (fun _ _ h => h) (fun _ h => h.elim) (fun _ _ => trivial) HB.out HB.out.size (by have := HQ1.out; simp only [List.length_nil]; omega) ?_
              intro v64 w64 ho hb hg hat
              have n8_ := Aside0.mk (ne_after NE.out (Kd.R_lt HO9.out) hat)
              have n9_ := Aside0.mk (Kd.R_grown1 HO9.out rfl hg NE.out)
              clear HO9 NE
              have HO9 := n9_
              have NE := n8_
              clear n8_ n9_
              have HO4 := Aside0.mk ho
              clear ho hg hat HO0
              have n0_ := Aside0.mk hb
              clear HB
              have HB := n0_
              clear n0_ hb
              refine hK.out _ _ (((HB.out.cell (World.block_lt_of_cell? w _ HXM.out)).trans HXM.out)) (fun hHeld => ?_)
              clear hK K
              refine norm_ (a' := ?_) ?_ ?_
              rotate_left
              · show Act.put _ (some 64) _ = _
                simp only [Act.put, List.setIfInBounds_toArray, List.set_cons_zero, List.set_cons_succ, i64_w, i32_w]
                rfl
              exact norm_ (by simp only [putAll, Act.put, List.setIfInBounds_toArray, List.set_cons_zero, List.set_cons_succ]) (hCont (v60, v64, v69) _ ⟨HB.out, HO4.out, HO9.out, NE.out⟩)
          rintro ⟨v60, v64, v69⟩ wq ⟨hb, ho4, ho9, hne⟩
          simp only at ho4 ho9 hne
          obtain ⟨A9, c9, e9⟩ := Kd.R_slice ho9
          subst e9
          have n0_ := Aside0.mk hb
          clear HB
          have HB := n0_
          clear n0_ hb
          have HO4 := Aside0.mk ho4
          have HO9 := Aside0.mk ho9
          have NE := Aside0.mk hne
          clear ho4 ho9 hne
          have hHeld := ((HB.out.cell (World.block_lt_of_cell? w _ HXM.out)).trans HXM.out)
          refine norm_ (a' := ?_) ?_ ?_
          rotate_left
          · simp only [putAll, Act.put, List.setIfInBounds_toArray, List.set_cons_zero, List.set_cons_succ]
            rfl
          refine one_ (i := 10) (N := some 70) #[true, true, true, true, true, true, true, true, true, true, true, true, true, true, false, false] rfl rfl (by kernel_rfl) (by decide) (fun K hK => ?_)
          refine Kd.R_append_rows_step (Kd.raw 1) (w0 := w) w.heap.size (by rfl) (.tmp 64) (.tmp 69) 22 26 (.slice none 0 0) 24 rfl Try.underlying22 info26 rfl (by decide) (by decide) v64 ([] ++ us.take q) [[(.slice AM (rd_L1 M (q : Int)).length cM)]] A9 1 c9 (fun _ => True) (fun _ => False) (by rfl) (by rfl) HO4.out (rawR_reads HO9.out).2 (fun _ _ h => h) (fun _ h => h.elim) (fun _ _ => trivial) HB.out HB.out.size (by have := HQ1.out; simp only [List.nil_append, List.length_take]; omega) ?_
          intro v70 w70 ho hb hg hat
          have HO10 := Aside0.mk ho
          clear ho hg hat HO4 HO9 NE
          have n0_ := Aside0.mk hb
          clear HB
          have HB := n0_
          clear n0_ hb
          refine hK.out _ _ (((HB.out.cell (World.block_lt_of_cell? w _ HXM.out)).trans HXM.out)) (fun hHeld => ?_)
          clear hK K
          refine norm_ (a' := ?_) ?_ ?_
          rotate_left
          · show Act.put _ (some 70) _ = _
            simp only [Act.put, List.setIfInBounds_toArray, List.set_cons_zero, List.set_cons_succ, i64_w, i32_w]
            rfl
          refine one_ (i := 14) (N := some 74) #[true, true, true, true, true, true, true, true, true, true, true, true, true, true, true, false] rfl rfl (by kernel_rfl) (by decide) (fun K hK => ?_)
          refine Kd.R_append_rows_step (Kd.raw 1) (w0 := w) w.heap.size (by rfl) (.tmp 70) (.tmp 73) 22 26 (.slice none 0 0) 24 rfl Try.underlying22 info26 rfl (by decide) (by decide) v70 ([] ++ us.take q ++ [[(.slice AM (rd_L1 M (q : Int)).length cM)]]) (us.drop q) AD (M.length - q) (c1 - q) (fun _ => True) (fun _ => False) (by rfl) (by rfl) HO10.out (hdrop _ _ (HRM.out.below HB.out)) (fun _ _ h => h) (fun _ h => h.elim) (fun _ _ => trivial) HB.out HB.out.size (by have := HQ1.out; have := HML.out; simp only [List.nil_append, List.length_append, List.length_take, List.length_singleton]; omega) ?_
          intro v74 w74 ho hb hg hat
          have HO14 := Aside0.mk ho
          clear ho hg hat HO10
          have n0_ := Aside0.mk hb
          clear HB
          have HB := n0_
          clear n0_ hb
          refine hK.out _ _ (((HB.out.cell (World.block_lt_of_cell? w _ HXM.out)).trans HXM.out)) (fun hHeld => ?_)
          clear hK K
          refine norm_ (a' := ?_) ?_ ?_
          rotate_left
          · show Act.put _ (some 74) _ = _
            simp only [Act.put, List.setIfInBounds_toArray, List.set_cons_zero, List.set_cons_succ, i64_w, i32_w]
            rfl
          refine pure_ (i := 15) (N := some 12) (v := ?_) (a' := ?_) #[true, true, true, true, true, true, true, true, true, true, true, true, true, true, true, true] rfl rfl (by kernel_rfl) (fun _ _ _ h => h) (Or.inl ⟨by rfl, ?_⟩) ?_ ?_
          rotate_left
          · intro w'
            go_simp
            with_reducible rfl
          rotate_left
          · simp only [Act.put, List.setIfInBounds_toArray, List.set_cons_zero, List.set_cons_succ, i64_w, i32_w]
            rfl
          refine done_ (by kernel_rfl) ?_
          have hHT := (((HHM.out.take q).append HHQ.out).append (HHM.out.drop q)).below HB.out
          obtain ⟨T, hT⟩ : ∃ T, M.take q ++ [rd_L1 M (q : Int)] ++ M.drop q = T := ⟨_, rfl⟩
          have HH1 := HH.out
          rw [hT] at hHT HH1
          have ho14 := HO14.out
          rw [List.nil_append] at ho14
          obtain ⟨A7, c7, e7⟩ := Kd.R_slice ho14
          rw [hHT.1] at e7
          subst e7
          obtain ⟨_, hTc, hTr⟩ := C_of_heads ho14 hHT
          have HT := Aside0.mk hTr
          have HTc := Aside0.mk hTc
          have H0_ := Aside0.mk (Kd.C_below HR0.out HB.out)
          have H1_ := Aside0.mk (Kd.C_below HR1.out HB.out)
          have HC_ := Aside0.mk (Kd.C_below HRCw.out HB.out)
          have HM_ := Aside0.mk (HHM.out.below HB.out)
          have HR_ := Aside0.mk (HRM.out.below HB.out)
          have HA_ := Aside0.mk (below_step HBA.out HB.out)
          clear HR0 HR1 HRCw HHM HRM HBA HB HO14 HH HHQ HXM hTr hTc hHT hT ho14 hcutT hcutD hdrop p1 p2 p3 hHeld hxM2
          have HR0 := H0_
          have HR1 := H1_
          have HRCw := HC_
          have HHM := HM_
          have HRM := HR_
          have HBA := HA_
          clear H0_ H1_ HC_ HM_ HR_ HA_
          have HB := Aside0.mk (Below.refl w74.heap.size w74)
          obtain ⟨AH, hAH⟩ : ∃ AH, (if 0 < L.length then [rd_L1 L (Int.tmod (Go.bits .and .i64 a3 65535) (L.length : Int))] ++ M else M) = AH := ⟨_, rfl⟩
          rw [hAH] at HH1
          have HH := Aside0.mk HH1
          clear HH1
          go_upto_if 78 with (fail)
          (try simp only [Act.put, List.setIfInBounds_toArray, List.set_cons_zero, List.set_cons_succ])
          go_cut [13] (fun v13 wc => ∃ (A13 : Option Addr) (c13 : Nat), v13 = .slice A13 AH.length c13 ∧ Aside0 (AH.length ≤ c13) ∧ Aside0 (Kd.C (Kd.slice 3 (Kd.int .i64)) wc A13 AH.length AH) ∧ Aside0 (Below w74.heap.size w74 wc))
          case first =>
            by_cases cL : 0 < L.length
            · rw [if_pos cL] at hAH
              obtain ⟨q2, hq2, hq2lt⟩ : ∃ q : Nat, Int.tmod (Go.bits .and .i64 a3 65535) (L.length : Int) = (q : Int) ∧ q < L.length := by
                have h0 := bits_mask_more a3
                have h1 := Int.tmod_nonneg (L.length : Int) h0
                have h2 := Int.tmod_lt_of_pos (Go.bits .and .i64 a3 65535) (b := (L.length : Int)) (by omega)
                exact ⟨(Int.tmod (Go.bits .and .i64 a3 65535) (L.length : Int)).toNat, by omega, by omega⟩
              rw [hq2] at hAH
              have HAH := Aside0.mk hAH
              have k1b : decide (0 < L.length) = true := decide_eq_true cL
              have k1d : (0 < L.length) = True := eq_true cL
              have k1c : decide ((0 : Int) < (L.length : Int)) = true := decide_eq_true (by omega)
              have k2 : ((L.length : Int) == 0) = false := beq_eq_false_iff_ne.mpr (by omega)
              have k3 : ((L.length : Int) = 0) = False := eq_false (by omega)
              have k4 : (L.length = 0) = False := eq_false (by omega)
              obtain ⟨adL, AL, cL0, eL, hxL, hlL, hiL⟩ := at_L1 HR0.out (q2 : Int) (Int.natCast_nonneg q2) (by omega)
              obtain rfl := eL
              rw [Int.toNat_natCast] at hxL
              have HHQ := Aside0.mk (Heads.one hlL hiL)
              have p2 : ((q2 : Int) < (L.length : Int)) = True := eq_true (by omega)
              have p3 : (q2 < L.length) = True := eq_true hq2lt
              clear hlL hiL hq2lt cL hAH
              (try simp only [k1b, k1c, k1d, decide_true])
              go_wp2_with (first | ((with_reducible refine gate_dst (N := 87) rfl ?_); (try (refine gate_guard (by rfl) ?_; dsimp only)); refine Kd.R_lit (Kd.raw 1) w74.heap.size 26 ?hg (N := 87) ?hd (xs := ([[(.slice AL (rd_L1 L (q2 : Int)).length cL0)]] : List (List Value))) (inner := [(.slice AL (rd_L1 L (q2 : Int)).length cL0)]) (ok := fun _ => True) (okp := fun _ => True) ?hr ?hp (fun _ hk => hk) trivial HB.out HB.out.size (by simp) ?_; (case hd => rfl); (case hg => rfl); (case hr => first | (go_simp; done) | (go_simp; rfl)); (case hp => exact (Reps.one (show (Kd.raw 1).M _ _ _ [(.slice AL (rd_L1 L (q2 : Int)).length cL0)] [(.slice AL (rd_L1 L (q2 : Int)).length cL0)] from ⟨rfl, rfl, by simp [Value.oneCell']⟩) (Reps.none _ _))); intro v87 w87 ho hb hg hn; have HO87 := Aside0.mk ho; have HB1 := Aside0.mk hb; clear ho hb hg hn) | ((with_reducible refine gate_builtin (b := .append) (xs := #[.tmp 87, .tmp 88]) rfl ?_); (try (refine gate_guard (by rfl) ?_; dsimp only)); at_builtin; refine Kd.R_append_rows (Kd.raw 1) (w0 := w74) w74.heap.size rfl (.tmp 87) (.tmp 88) 22 26 (.slice none 0 0) 24 rfl Try.underlying22 info26 rfl (by decide) (by decide) v87 ([[(.slice AL (rd_L1 L (q2 : Int)).length cL0)]]) (us) (some adM) M.length c1 (fun _ => True) (fun _ => False) ?hs ?hx HO87.out ?hR (fun _ _ h => h) (fun _ h => h.elim) (fun _ _ => trivial) HB1.out HB1.out.size ?hL ?_; (case hs => rfl); (case hx => rfl); (case hR => exact (HRM.out.below HB1.out)); (case hL => have := HML.out; simp only [List.length_singleton]; omega); intro v89 w89 ho hb hg hat; obtain ⟨Aa, ca, ea⟩ := Kd.R_slice ho; subst ea; have hc2 := C_of_heads ho ((HHQ.out.append HHM.out).below hb); have hcl := hc2.1.trans (congrArg List.length HAH.out); have hcr := HAH.out ▸ hc2.2.2; have hcc := HAH.out ▸ hc2.2.1; rw [hcl] at ho ⊢; have HA := Aside0.mk hcr; have HAc := Aside0.mk hcc; clear hcl hcr hcc hc2; have HB2 := Aside0.mk hb; clear ho hb hg hat))
              go_meet
              case rel => exact ⟨_, _, rfl, HAc, HA, HB2⟩
            · rw [if_neg cL] at hAH
              subst hAH
              have k1b : decide (0 < L.length) = false := decide_eq_false cL
              have k1d : (0 < L.length) = False := eq_false cL
              have k1c : decide ((0 : Int) < (L.length : Int)) = false := decide_eq_false (by omega)
              clear cL
              (try simp only [k1b, k1c, k1d, decide_false])
              go_wp2
              go_meet
              case rel => exact ⟨_, _, rfl, HC1, HR1, HB⟩
          case rest =>
            clear HB hAH
            obtain ⟨A13, c13, rfl, HC13, HR13, HB⟩ := hcut
            have H0_ := Aside0.mk (Kd.C_below HR0.out HB.out)
            have H1_ := Aside0.mk (Kd.C_below HR1.out HB.out)
            have HC_ := Aside0.mk (Kd.C_below HRCw.out HB.out)
            have HT_ := Aside0.mk (Kd.C_below HT.out HB.out)
            have HA_ := Aside0.mk (below_step HBA.out HB.out)
            clear HR0 HR1 HRCw HT HBA HB HHM HRM
            have HR0 := H0_
            have HR1 := H1_
            have HRC := HC_
            have HT := HT_
            have HBA := HA_
            clear H0_ H1_ HC_ HT_ HA_
            have HB := Aside0.mk (Below.refl wc.heap.size wc)
            obtain ⟨us0, hh0, hr0⟩ := heads_of_C HR0.out
            have HHL := Aside0.mk hh0
            have HRL := Aside0.mk hr0
            have HHC := Aside0.mk (Heads.one HCC.out HRC.out)
            clear hh0 hr0
            obtain ⟨LC, hLC⟩ : ∃ LC, L ++ [C] = LC := ⟨_, rfl⟩
            obtain ⟨CL, hCL⟩ : ∃ CL, [C] ++ L = CL := ⟨_, rfl⟩
            have H := HH.out
            rw [hLC, hCL] at H
            have HLC := Aside0.mk hLC
            have HCL := Aside0.mk hCL
            obtain ⟨t1, x1, H⟩ := Option.bind_eq_some_iff.mp H
            by_cases ct1 : t1 = true
            case neg => rw [if_neg ct1] at H; cases H
            rw [if_pos ct1] at H
            obtain ⟨t2, x2, H⟩ := Option.bind_eq_some_iff.mp H
            by_cases ct2 : t2 = true
            case neg => rw [if_neg ct2] at H; cases H
            rw [if_pos ct2] at H
            obtain ⟨t3, x3, H⟩ := Option.bind_eq_some_iff.mp H
            by_cases ct3 : t3 = true
            case neg => rw [if_neg ct3] at H; cases H
            rw [if_pos ct3] at H
            subst ct1 ct2 ct3
            have HX1 := Aside0.mk x1
            have HX2 := Aside0.mk x2
            have HX3 := Aside0.mk x3
            have HX4 := Aside0.mk H
            clear H x1 x2 x3 HH hLC hCL
            go_wp2_with (first | ((with_reducible refine gate_dst (N := 92) rfl ?_); (try (refine gate_guard (by rfl) ?_; dsimp only)); refine Kd.R_lit (Kd.raw 1) wc.heap.size 26 ?hg (N := 92) ?hd (xs := ([] : List (List Value))) (inner := []) (ok := fun _ => True) (okp := fun _ => True) ?hr ?hp (fun _ hk => hk) trivial HB.out HB.out.size (by simp) ?_; (case hd => rfl); (case hg => rfl); (case hr => first | (go_simp; done) | (go_simp; rfl)); (case hp => exact (Reps.none _ _)); intro v92 w92 ho hb hg hn; have HO92 := Aside0.mk ho; clear ho hg hn; have n0_ := Aside0.mk hb; clear HB; have HB := n0_; clear n0_; clear hb) | ((with_reducible refine gate_builtin (b := .append) (xs := #[.tmp 92, .tmp 93]) rfl ?_); (try (refine gate_guard (by rfl) ?_; dsimp only)); at_builtin; refine Kd.R_append_rows (Kd.raw 1) (w0 := wc) wc.heap.size rfl (.tmp 92) (.tmp 93) 22 26 (.slice none 0 0) 24 rfl Try.underlying22 info26 rfl (by decide) (by decide) v92 ([]) (us0) A0 L.length c0 (fun _ => True) (fun _ => False) ?hs ?hx HO92.out ?hR (fun _ _ h => h) (fun _ h => h.elim) (fun _ _ => trivial) HB.out HB.out.size ?hL ?_; (case hs => rfl); (case hx => rfl); (case hR => exact (HRL.out.below HB.out)); (case hL => have := HLL.out; simp only [List.length_nil]; omega); intro v94 w94 ho hb hg hat; have HO94 := Aside0.mk ho; clear ho hg hat HO92; have n0_ := Aside0.mk hb; clear HB; have HB := n0_; clear n0_; clear hb) | ((with_reducible refine gate_dst (N := 96) rfl ?_); (try (refine gate_guard (by rfl) ?_; dsimp only)); refine Kd.R_lit (Kd.raw 1) wc.heap.size 26 ?hg (N := 96) ?hd (xs := ([[(.slice A2 C.length c2)]] : List (List Value))) (inner := [(.slice A2 C.length c2)]) (ok := fun _ => True) (okp := fun _ => True) ?hr ?hp (fun _ hk => hk) trivial HB.out HB.out.size (by simp) ?_; (case hd => rfl); (case hg => rfl); (case hr => first | (go_simp; done) | (go_simp; rfl)); (case hp => exact (Reps.one (show (Kd.raw 1).M _ _ _ [(.slice A2 C.length c2)] [(.slice A2 C.length c2)] from ⟨rfl, rfl, by simp [Value.oneCell']⟩) (Reps.none _ _))); intro v96 w96 ho hb hg hn; have n9_ := Aside0.mk (Kd.R_grown2 HO94.out rfl hg (fun _ h_ => by cases h_)); clear HO94; have HO94 := n9_; clear n9_; obtain ⟨A96, c96, e96⟩ := Kd.R_slice ho; subst e96; have HO96 := Aside0.mk ho; clear ho hg hn; have n0_ := Aside0.mk hb; clear HB; have HB := n0_; clear n0_; clear hb) | ((with_reducible refine gate_builtin (b := .append) (xs := #[.tmp 94, .tmp 96]) rfl ?_); (try (refine gate_guard (by rfl) ?_; dsimp only)); at_builtin; refine Kd.R_append_rows (Kd.raw 1) (w0 := wc) wc.heap.size rfl (.tmp 94) (.tmp 96) 22 26 (.slice none 0 0) 24 rfl Try.underlying22 info26 rfl (by decide) (by decide) v94 ([] ++ us0) ([[(.slice A2 C.length c2)]]) A96 1 c96 (fun _ => True) (fun _ => False) ?hs ?hx HO94.out ?hR (fun _ _ h => h) (fun _ h => h.elim) (fun _ _ => trivial) HB.out HB.out.size ?hL ?_; (case hs => rfl); (case hx => rfl); (case hR => exact (rawR_reads HO96.out).2); (case hL => have := HLL.out; have := HHL.out.1; simp only [List.nil_append]; omega); intro v97 w97 ho hb hg hat; obtain ⟨A97, c97, ea⟩ := Kd.R_slice ho; subst ea; have hc2 := C_of_heads ho ((HHL.out.append HHC.out).below hb); have hcl := hc2.1.trans (congrArg List.length HLC.out); have hcr := HLC.out ▸ hc2.2.2; have hcc := HLC.out ▸ hc2.2.1; rw [hcl] at ho ⊢; have HAA97 := Aside0.mk hcr; have HAcA97 := Aside0.mk hcc; clear hcl hcr hcc hc2; clear ho hg hat HO94 HO96; have n0_ := Aside0.mk hb; clear HB; have HB := n0_; clear n0_; clear hb) | ((with_reducible refine gate_callee (f := 12) rfl ?_); (try (refine gate_guard (by rfl) ?_; dsimp only)); refine goesL_ (some 99) rfl rfl Try.func12 (by kernel_rfl) rfl #[.slice A97 LC.length c97, .slice (some adM) M.length c1] rfl (by (try simp only [List.map_toArray, List.map_cons, List.map_nil]); first | done | rfl) ?_; (with_reducible refine (trace_Check.calls k1 A97 c97 LC (some adM) c1 M _ _ HAA97.out HAcA97.out (Kd.C_below HR1.out HB.out) HC1.out HX1.out).mono ?_); rintro e w1_ ⟨rfl, hb⟩; refine ⟨_, rfl, ?_⟩; clear HAA97 HAcA97; have n0_ := Aside0.mk (below_step HB.out hb); clear HB; have HB := n0_; clear n0_ hb) | ((with_reducible refine gate_callee (f := 12) rfl ?_); (try (refine gate_guard (by rfl) ?_; dsimp only)); refine goesL_ (some 104) rfl rfl Try.func12 (by kernel_rfl) rfl #[.slice A0 L.length c0, .slice A7 T.length c7] rfl (by (try simp only [List.map_toArray, List.map_cons, List.map_nil]); first | done | rfl) ?_; (with_reducible refine (trace_Check.calls k1 A0 c0 L A7 c7 T _ _ (Kd.C_below HR0.out HB.out) HC0.out (Kd.C_below HT.out HB.out) HTc.out HX2.out).mono ?_); rintro e w1_ ⟨rfl, hb⟩; refine ⟨_, rfl, ?_⟩; have n0_ := Aside0.mk (below_step HB.out hb); clear HB; have HB := n0_; clear n0_ hb) | ((with_reducible refine gate_callee (f := 12) rfl ?_); (try (refine gate_guard (by rfl) ?_; dsimp only)); refine goesL_ (some 109) rfl rfl Try.func12 (by kernel_rfl) rfl #[.slice A0 L.length c0, .slice A13 AH.length c13] rfl (by (try simp only [List.map_toArray, List.map_cons, List.map_nil]); first | done | rfl) ?_; (with_reducible refine (trace_Check.calls k1 A0 c0 L A13 c13 AH _ _ (Kd.C_below HR0.out HB.out) HC0.out (Kd.C_below HR13.out HB.out) HC13.out HX3.out).mono ?_); rintro e w1_ ⟨rfl, hb⟩; refine ⟨_, rfl, ?_⟩; have n0_ := Aside0.mk (below_step HB.out hb); clear HB; have HB := n0_; clear n0_ hb) | ((with_reducible refine gate_dst (N := 113) rfl ?_); (try (refine gate_guard (by rfl) ?_; dsimp only)); refine Kd.R_lit (Kd.raw 1) wc.heap.size 26 ?hg (N := 113) ?hd (xs := ([[(.slice A2 C.length c2)]] : List (List Value))) (inner := [(.slice A2 C.length c2)]) (ok := fun _ => True) (okp := fun _ => True) ?hr ?hp (fun _ hk => hk) trivial HB.out HB.out.size (by simp) ?_; (case hd => rfl); (case hg => rfl); (case hr => first | (go_simp; done) | (go_simp; rfl)); (case hp => exact (Reps.one (show (Kd.raw 1).M _ _ _ [(.slice A2 C.length c2)] [(.slice A2 C.length c2)] from ⟨rfl, rfl, by simp [Value.oneCell']⟩) (Reps.none _ _))); intro v113 w113 ho hb hg hn; have HO113 := Aside0.mk ho; clear ho hg hn; have n0_ := Aside0.mk hb; clear HB; have HB := n0_; clear n0_; clear hb) | ((with_reducible refine gate_builtin (b := .append) (xs := #[.tmp 113, .tmp 114]) rfl ?_); (try (refine gate_guard (by rfl) ?_; dsimp only)); at_builtin; refine Kd.R_append_rows (Kd.raw 1) (w0 := wc) wc.heap.size rfl (.tmp 113) (.tmp 114) 22 26 (.slice none 0 0) 24 rfl Try.underlying22 info26 rfl (by decide) (by decide) v113 ([[(.slice A2 C.length c2)]]) (us0) A0 L.length c0 (fun _ => True) (fun _ => False) ?hs ?hx HO113.out ?hR (fun _ _ h => h) (fun _ h => h.elim) (fun _ _ => trivial) HB.out HB.out.size ?hL ?_; (case hs => rfl); (case hx => rfl); (case hR => exact (HRL.out.below HB.out)); (case hL => have := HLL.out; simp only [List.length_singleton]; omega); intro v115 w115 ho hb hg hat; obtain ⟨A115, c115, ea⟩ := Kd.R_slice ho; subst ea; have hc2 := C_of_heads ho ((HHC.out.append HHL.out).below hb); have hcl := hc2.1.trans (congrArg List.length HCL.out); have hcr := HCL.out ▸ hc2.2.2; have hcc := HCL.out ▸ hc2.2.1; rw [hcl] at ho ⊢; have HAA115 := Aside0.mk hcr; have HAcA115 := Aside0.mk hcc; clear hcl hcr hcc hc2; clear ho hg hat HO113; have n0_ := Aside0.mk hb; clear HB; have HB := n0_; clear n0_; clear hb) | ((with_reducible refine gate_callee (f := 12) rfl ?_); (try (refine gate_guard (by rfl) ?_; dsimp only)); refine goesL_ (some 117) rfl rfl Try.func12 (by kernel_rfl) rfl #[.slice A115 CL.length c115, .slice (some adM) M.length c1] rfl (by (try simp only [List.map_toArray, List.map_cons, List.map_nil]); first | done | rfl) ?_; (with_reducible refine (trace_Check.calls k1 A115 c115 CL (some adM) c1 M _ _ HAA115.out HAcA115.out (Kd.C_below HR1.out HB.out) HC1.out HX4.out).mono ?_); rintro e w1_ ⟨rfl, hb⟩; refine ⟨_, rfl, ?_⟩; have n0_ := Aside0.mk (below_step HB.out hb); clear HB; have HB := n0_; clear n0_ hb))
            go_ret
            exact ⟨by first | rfl | simp, below_step HBA.out HB.out⟩

/-! ### ashlarlaw10_turned: function 16 -/
def ashlarlaw10_turned.l0 : Nat → List Int → Int → List Int → Int → Option (List Int)
  | 0, _, _, _, _ => none
  | k + 1, x0, x1, x5, x6 => if x6 ≥ 0 then (if 0 ≤ x6 then (if x6 < (x0.length : Int) then (if (rd x0 x6) = x1 then (if x5.length < 17592186044416 then (ashlarlaw10_turned.l0 k x0 x1 (x5 ++ [wrap64 (-(rd x0 x6))]) (wrap64 (x6 - 1))) else (none)) else (if (rd x0 x6) = (wrap64 (-x1)) then (if x5.length < 17592186044416 then (ashlarlaw10_turned.l0 k x0 x1 (x5 ++ [wrap64 (-(rd x0 x6))]) (wrap64 (x6 - 1))) else (none)) else (if x5.length < 17592186044416 then (ashlarlaw10_turned.l0 k x0 x1 (x5 ++ [rd x0 x6]) (wrap64 (x6 - 1))) else (none)))) else (none)) else (none)) else (some x5)
def ashlarlaw10_turned.f (k : Nat) (l0 : List Int) (a1 : Int) : Option (List Int) := ashlarlaw10_turned.l0 k l0 a1 (([] : List Int)) (wrap64 ((l0.length : Int) - 1))
theorem ashlarlaw10_turned.mono_l : ∀ k, (∀ y0 y1 y2 y3, LeO (ashlarlaw10_turned.l0 k y0 y1 y2 y3) (ashlarlaw10_turned.l0 (k + 1) y0 y1 y2 y3))
  | 0 => fun _ _ _ _ r h => by simp [ashlarlaw10_turned.l0] at h
  | k + 1 => by
    have ih0 := ashlarlaw10_turned.mono_l k
    · intro y0 y1 y2 y3
      unfold ashlarlaw10_turned.l0
      repeat' first
      | (with_reducible exact ih0 _ _ _ _)
      | (with_reducible exact LeO.refl _)
      | (with_reducible exact LeO.none _)
      | (with_reducible refine LeO.ite ?_ ?_)
      | (with_reducible refine LeO.bind ?_ (fun _ => ?_))
      | exact ih0 _ _ _ _
      | exact LeO.none _
      | refine LeO.ite ?_ ?_
      | refine LeO.bind ?_ (fun _ => ?_)
theorem ashlarlaw10_turned.mono : ∀ a0 a1 k, LeO (ashlarlaw10_turned.f k a0 a1) (ashlarlaw10_turned.f (k + 1) a0 a1) := by
  intro a0 a1 k
  have ih0 := ashlarlaw10_turned.mono_l k
  unfold ashlarlaw10_turned.f
  repeat' first
      | (with_reducible exact ih0 _ _ _ _)
      | (with_reducible exact LeO.refl _)
      | (with_reducible exact LeO.none _)
      | (with_reducible refine LeO.ite ?_ ?_)
      | (with_reducible refine LeO.bind ?_ (fun _ => ?_))
      | exact ih0 _ _ _ _
      | exact LeO.none _
      | refine LeO.ite ?_ ?_
      | refine LeO.bind ?_ (fun _ => ?_)
set_option maxHeartbeats 8000000 in
set_option maxRecDepth 100000 in
theorem ashlarlaw10_turned.calls (k : Nat) (A0 : Option Addr) (c0 : Nat) (l0 : List Int) (a1 : Int) (r : List Int) (w : World) (hr0 : Kd.C (Kd.int .i64) w A0 l0.length l0) (hc0 : l0.length ≤ c0) (h : ashlarlaw10_turned.f k l0 a1 = some r) :
    Calls Try.prog 16 #[.slice A0 l0.length c0, .int .i64 a1] w fun e w' => ∃ v0_ : Value, e = .returned (v0_) ∧ Kd.R (Kd.int .i64) 3 w' w.heap.size (fun _ => True) v0_ r ∧ Below w.heap.size w w' := by
  have HR0 := Aside0.mk hr0
  have HC0 := Aside0.mk hc0
  clear hr0 hc0
  have HB := Aside0.mk (Below.refl w.heap.size w)
  have H : (ashlarlaw10_turned.l0 k l0 a1 (([] : List Int)) (wrap64 ((l0.length : Int) - 1))) = some r := h
  clear h
  obtain ⟨y328, hy328⟩ : ∃ y_ : List Int, y_ = (([] : List Int)) := ⟨_, rfl⟩
  replace H : (ashlarlaw10_turned.l0 k l0 a1 y328 (wrap64 ((l0.length : Int) - 1))) = some r := by first | (rw [hy328]; with_reducible exact H) | (have H2_ := (Option.bind_some _ _).symm.trans H; rw [hy328]; with_reducible exact H2_) | (have H2_ := (Option.bind_some _ _).symm.trans H; with_reducible exact H2_) | with_reducible exact H | (rw [hy328]; exact H) | exact H
  have Ny328 := Aside0.mk hy328
  clear hy328
  have H' := Aside0.mk H
  clear H
  go_enter Try.func16, Try.ntmps16
  go_wp2_with (first | ((with_reducible refine gate_dst (N := 8) rfl ?_); refine Kd.R_lit (Kd.int .i64) _ 3 ?hg (N := 8) ?hd (xs := ([] : List Int)) (inner := []) (ok := fun _ => True) (okp := fun _ => True) ?hr ?hp (fun _ hk => hk) trivial (Below.refl _ _) (Nat.le_refl _) (by simp) ?_; (case hd => rfl); (case hg => rfl); (case hr => first | (go_simp; done) | (go_simp; rfl)); (case hp => exact (Reps.none _ _)); intro v329 w3 ho4 hb hg_ hnew_; clear hg_ hnew_; (first | rw [← Ny328.out] at ho4 | (simp only [Int.reduceToNat] at ho4; rw [← Ny328.out] at ho4)); have n0_ := Aside0.mk (Kd.R_lower ho4 (below_size (by repeat (first | (with_reducible first | exact HB.out | apply below_alloc | apply pw_below_drewN | apply below_drew1) | exact HB.out)))); have n1_ := Aside0.mk (below_step (by repeat (first | (with_reducible first | exact HB.out | apply below_alloc | apply pw_below_drewN | apply below_drew1) | exact HB.out)) hb); clear HB; have HO330 := n0_; have HB := n1_; clear n0_ n1_; clear hb ho4))
  go_loopg [5, 6] k (fun kq v5 v6 w' => ∃ (x5_1 : List Int) (x6_1 : Int), v6 = .int .i64 x6_1 ∧ Aside0 (ashlarlaw10_turned.l0 kq l0 a1 x5_1 x6_1 = some r) ∧ Aside0 (kq ≤ k) ∧ Aside0 (Kd.R (Kd.int .i64) 3 w' w.heap.size (fun _ => True) v5 x5_1) ∧ Aside0 (Below w.heap.size w w'))
  case atStart => exact ⟨(y328), (wrap64 ((l0.length : Int) - 1)), (by first | rfl | (simp; done) | (simp [*]; done)), H', ⟨Nat.le_refl _⟩, ⟨by (with_reducible repeat (first | apply Kd.R_alloc | apply Kd.R_drewN | apply Kd.R_drew)); exact HO330.out⟩, ⟨by repeat (first | (with_reducible first | exact HB.out | apply below_alloc | apply pw_below_drewN | apply below_drew1) | exact HB.out)⟩⟩
  case round =>
    clear H'
    try clear c1
    try clear p2
    obtain ⟨x5_1, x6_1, rfl, HA, HK1, HO_5, HB⟩ := hrel
    cases gk with
    | zero => exact absurd HA.out (by simp [ashlarlaw10_turned.l0])
    | succ k1 =>
      have H := HA.out
      clear HA
      simp only [ashlarlaw10_turned.l0] at H
      by_cases c5 : x6_1 ≥ 0
      · rw [if_pos c5] at H
        have c5b0 : decide (0 ≤ x6_1) = true := decide_eq_true c5
        clear c5
        by_cases c6 : 0 ≤ x6_1
        · rw [if_pos c6] at H
          have c6b0 : decide (0 ≤ x6_1) = true := decide_eq_true c6
          clear c6
          by_cases c7 : x6_1 < (l0.length : Int)
          · rw [if_pos c7] at H
            have c7b0 : decide (x6_1 < (l0.length : Int)) = true := decide_eq_true c7
            clear c7
            by_cases c8 : (rd l0 x6_1) = a1
            · rw [if_pos c8] at H
              have c8b0 : ((rd l0 x6_1) == a1) = true := beq_iff_eq.mpr c8
              have c8b1 : ((rd l0 x6_1) != a1) = false := bne_eq_false_iff_eq.mpr c8
              clear c8
              by_cases c9 : x5_1.length < 17592186044416
              · rw [if_pos c9] at H
                have LMc9 := Aside0.mk c9
                clear c9
                obtain ⟨y332, hy332⟩ : ∃ y_ : List Int, y_ = (x5_1 ++ [wrap64 (-(rd l0 x6_1))]) := ⟨_, rfl⟩
                replace H : (ashlarlaw10_turned.l0 k1 l0 a1 y332 (wrap64 (x6_1 - 1))) = some r := by first | (rw [hy332]; with_reducible exact H) | (have H2_ := (Option.bind_some _ _).symm.trans H; rw [hy332]; with_reducible exact H2_) | (have H2_ := (Option.bind_some _ _).symm.trans H; with_reducible exact H2_) | with_reducible exact H | (rw [hy332]; exact H) | exact H
                have Ny332 := Aside0.mk hy332
                clear hy332
                have H' := Aside0.mk H
                clear H
                have p331 : 0 ≤ (x6_1 : Int) := of_decide_eq_true (by first | (with_reducible assumption) | assumption)
                have q331 : x6_1 < (l0.length : Int) := of_decide_eq_true (by first | (with_reducible assumption) | assumption)
                obtain ⟨ad331, e331, hx331_0⟩ := Kd.at_int HR0.out x6_1 p331 q331
                cases e331
                replace hx331_0 := (HB.out.cell (World.block_lt_of_cell? w _ hx331_0)).trans hx331_0
                replace p331 := eq_true p331
                replace q331 := eq_true q331
                go_wp2_with (first | ((with_reducible refine gate_builtin (b := .append) (xs := #[.tmp 31, .tmp 33]) rfl ?_); at_builtin; refine Kd.R_append (Kd.int .i64) (w0 := w) w.heap.size rfl (.tmp 31) (.tmp 33) 26 3 (.int .i64 0) 8 rfl Try.underlying26 info3 rfl (by decide) (by omega) u5 x5_1 (wrap64 (-(rd l0 x6_1))) [.int .i64 (wrap64 (-(rd l0 x6_1)))] (fun _ => True) (fun _ => False) rfl rfl ?aP (fun _ hk => hk.elim) ?aF ?aO ?aB ?aS ?aL ?_; (case aP => exact rfl); (case aB => exact (by repeat (first | (with_reducible first | exact HB.out | apply below_alloc | apply pw_below_drewN | apply below_drew1) | exact HB.out))); (case aF => exact (fun _ _ => trivial)); (case aO => exact (by (with_reducible repeat (first | apply Kd.R_alloc | apply Kd.R_drewN | apply Kd.R_drew)); exact HO_5.out)); (case aS => exact (below_size (by repeat (first | (with_reducible first | exact HB.out | apply below_alloc | apply pw_below_drewN | apply below_drew1) | exact HB.out)))); (case aL => have := LMc9.out; omega); intro v333 w10 ho hb hg hat; rw [← Ny332.out] at ho; have n0_ := Aside0.mk (hb); have n1_ := Aside0.mk (ho); clear HB; clear HO_5; have HB := n0_; have HO334 := n1_; clear n0_ n1_; clear ho hb hg hat))
                go_roundg k1
                case measure => have := HK1.out; omega
                case rel => exact ⟨(y332), (wrap64 (x6_1 - 1)), (by first | rfl | (simp; done) | (simp [*]; done)), H', ⟨by have := HK1.out; omega⟩, ⟨by (with_reducible repeat (first | apply Kd.R_alloc | apply Kd.R_drewN | apply Kd.R_drew)); exact HO334.out⟩, ⟨by repeat (first | (with_reducible first | exact HB.out | apply below_alloc | apply pw_below_drewN | apply below_drew1) | exact HB.out)⟩⟩
              · rw [if_neg c9] at H
                exact absurd H (by simp)
            · rw [if_neg c8] at H
              have c8b0 : ((rd l0 x6_1) == a1) = false := beq_eq_false_iff_ne.mpr c8
              have c8b1 : ((rd l0 x6_1) != a1) = true := bne_iff_ne.mpr c8
              by_cases c11 : (rd l0 x6_1) = (wrap64 (-a1))
              · rw [if_pos c11] at H
                have c11b0 : ((rd l0 x6_1) == (wrap64 (-a1))) = true := beq_iff_eq.mpr c11
                have c11b1 : ((rd l0 x6_1) != (wrap64 (-a1))) = false := bne_eq_false_iff_eq.mpr c11
                clear c11
                by_cases c12 : x5_1.length < 17592186044416
                · rw [if_pos c12] at H
                  have LMc12 := Aside0.mk c12
                  clear c12
                  obtain ⟨y335, hy335⟩ : ∃ y_ : List Int, y_ = (x5_1 ++ [wrap64 (-(rd l0 x6_1))]) := ⟨_, rfl⟩
                  replace H : (ashlarlaw10_turned.l0 k1 l0 a1 y335 (wrap64 (x6_1 - 1))) = some r := by first | (rw [hy335]; with_reducible exact H) | (have H2_ := (Option.bind_some _ _).symm.trans H; rw [hy335]; with_reducible exact H2_) | (have H2_ := (Option.bind_some _ _).symm.trans H; with_reducible exact H2_) | with_reducible exact H | (rw [hy335]; exact H) | exact H
                  have Ny335 := Aside0.mk hy335
                  clear hy335
                  have H' := Aside0.mk H
                  clear H
                  have p331 : 0 ≤ (x6_1 : Int) := of_decide_eq_true (by first | (with_reducible assumption) | assumption)
                  have q331 : x6_1 < (l0.length : Int) := of_decide_eq_true (by first | (with_reducible assumption) | assumption)
                  obtain ⟨ad331, e331, hx331_0⟩ := Kd.at_int HR0.out x6_1 p331 q331
                  cases e331
                  replace hx331_0 := (HB.out.cell (World.block_lt_of_cell? w _ hx331_0)).trans hx331_0
                  replace p331 := eq_true p331
                  replace q331 := eq_true q331
                  go_wp2_with (first | ((with_reducible refine gate_builtin (b := .append) (xs := #[.tmp 31, .tmp 33]) rfl ?_); at_builtin; refine Kd.R_append (Kd.int .i64) (w0 := w) w.heap.size rfl (.tmp 31) (.tmp 33) 26 3 (.int .i64 0) 8 rfl Try.underlying26 info3 rfl (by decide) (by omega) u5 x5_1 (wrap64 (-(rd l0 x6_1))) [.int .i64 (wrap64 (-(rd l0 x6_1)))] (fun _ => True) (fun _ => False) rfl rfl ?aP (fun _ hk => hk.elim) ?aF ?aO ?aB ?aS ?aL ?_; (case aP => exact rfl); (case aB => exact (by repeat (first | (with_reducible first | exact HB.out | apply below_alloc | apply pw_below_drewN | apply below_drew1) | exact HB.out))); (case aF => exact (fun _ _ => trivial)); (case aO => exact (by (with_reducible repeat (first | apply Kd.R_alloc | apply Kd.R_drewN | apply Kd.R_drew)); exact HO_5.out)); (case aS => exact (below_size (by repeat (first | (with_reducible first | exact HB.out | apply below_alloc | apply pw_below_drewN | apply below_drew1) | exact HB.out)))); (case aL => have := LMc12.out; omega); intro v336 w13 ho hb hg hat; rw [← Ny335.out] at ho; have n0_ := Aside0.mk (hb); have n1_ := Aside0.mk (ho); clear HB; clear HO_5; have HB := n0_; have HO337 := n1_; clear n0_ n1_; clear ho hb hg hat))
                  go_roundg k1
                  case measure => have := HK1.out; omega
                  case rel => exact ⟨(y335), (wrap64 (x6_1 - 1)), (by first | rfl | (simp; done) | (simp [*]; done)), H', ⟨by have := HK1.out; omega⟩, ⟨by (with_reducible repeat (first | apply Kd.R_alloc | apply Kd.R_drewN | apply Kd.R_drew)); exact HO337.out⟩, ⟨by repeat (first | (with_reducible first | exact HB.out | apply below_alloc | apply pw_below_drewN | apply below_drew1) | exact HB.out)⟩⟩
                · rw [if_neg c12] at H
                  exact absurd H (by simp)
              · rw [if_neg c11] at H
                have c11b0 : ((rd l0 x6_1) == (wrap64 (-a1))) = false := beq_eq_false_iff_ne.mpr c11
                have c11b1 : ((rd l0 x6_1) != (wrap64 (-a1))) = true := bne_iff_ne.mpr c11
                by_cases c14 : x5_1.length < 17592186044416
                · rw [if_pos c14] at H
                  have LMc14 := Aside0.mk c14
                  clear c14
                  obtain ⟨y338, hy338⟩ : ∃ y_ : List Int, y_ = (x5_1 ++ [rd l0 x6_1]) := ⟨_, rfl⟩
                  replace H : (ashlarlaw10_turned.l0 k1 l0 a1 y338 (wrap64 (x6_1 - 1))) = some r := by first | (rw [hy338]; with_reducible exact H) | (have H2_ := (Option.bind_some _ _).symm.trans H; rw [hy338]; with_reducible exact H2_) | (have H2_ := (Option.bind_some _ _).symm.trans H; with_reducible exact H2_) | with_reducible exact H | (rw [hy338]; exact H) | exact H
                  have Ny338 := Aside0.mk hy338
                  clear hy338
                  have H' := Aside0.mk H
                  clear H
                  have p331 : 0 ≤ (x6_1 : Int) := of_decide_eq_true (by first | (with_reducible assumption) | assumption)
                  have q331 : x6_1 < (l0.length : Int) := of_decide_eq_true (by first | (with_reducible assumption) | assumption)
                  obtain ⟨ad331, e331, hx331_0⟩ := Kd.at_int HR0.out x6_1 p331 q331
                  cases e331
                  replace hx331_0 := (HB.out.cell (World.block_lt_of_cell? w _ hx331_0)).trans hx331_0
                  replace p331 := eq_true p331
                  replace q331 := eq_true q331
                  go_wp2_with (first | ((with_reducible refine gate_builtin (b := .append) (xs := #[.tmp 31, .tmp 33]) rfl ?_); at_builtin; refine Kd.R_append (Kd.int .i64) (w0 := w) w.heap.size rfl (.tmp 31) (.tmp 33) 26 3 (.int .i64 0) 8 rfl Try.underlying26 info3 rfl (by decide) (by omega) u5 x5_1 (rd l0 x6_1) [.int .i64 (rd l0 x6_1)] (fun _ => True) (fun _ => False) rfl rfl ?aP (fun _ hk => hk.elim) ?aF ?aO ?aB ?aS ?aL ?_; (case aP => exact rfl); (case aB => exact (by repeat (first | (with_reducible first | exact HB.out | apply below_alloc | apply pw_below_drewN | apply below_drew1) | exact HB.out))); (case aF => exact (fun _ _ => trivial)); (case aO => exact (by (with_reducible repeat (first | apply Kd.R_alloc | apply Kd.R_drewN | apply Kd.R_drew)); exact HO_5.out)); (case aS => exact (below_size (by repeat (first | (with_reducible first | exact HB.out | apply below_alloc | apply pw_below_drewN | apply below_drew1) | exact HB.out)))); (case aL => have := LMc14.out; omega); intro v339 w15 ho hb hg hat; rw [← Ny338.out] at ho; have n0_ := Aside0.mk (hb); have n1_ := Aside0.mk (ho); clear HB; clear HO_5; have HB := n0_; have HO340 := n1_; clear n0_ n1_; clear ho hb hg hat))
                  go_roundg k1
                  case measure => have := HK1.out; omega
                  case rel => exact ⟨(y338), (wrap64 (x6_1 - 1)), (by first | rfl | (simp; done) | (simp [*]; done)), H', ⟨by have := HK1.out; omega⟩, ⟨by (with_reducible repeat (first | apply Kd.R_alloc | apply Kd.R_drewN | apply Kd.R_drew)); exact HO340.out⟩, ⟨by repeat (first | (with_reducible first | exact HB.out | apply below_alloc | apply pw_below_drewN | apply below_drew1) | exact HB.out)⟩⟩
                · rw [if_neg c14] at H
                  exact absurd H (by simp)
          · rw [if_neg c7] at H
            exact absurd H (by simp)
        · rw [if_neg c6] at H
          exact absurd H (by simp)
      · rw [if_neg c5] at H
        have c5b0 : decide (0 ≤ x6_1) = false := decide_eq_false c5
        clear c5
        obtain rfl := Option.some.inj H
        go_wp2
        go_ret
        exact ⟨_, by first | rfl | (simp [errW_none, errW_some] <;> rfl) | (simp [*, errW_none, errW_some] <;> rfl), by (with_reducible repeat (first | apply Kd.R_alloc | apply Kd.R_drewN | apply Kd.R_drew)); exact HO_5.out, by repeat (first | (with_reducible first | exact HB.out | apply below_alloc | apply pw_below_drewN | apply below_drew1) | exact HB.out)⟩

end Go.Proofs.Ytbmnoofffodakaa.Q
