/- What follows by unit propagation, told without arrays: no valuation that leaves every clause idle makes all the clause's literals false. -/
import Derived.Test.YtbmnoofffodakaaPropLink
namespace Go.Proofs.Ytbmnoofffodakaa.PT
open Go.RowKit Go.Proofs.Ytbmnoofffodakaa.Q Go.Proofs.YtbmnoofffodakaaW.PrintWords Go.Proofs.YtbmnoofffodakaaW.PrintLast Go.Proofs.YtbmnoofffodakaaW.PrintMore

def Val (F : Int → Int) : Prop := (∀ x, F (-x) = - F x) ∧ ∀ x, F x = 1 ∨ F x = -1 ∨ F x = 0
def IdleF (F : Int → Int) (c : List Int) : Prop := (∃ x ∈ c, F x = 1) ∨ ∃ x ∈ c, ∃ y ∈ c, x ≠ y ∧ F x = 0 ∧ F y = 0
def Rup (L : List (List Int)) (c : List Int) : Prop := ¬ ∃ F, Val F ∧ (∀ x ∈ c, F x = -1) ∧ ∀ d ∈ L, IdleF F d

theorem IdleF.congr {F G : Int → Int} {c : List Int} (h : ∀ x ∈ c, F x = G x) (k : IdleF F c) : IdleF G c := by
  rcases k with ⟨x, hx, e⟩ | ⟨x, hx, y, hy, hn, e1, e2⟩
  · exact .inl ⟨x, hx, (h x hx).symm.trans e⟩
  · exact .inr ⟨x, hx, y, hy, hn, (h x hx).symm.trans e1, (h y hy).symm.trans e2⟩
theorem idle_iff {a c : List Int} : idle a c ↔ IdleF (lv a) c := by
  constructor
  · intro h
    by_cases h1 : ∃ x ∈ c, lv a x = 1
    · exact .inl h1
    · right
      obtain ⟨x, hx, hx1⟩ : ∃ x ∈ c, lv a x ≠ -1 := Classical.byContradiction fun hh => idle_not_fls h (flsB_iff.2 fun x hx => Classical.byContradiction fun k => hh ⟨x, hx, k⟩)
      have hx0 : lv a x = 0 := by
        rcases lv_cases a x with e | e | e
        · exact (h1 ⟨x, hx, e⟩).elim
        · exact (hx1 e).elim
        · exact e
      obtain ⟨y, hy, hy1, hy2⟩ : ∃ y ∈ c, lv a y ≠ -1 ∧ y ≠ x := Classical.byContradiction fun hh => idle_not_unt h (untB_iff.2 ⟨hx, hx0, fun y hy => Classical.byContradiction fun k => hh ⟨y, hy, fun e => k (.inl e), fun e => k (.inr e)⟩⟩)
      refine ⟨x, hx, y, hy, fun e => hy2 e.symm, hx0, ?_⟩
      rcases lv_cases a y with e | e | e
      · exact (h1 ⟨y, hy, e⟩).elim
      · exact (hy1 e).elim
      · exact e
  · intro h
    constructor
    · cases hf : flsB a c with
      | false => rfl
      | true =>
        have := flsB_iff.1 hf
        rcases h with ⟨x, hx, e⟩ | ⟨x, hx, y, hy, hn, e1, e2⟩
        · have := this x hx; omega
        · have := this x hx; omega
    · intro n
      cases hf : untB a c n with
      | false => rfl
      | true =>
        obtain ⟨h1, h2, h3⟩ := untB_iff.1 hf
        rcases h with ⟨x, hx, e⟩ | ⟨x, hx, y, hy, hn, e1, e2⟩
        · rcases h3 x hx with k | k
          · omega
          · subst k; omega
        · rcases h3 x hx with k | k
          · omega
          · rcases h3 y hy with k' | k'
            · omega
            · exact (hn (k.trans k'.symm)).elim

def InC (n : Nat) (c : List Int) : Prop := ∀ x ∈ c, x ≠ 0 ∧ x < (n : Int) ∧ -x < (n : Int)
theorem sg_self {v : Int} (h : v = 1 ∨ v = -1 ∨ v = 0) : sg v = v := by
  rcases h with h | h | h <;> subst h <;> rfl
theorem lv_in {a : List Int} {x : Int} (h0 : x ≠ 0) (h1 : x < (a.length : Int)) (h2 : -x < (a.length : Int)) : lv a x = if 0 < x then sg (rd a x) else - sg (rd a (-x)) := by
  unfold lv
  by_cases h : 0 < x
  · rw [if_pos ⟨h, h1⟩, if_pos h]
  · rw [if_neg (fun k => h k.1), if_pos ⟨by omega, h2⟩, if_neg h]
theorem lv_out {a : List Int} {x : Int} (h : ¬ (x ≠ 0 ∧ x < (a.length : Int) ∧ -x < (a.length : Int))) : lv a x = -1 := by
  unfold lv
  rw [if_neg (fun k => h ⟨by omega, k.2, by omega⟩), if_neg (fun k => h ⟨by omega, by omega, k.2⟩)]
def Asg (a : List Int) (c : List Int) : Prop := ∀ j : Int, 0 ≤ j → j < (a.length : Int) → rd a j = if j ∈ c then -1 else if -j ∈ c then 1 else 0
theorem Asg.lv {a c : List Int} (h : Asg a c) {x : Int} (ht : ∀ x ∈ c, -x ∉ c) (h0 : x ≠ 0) (h1 : x < (a.length : Int)) (h2 : -x < (a.length : Int)) : PT.lv a x = if x ∈ c then -1 else if -x ∈ c then 1 else 0 := by
  rw [lv_in h0 h1 h2]
  by_cases hp : 0 < x
  · rw [if_pos hp, h x (by omega) h1, sg_self]
    by_cases k1 : x ∈ c
    · rw [if_pos k1]; omega
    · rw [if_neg k1]
      by_cases k2 : -x ∈ c
      · rw [if_pos k2]; omega
      · rw [if_neg k2]; omega
  · rw [if_neg hp, h (-x) (by omega) h2, Int.neg_neg]
    by_cases k1 : x ∈ c
    · rw [if_pos k1, if_neg (ht x k1), if_pos k1]; rfl
    · rw [if_neg k1, if_neg k1]
      by_cases k2 : -x ∈ c
      · rw [if_pos k2, if_pos k2]; rfl
      · rw [if_neg k2, if_neg k2]; rfl
theorem rd_map (n : Nat) (F : Int → Int) (j : Int) (h0 : 0 ≤ j) (h1 : j < (n : Int)) : rd ((List.range n).map fun (i : Nat) => F (i : Int)) j = F j := by
  have : j.toNat < n := by omega
  have e : ((j.toNat : Nat) : Int) = j := by omega
  simp [rd, List.getD_eq_getElem?_getD, this, e]
theorem run_rup {L : List (List Int)} {c a b : List Int} {r : Bool} (h : Run L a b r) (hL : ∀ d ∈ L, InC a.length d) (hc : InC a.length c) (ht : ∀ x ∈ c, -x ∉ c) (ha : Asg a c) : r = true ↔ Rup L c := by
  constructor
  · rintro hr ⟨F, hv, hF, hI⟩
    let z := (List.range a.length).map fun (i : Nat) => F (i : Int)
    have hz : z.length = a.length := by simp [z]
    have lvz : ∀ x : Int, x ≠ 0 → x < (a.length : Int) → -x < (a.length : Int) → lv z x = F x := by
      intro x h0 h1 h2
      rw [lv_in h0 (by omega) (by omega)]
      by_cases hp : 0 < x
      · rw [if_pos hp, rd_map _ _ _ (by omega) h1, sg_self (hv.2 x)]
      · rw [if_neg hp, rd_map _ _ _ (by omega) h2, sg_self (hv.2 _), hv.1 x]; omega
    have hagr : Agr a z := by
      intro x hx
      by_cases hin : x ≠ 0 ∧ x < (a.length : Int) ∧ -x < (a.length : Int)
      · rw [lvz x hin.1 hin.2.1 hin.2.2, ha.lv ht hin.1 hin.2.1 hin.2.2]
        rw [ha.lv ht hin.1 hin.2.1 hin.2.2] at hx
        by_cases k1 : x ∈ c
        · rw [if_pos k1]; exact hF x k1
        · rw [if_neg k1] at hx ⊢
          by_cases k2 : -x ∈ c
          · rw [if_pos k2]
            have := hF _ k2
            rw [hv.1] at this
            omega
          · rw [if_neg k2] at hx; exact (hx rfl).elim
      · rw [lv_out (a := z) (by rw [hz]; exact hin), lv_out hin]
    have hcl : ∀ d ∈ L, idle z d := fun d hd => idle_iff.2 ((hI d hd).congr fun x hx => (lvz x (hL d hd x hx).1 (hL d hd x hx).2.1 (hL d hd x hx).2.2).symm)
    rw [(h.least hcl hagr).2] at hr
    cases hr
  · intro hR
    cases r with
    | true => rfl
    | false =>
      exfalso
      apply hR
      have hb := h.length
      refine ⟨fun x => if x ≠ 0 ∧ x < (a.length : Int) ∧ -x < (a.length : Int) then lv b x else 0, ⟨fun x => ?_, fun x => ?_⟩, fun x hx => ?_, fun d hd => ?_⟩
      · by_cases hin : x ≠ 0 ∧ x < (a.length : Int) ∧ -x < (a.length : Int)
        · show (if _ then _ else _) = - (if _ then _ else _)
          rw [if_pos hin, if_pos (by omega), lv_in hin.1 (by omega) (by omega), lv_in (by omega) (by omega) (by omega), Int.neg_neg]
          by_cases hp : 0 < x
          · rw [if_pos hp, if_neg (by omega)]
          · rw [if_neg hp, if_pos (by omega)]; omega
        · show (if _ then _ else _) = - (if _ then _ else _)
          rw [if_neg hin, if_neg (by omega)]; rfl
      · show (if _ then _ else _) = _ ∨ (if _ then _ else _) = _ ∨ (if _ then _ else _) = _
        by_cases hin : x ≠ 0 ∧ x < (a.length : Int) ∧ -x < (a.length : Int)
        · rw [if_pos hin]; exact lv_cases b x
        · rw [if_neg hin]; exact .inr (.inr rfl)
      · show (if _ then _ else _) = _
        have hin := hc x hx
        have hl := ha.lv ht hin.1 hin.2.1 hin.2.2
        rw [if_pos hx] at hl
        rw [if_pos hin, h.agr x (by omega), hl]
      · exact (idle_iff.1 (h.closed rfl d hd)).congr fun x hx => by
          show _ = (if _ then _ else _)
          rw [if_pos (hL d hd x hx)]
/-- A clause that holds a literal and its opposite follows. -/
theorem rup_taut {L : List (List Int)} {c : List Int} {x : Int} (h1 : x ∈ c) (h2 : -x ∈ c) : Rup L c := by
  rintro ⟨F, hv, hF, _⟩
  have a := hF _ h1
  have b := hF _ h2
  rw [hv.1] at b
  omega
theorem Rup.more {L M : List (List Int)} {c : List Int} (h : Rup L c) (hs : ∀ d ∈ L, d ∈ M) : Rup M c := fun ⟨F, hv, hF, hI⟩ => h ⟨F, hv, hF, fun d hd => hI d (hs d hd)⟩
end Go.Proofs.Ytbmnoofffodakaa.PT
