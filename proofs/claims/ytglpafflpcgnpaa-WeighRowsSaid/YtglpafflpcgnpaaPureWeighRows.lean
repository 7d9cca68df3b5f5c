/- The plain law of WeighRows: what the printed functions compute answers true. -/
import Derived.Test.YtglpafflpcgnpaaWeigh3
import Derived.Test.YtglpafflpcgnpaaQx4
namespace Go.Proofs.Ytglpafflpcgnpaa.Pure
set_option linter.unusedVariables false
open Go.RowKit Go.Proofs.Ytglpafflpcgnpaa.Q Go.Proofs.YtglpafflpcgnpaaW.PrintWords Go.Proofs.YtglpafflpcgnpaaW.PrintLast Go.Proofs.Ytglpafflpcgnpaa.Fl

theorem row_fin (b : Bool) (x : Nat) : rung (row b x) < inf := by
  unfold row
  split
  · have := mulT_rung x; have : inf = 9218868437227405312 := rfl; omega
  · exact tame_fin x
theorem flo_getD (l : List Int) (i : Nat) (h : i < (flo l).length) : (flo l).getD i 0 = (l.getD i 0).toNat := by
  have hl := flo_len l
  have e : (flo l)[i]? = some (l.getD i 0).toNat := by
    unfold flo
    rw [List.getElem?_map, List.getElem?_take, if_pos (by omega), List.getElem?_eq_getElem (by omega), getD_of_lt l i 0 (by omega)]; rfl
  rw [List.getD_eq_getElem?_getD, e]; rfl
theorem drop_getD (l : List Int) (i : Nat) : (l.drop i).getD 0 0 = l.getD i 0 := by
  rw [List.getD_eq_getElem?_getD, List.getD_eq_getElem?_getD, List.getElem?_drop, Nat.add_zero]
theorem rows_l0 (l : List Int) (hm : ∀ z ∈ l, (Lit.int .u64 z).wf = true) (b : Bool) (d : Nat) : ∀ (k i : Nat), (flo l).length - i = d → i ≤ (flo l).length → d + 200 < k →
    ashlarlaw02_WeighRows.l0 k l true (flo l) ((flo l).map (row b)) ((flo l).map (row b)) (i : Int) = some true := by
  have hlen : ((flo l).map (row b)).length = (flo l).length := List.length_map _
  have hl := flo_len l
  induction d with
  | zero =>
    intro k i hd hi hk
    obtain ⟨k, rfl⟩ : ∃ m, k = m + 1 := ⟨k - 1, by omega⟩
    rw [ashlarlaw02_WeighRows.l0]
    rw [if_neg (by rw [hlen]; omega)]
  | succ d ih =>
    intro k i hd hi hk
    obtain ⟨k, rfl⟩ : ∃ m, k = m + 1 := ⟨k - 1, by omega⟩
    rw [ashlarlaw02_WeighRows.l0]
    have hil : i < (flo l).length := by omega
    have g := getD_map (flo l) (row b) i hil
    have hf := row_fin b ((flo l).getD i 0)
    have hfl := flo_len (l.drop i)
    have hdl : (l.drop i).length = l.length - i := List.length_drop
    have e1 : rdOf (0 : Nat) (flo (l.drop i)) 0 = (l.getD i 0).toNat := by
      have := rd_nat (flo (l.drop i)) 0
      rw [show ((0 : Nat) : Int) = 0 from rfl] at this
      rw [this, flo_getD (l.drop i) 0 (by omega), drop_getD]
    rw [if_pos (by rw [hlen]; omega), if_pos (by omega), if_pos (by rw [hlen]; omega), rd_nat, g, same_self _ (by omega), Option.bind_some, if_pos rfl, if_pos (by omega), if_pos (by omega), Int.toNat_natCast,
      floats_f (l.drop i) k (by omega), Option.bind_some, if_pos (by omega), e1, rd_nat, flo_getD l i hil, if_pos rfl, wrap_succ (by omega) (by omega)]
    exact ih k (i + 1) (by omega) (by omega) (by omega)
theorem WeighRows : ∀ (l0 : List Int), l0.length ≤ maxLen → (∀ x ∈ l0, (Lit.int .u64 x).wf = true) → ∃ k, ashlarlaw02_WeighRows.f k l0 = some true := by
  intro l hm hwf
  obtain ⟨n, hn⟩ : ∃ n, n = 20000 := ⟨20000, rfl⟩
  refine ⟨n + 1, ?_⟩
  have hl := flo_len l
  have hw := flo_W l hwf
  have hfin : ∃ h, weigh_Heavy.f (flo l) = some h := by
    rcases heavy_f (flo l) hw (by omega) with ⟨_, h⟩ | ⟨h, e, _⟩
    · exact ⟨_, h⟩
    · exact ⟨_, e⟩
  obtain ⟨h, hh⟩ := hfin
  unfold ashlarlaw02_WeighRows.f
  rw [shown_f (n + 1) (by omega), Option.bind_some, floats_f l (n + 1) (by omega), Option.bind_some, rescale_f (flo l) hw (by omega) (n + 1) (by omega), Option.bind_some, rrescale_f (flo l) hw (by omega) (n + 1) (by omega), Option.bind_some,
    if_neg (by simp), if_pos rfl, rheavy_f (flo l) hw (by omega) (n + 1) (by omega), hh, Option.bind_some, Option.bind_some, rescale_row]
  have e : (h != h) = false := by simp
  rw [e, ashlarlaw02_WeighRows.j0, if_neg (by decide)]
  exact rows_l0 l hwf _ (flo l).length n 0 (by omega) (by omega) (by omega)

end Go.Proofs.Ytglpafflpcgnpaa.Pure
