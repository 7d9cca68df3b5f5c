/- The law SatPigeons, in plain Lean: more pigeons than holes do not fit. -/
import Derived.Test.YtmdjlhmifhnpdaaZg
import Derived.IntWalk
import Derived.Test.YtmdjlhmifhnpdaaZlSatPigeons
namespace Go.Proofs.Ytmdjlhmifhnpdaa.Pure
open Go.RowKit Go.Proofs.Ytmdjlhmifhnpdaa.Q Go.Proofs.Ytmdjlhmifhnpdaa.PT Go.Proofs.YtmdjlhmifhnpdaaW.PrintWords Go.Proofs.YtmdjlhmifhnpdaaW.PrintLast Go.Proofs.YtmdjlhmifhnpdaaW.PrintMore

theorem shown_300 : ashlarlaw09_shown.f 300 = some true := by decide +kernel
theorem pigeons_0_1 : ashlarlaw09_SatPigeons.l0 300 0 1 true [] 0 = some true := by decide +kernel
theorem pigeons_0_2 : ashlarlaw09_SatPigeons.l0 300 0 2 true [] 0 = some true := by decide +kernel
theorem pigeons_0_3 : ashlarlaw09_SatPigeons.l0 300 0 3 true [] 0 = some true := by decide +kernel
theorem pigeons_1_1 : ashlarlaw09_SatPigeons.l0 300 1 1 true [] 0 = some true := by decide +kernel
theorem pigeons_1_2 : ashlarlaw09_SatPigeons.l0 300 1 2 true [] 0 = some true := by decide +kernel
theorem pigeons_1_3 : ashlarlaw09_SatPigeons.l0 300 1 3 true [] 0 = some true := by decide +kernel
theorem pigeons_2_1 : ashlarlaw09_SatPigeons.l0 300 2 1 true [] 0 = some true := by decide +kernel
theorem pigeons_2_2 : ashlarlaw09_SatPigeons.l0 300 2 2 true [] 0 = some true := by decide +kernel
theorem pigeons_2_3 : ashlarlaw09_SatPigeons.l0 300 2 3 true [] 0 = some true := by decide +kernel
theorem pigeons_3_1 : ashlarlaw09_SatPigeons.l0 300 3 1 true [] 0 = some true := by decide +kernel
theorem pigeons_3_2 : ashlarlaw09_SatPigeons.l0 300 3 2 true [] 0 = some true := by decide +kernel
theorem pigeons_3_3 : ashlarlaw09_SatPigeons.l0 300 3 3 true [] 0 = some true := by decide +kernel
theorem pigeons_4_1 : ashlarlaw09_SatPigeons.l0 300 4 1 true [] 0 = some true := by decide +kernel
theorem pigeons_4_2 : ashlarlaw09_SatPigeons.l0 300 4 2 true [] 0 = some true := by decide +kernel
theorem pigeons_4_3 : ashlarlaw09_SatPigeons.l0 300 4 3 true [] 0 = some true := by decide +kernel
theorem pigeons_all (p h : Nat) (hp : p < 5) (hh : h < 3) : ashlarlaw09_SatPigeons.l0 300 (p : Int) ((h + 1 : Nat) : Int) true [] 0 = some true := by
  match p, h, hp, hh with
  | 0, 0, _, _ => exact pigeons_0_1
  | 0, 1, _, _ => exact pigeons_0_2
  | 0, 2, _, _ => exact pigeons_0_3
  | 1, 0, _, _ => exact pigeons_1_1
  | 1, 1, _, _ => exact pigeons_1_2
  | 1, 2, _, _ => exact pigeons_1_3
  | 2, 0, _, _ => exact pigeons_2_1
  | 2, 1, _, _ => exact pigeons_2_2
  | 2, 2, _, _ => exact pigeons_2_3
  | 3, 0, _, _ => exact pigeons_3_1
  | 3, 1, _, _ => exact pigeons_3_2
  | 3, 2, _, _ => exact pigeons_3_3
  | 4, 0, _, _ => exact pigeons_4_1
  | 4, 1, _, _ => exact pigeons_4_2
  | 4, 2, _, _ => exact pigeons_4_3
  | p + 5, _, hp, _ => omega
  | 0, h + 3, _, hh | 1, h + 3, _, hh | 2, h + 3, _, hh | 3, h + 3, _, hh | 4, h + 3, _, hh => omega
theorem SatPigeons : ∀ (a0 : Int) (a1 : Int), (Lit.int .i64 a0).wf = true → (Lit.int .i64 a1).wf = true → ∃ k, ashlarlaw09_SatPigeons.f k a0 a1 = some true := by
  intro a0 a1 _ _
  have h0 := bits_low a0
  have h1 := bits_low a1
  obtain ⟨p, hp⟩ : ∃ p : Nat, Int.tmod (Go.bits .and .i64 a0 65535) 5 = p := ⟨(Int.tmod (Go.bits .and .i64 a0 65535) 5).toNat, by have := Int.tmod_nonneg 5 h0.1; omega⟩
  obtain ⟨h, hh⟩ : ∃ h : Nat, Int.tmod (Go.bits .and .i64 a1 65535) 3 = h := ⟨(Int.tmod (Go.bits .and .i64 a1 65535) 3).toNat, by have := Int.tmod_nonneg 3 h1.1; omega⟩
  have hp5 : p < 5 := by have := Int.tmod_lt_of_pos (Go.bits .and .i64 a0 65535) (b := 5) (by decide); omega
  have hh3 : h < 3 := by have := Int.tmod_lt_of_pos (Go.bits .and .i64 a1 65535) (b := 3) (by decide); omega
  have hw : wrap64 (1 + (h : Int)) = ((h + 1 : Nat) : Int) := by rw [w64 (by omega) (by omega)]; omega
  refine ⟨300, ?_⟩
  unfold ashlarlaw09_SatPigeons.f
  rw [shown_300, hp, hh, hw]
  exact pigeons_all p h hp5 hh3
end Go.Proofs.Ytmdjlhmifhnpdaa.Pure
