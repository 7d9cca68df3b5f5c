/- The law SatParity, in plain Lean: an odd sum of bits is not an even one. -/
import Derived.Test.YtmdjlhmifhnpdaaZg
import Derived.IntWalk
import Derived.Test.YtmdjlhmifhnpdaaZlSatParity
namespace Go.Proofs.Ytmdjlhmifhnpdaa.Pure
open Go.RowKit Go.Proofs.Ytmdjlhmifhnpdaa.Q Go.Proofs.Ytmdjlhmifhnpdaa.PT Go.Proofs.YtmdjlhmifhnpdaaW.PrintWords Go.Proofs.YtmdjlhmifhnpdaaW.PrintLast Go.Proofs.YtmdjlhmifhnpdaaW.PrintMore

theorem shown_many : ashlarlaw09_shown.f 1000 = some true := by decide +kernel
/-- The law behind its first call, of so many variables. -/
def parityAt (n : Int) (a1 : Bool) : Option Bool := (ashlarlaw09_sums.f 1000 n 1).bind fun t498 => (if a1 = true then ((ashlarlaw09_sums.f 1000 n 0).bind fun t501 => (if t498.length + t501.length < 5864062014805 then (ashlarlaw09_SatParity.j0 1000 n a1 true (t498 ++ t501)) else (none))) else (ashlarlaw09_SatParity.j0 1000 n a1 true t498))
theorem parity_1_true : parityAt 1 true = some true := by decide +kernel
theorem parity_1_false : parityAt 1 false = some true := by decide +kernel
theorem parity_2_true : parityAt 2 true = some true := by decide +kernel
theorem parity_2_false : parityAt 2 false = some true := by decide +kernel
theorem parity_3_true : parityAt 3 true = some true := by decide +kernel
theorem parity_3_false : parityAt 3 false = some true := by decide +kernel
theorem parity_4_true : parityAt 4 true = some true := by decide +kernel
theorem parity_4_false : parityAt 4 false = some true := by decide +kernel
theorem parity_5_true : parityAt 5 true = some true := by decide +kernel
theorem parity_5_false : parityAt 5 false = some true := by decide +kernel
theorem parity_all (n : Nat) (hn : n < 5) (b : Bool) : parityAt ((n + 1 : Nat) : Int) b = some true := by
  match n, b, hn with
  | 0, true, _ => exact parity_1_true
  | 0, false, _ => exact parity_1_false
  | 1, true, _ => exact parity_2_true
  | 1, false, _ => exact parity_2_false
  | 2, true, _ => exact parity_3_true
  | 2, false, _ => exact parity_3_false
  | 3, true, _ => exact parity_4_true
  | 3, false, _ => exact parity_4_false
  | 4, true, _ => exact parity_5_true
  | 4, false, _ => exact parity_5_false
  | n + 5, _, hn => omega
theorem SatParity : ∀ (a0 : Int) (a1 : Bool), (Lit.int .i64 a0).wf = true → ∃ k, ashlarlaw09_SatParity.f k a0 a1 = some true := by
  intro a0 a1 _
  have h0 := bits_low a0
  obtain ⟨n, hn⟩ : ∃ n : Nat, Int.tmod (Go.bits .and .i64 a0 65535) 5 = n := ⟨(Int.tmod (Go.bits .and .i64 a0 65535) 5).toNat, by have := Int.tmod_nonneg 5 h0.1; omega⟩
  have hn5 : n < 5 := by have := Int.tmod_lt_of_pos (Go.bits .and .i64 a0 65535) (b := 5) (by decide); omega
  have hw : wrap64 (1 + (n : Int)) = ((n + 1 : Nat) : Int) := by rw [w64 (by omega) (by omega)]; omega
  refine ⟨1000, ?_⟩
  unfold ashlarlaw09_SatParity.f
  rw [shown_many, hn, hw]
  exact parity_all n hn5 a1
end Go.Proofs.Ytmdjlhmifhnpdaa.Pure
