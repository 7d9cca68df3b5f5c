/- Masks. -/
import Derived.Test.YtbmnoofffodakaaPropLink
namespace Go.Proofs.Ytbmnoofffodakaa.PT
open Go.RowKit Go.Proofs.Ytbmnoofffodakaa.Q Go.Proofs.YtbmnoofffodakaaW.PrintWords Go.Proofs.YtbmnoofffodakaaW.PrintLast Go.Proofs.YtbmnoofffodakaaW.PrintMore

/-- An int and a mask. -/
theorem bits_mask (a : Int) (m : Nat) (hm : m < 9223372036854775808) : Go.bits .and .i64 a (m : Int) = (((BitVec.ofInt 64 a).toNat &&& m : Nat) : Int) := by
  have h2 : (BitVec.ofInt 64 (m : Int)).toNat = m := by
    rw [BitVec.ofInt_natCast, BitVec.toNat_ofNat]
    exact Nat.mod_eq_of_lt (by omega)
  show IntKind.i64.wrap ((BitVec.ofInt 64 a &&& BitVec.ofInt 64 (m : Int)).toNat : Int) = _
  rw [BitVec.toNat_and, h2, i64_w]
  have : (BitVec.ofInt 64 a).toNat &&& m ≤ m := Nat.and_le_right
  exact w64 (by omega) (by omega)
theorem bits_mask_range (a : Int) (m : Nat) (hm : m < 9223372036854775808) : 0 ≤ Go.bits .and .i64 a (m : Int) ∧ Go.bits .and .i64 a (m : Int) ≤ (m : Int) := by
  rw [bits_mask a m hm]
  have : (BitVec.ofInt 64 a).toNat &&& m ≤ m := Nat.and_le_right
  omega
theorem bits_low (a : Int) : 0 ≤ Go.bits .and .i64 a 65535 ∧ Go.bits .and .i64 a 65535 ≤ 65535 := bits_mask_range a 65535 (by decide)
end Go.Proofs.Ytbmnoofffodakaa.PT
