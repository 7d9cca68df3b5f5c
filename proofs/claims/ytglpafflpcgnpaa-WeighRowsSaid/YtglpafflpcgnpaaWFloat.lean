/- Words for floats of 64 bits in the walk: a kind for slices of them, what comparisons and operations answer. -/
import Derived.Test.YtglpafflpcgnpaaWWords
import Derived.Test.YtglpafflpcgnpaaWFoot
import Derived.Test.YtglpafflpcgnpaaWMore
import Derived.Test.YtglpafflpcgnpaaProg
import Derived.Laws.Externs
namespace Go.Proofs.YtglpafflpcgnpaaW.PrintWords
open Go.RowKit Go.Proofs
namespace Kd
def f64 : Kd Nat := scalar (Value.float .f64) (fun _ => rfl)
theorem heap_f64 : Heap Kd.f64 := ⟨fun _ h => h⟩
theorem at_f64 {w : World} {A : Option Addr} {n : Nat} {xs : List Nat} (h : Kd.f64.C w A n xs) (i : Int) (h0 : 0 ≤ i) (h1 : i < n) : ∃ ad, A = some ad ∧ w.cell? (ad.add i.toNat) = some (.float .f64 (rdOf (0 : Nat) xs i)) :=
  ReadsOf.at_ (reads_of_C (enc := Value.float .f64) (d := (0 : Nat)) (h1 := fun _ => rfl) h) i h0 h1
theorem foot_f64 {w : World} {ad : Addr} {n : Nat} {l : List Nat} (h : Kd.f64.C w (some ad) n l) (i : Int) (h0 : 0 ≤ i) (h1 : i < n) : w.cell? (ad.add i.toNat) = some (.float .f64 (rdOf (0 : Nat) l i)) := by
  obtain ⟨ad', he, hc⟩ := at_f64 h i h0 h1
  injection he with he
  subst he
  exact hc
end Kd
def fEq (a b : Nat) : Bool := Ieee.double.order a b == some .eq
def fNe (a b : Nat) : Bool := Ieee.double.order a b != some .eq
def fLt (a b : Nat) : Bool := Ieee.double.order a b == some .lt
def fLe (a b : Nat) : Bool := Ieee.double.order a b == some .lt || Ieee.double.order a b == some .eq
def fGt (a b : Nat) : Bool := Ieee.double.order a b == some .gt
def fGe (a b : Nat) : Bool := Ieee.double.order a b == some .gt || Ieee.double.order a b == some .eq
def fNeg (a : Nat) : Nat := Op.negFloat .f64 a
def fAddOk (a b : Nat) : Bool := (Ieee.double.add a b).isSome
def fAdd (a b : Nat) : Nat := (Ieee.double.add a b).getD 0
def fSubOk (a b : Nat) : Bool := (Ieee.double.sub a b).isSome
def fSub (a b : Nat) : Nat := (Ieee.double.sub a b).getD 0
def fMulOk (a b : Nat) : Bool := (Ieee.double.mul a b).isSome
def fMul (a b : Nat) : Nat := (Ieee.double.mul a b).getD 0
def fDivOk (a b : Nat) : Bool := (Ieee.double.div a b).isSome
def fDiv (a b : Nat) : Nat := (Ieee.double.div a b).getD 0
theorem fl_eq (t : TypeId) (a b : Nat) : binOp .eql t (.float .f64 a) (.float .f64 b) = pure (.bool (fEq a b)) := by simp [binOp, Op.floatCmp, fEq, FloatKind.format]
theorem fl_ne (t : TypeId) (a b : Nat) : binOp .neq t (.float .f64 a) (.float .f64 b) = pure (.bool (fNe a b)) := by simp [binOp, Op.floatCmp, fNe, FloatKind.format]
theorem fl_lt (t : TypeId) (a b : Nat) : binOp .lss t (.float .f64 a) (.float .f64 b) = pure (.bool (fLt a b)) := by simp [binOp, Op.floatCmp, fLt, FloatKind.format]
theorem fl_le (t : TypeId) (a b : Nat) : binOp .leq t (.float .f64 a) (.float .f64 b) = pure (.bool (fLe a b)) := by simp [binOp, Op.floatCmp, fLe, FloatKind.format]
theorem fl_gt (t : TypeId) (a b : Nat) : binOp .gtr t (.float .f64 a) (.float .f64 b) = pure (.bool (fGt a b)) := by simp [binOp, Op.floatCmp, fGt, FloatKind.format]
theorem fl_ge (t : TypeId) (a b : Nat) : binOp .geq t (.float .f64 a) (.float .f64 b) = pure (.bool (fGe a b)) := by simp [binOp, Op.floatCmp, fGe, FloatKind.format]
theorem fl_neg (a : Nat) : Op.unary .neg (.float .f64 a) = pure (.float .f64 (fNeg a)) := by simp [Op.unary, fNeg]
theorem fl_add (t : TypeId) (a b : Nat) (h : fAddOk a b = true) : binOp .add t (.float .f64 a) (.float .f64 b) = pure (.float .f64 (fAdd a b)) := by
  obtain ⟨r, hr⟩ := Option.isSome_iff_exists.1 (show (Ieee.double.add a b).isSome = true from h)
  simp [binOp, Op.floatArith, fAdd, FloatKind.format, hr]
theorem fl_sub (t : TypeId) (a b : Nat) (h : fSubOk a b = true) : binOp .sub t (.float .f64 a) (.float .f64 b) = pure (.float .f64 (fSub a b)) := by
  obtain ⟨r, hr⟩ := Option.isSome_iff_exists.1 (show (Ieee.double.sub a b).isSome = true from h)
  simp [binOp, Op.floatArith, fSub, FloatKind.format, hr]
theorem fl_mul (t : TypeId) (a b : Nat) (h : fMulOk a b = true) : binOp .mul t (.float .f64 a) (.float .f64 b) = pure (.float .f64 (fMul a b)) := by
  obtain ⟨r, hr⟩ := Option.isSome_iff_exists.1 (show (Ieee.double.mul a b).isSome = true from h)
  simp [binOp, Op.floatArith, fMul, FloatKind.format, hr]
theorem fl_div (t : TypeId) (a b : Nat) (h : fDivOk a b = true) : binOp .quo t (.float .f64 a) (.float .f64 b) = pure (.float .f64 (fDiv a b)) := by
  obtain ⟨r, hr⟩ := Option.isSome_iff_exists.1 (show (Ieee.double.div a b).isSome = true from h)
  simp [binOp, Op.floatArith, fDiv, FloatKind.format, hr]
theorem run_store_float {P : Program} {w : World} {a : Addr} {m : Mode} (k : FloatKind) (b : Nat) : (store a (.float k b) m).run P w = stored P w a (.float k b) m := run_store P w a _ m rfl
theorem call_bits (b : Nat) (w : World) : (callFunc 19 #[.float .f64 b]).run Try.prog w = .ok (.value (.int .u64 (b : Int))) w := by
  rw [run_callFunc_extern (e := Extern.MathFloatBits.float64bits) Try.func19 (by kernel_rfl) (by kernel_rfl) (by kernel_rfl) (by kernel_rfl)]; rfl
theorem call_frombits (n : Int) (w : World) : (callFunc 20 #[.int .u64 n]).run Try.prog w = .ok (.value (.float .f64 n.toNat)) w := by
  rw [run_callFunc_extern (e := Extern.MathFloatBits.float64frombits) Try.func20 (by kernel_rfl) (by kernel_rfl) (by kernel_rfl) (by kernel_rfl)]; rfl
attribute [go_sem] call_bits call_frombits run_store_float fl_eq fl_ne fl_lt fl_le fl_gt fl_ge fl_neg fl_add fl_sub fl_mul fl_div
end Go.Proofs.YtglpafflpcgnpaaW.PrintWords
