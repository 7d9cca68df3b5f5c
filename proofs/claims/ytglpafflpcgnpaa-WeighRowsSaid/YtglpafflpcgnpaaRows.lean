/-
  No cell of these rows narrows 'for every input' (looked for: loops, veiled, ifaces, maps, wideKeys, modest, calm, conditions, laid).
  DERIVED. THE GIVEN ROWS OF THIS SEAT. 9 by the template 'for every input the law returns true; each argument reads behind the call as it read before'; 0 by the template 'total and deterministic' (their statements: YtglpafflpcgnpaaTotals.lean).
  GIVEN WITH THE SEED: the statements are not yours to turn. If you find one false, say at which input.
  Laid BY PROGRAM, IN A SANDBOX (cutbox-rows.mjs): the forced cells as the released guide's own fill.sh prints them over the translation 9514dd458c9d3dd2… (all of the seat's roots in one cut). By AI agents, Wed Nov 11 2026. No macro, syntax, notation, axiom, sorry.
-/
import Derived.Test.YtglpafflpcgnpaaChecked
import GoSem.Claim
import GoSem.ClaimJoined
import GoSem.ClaimMapViews
import Derived.JoinedTies
import Derived.KernelRfl
namespace Go.Proofs.Ytglpafflpcgnpaa
/- THE CELL 'sum', in the pinned program and in every row, IS THE sha256 OF THE DUMP (.gsa) THAT YtglpafflpcgnpaaProg.lean LOADS. Nothing in Lean hashes anything: it is a label: what it is worth is what the hold of that sum in a sandbox is worth. -/
noncomputable def Try.pinned : Pinned := { name := "ytglpafflpcgnpaa", sum := "9514dd458c9d3dd283b9a346fb95da26a58ad60e84866f6d71642968cf215d0c", checked := Try.checked }
namespace Rows
def none {H : Type} : Left H := { results := [], args := [] }

/-- 'ashlarlaw02.WeighRows': WHATEVER THE INPUT: true; the input reads as it did. -/
def weighRowsSpec : ChangeSpec := { name := "weighRows", fn := fun _ => fun
  | [d] => { results := [.lit (.bool true)], args := [d] }
  | _ => none }
def weighRowsRow : OpenClaim := { program := "ytglpafflpcgnpaa", sum := "9514dd458c9d3dd283b9a346fb95da26a58ad60e84866f6d71642968cf215d0c", func := "ashlar/ashlarlaw02.WeighRows", spec := "weighRows", inPlace := ["math.Float64frombits", "math.Float64bits"], unfollowed := true, recurses := true, apart := false }
def WeighRowsSaid : Prop := weighRowsRow.holds Try.pinned (OpenSpec.ofChange weighRowsSpec)

/-- ITS FALSE NEIGHBOUR: 'it returns false'. Refute it at one input. -/
def weighRowsWrong : ChangeSpec := { name := "weighRows", fn := fun _ => fun
  | [d] => { results := [.lit (.bool false)], args := [d] }
  | _ => none }
def WeighRowsWrongFalsely : Prop := weighRowsRow.holds Try.pinned (OpenSpec.ofChange weighRowsWrong)

/-- 'ashlarlaw02.WeighOrder': WHATEVER THE INPUT: true; the input reads as it did. -/
def weighOrderSpec : ChangeSpec := { name := "weighOrder", fn := fun _ => fun
  | [d1, d2, d3] => { results := [.lit (.bool true)], args := [d1, d2, d3] }
  | _ => none }
def weighOrderRow : OpenClaim := { program := "ytglpafflpcgnpaa", sum := "9514dd458c9d3dd283b9a346fb95da26a58ad60e84866f6d71642968cf215d0c", func := "ashlar/ashlarlaw02.WeighOrder", spec := "weighOrder", inPlace := ["math.Float64frombits", "math.Float64bits"], unfollowed := true, recurses := true, apart := false }
def WeighOrderSaid : Prop := weighOrderRow.holds Try.pinned (OpenSpec.ofChange weighOrderSpec)

/-- ITS FALSE NEIGHBOUR: 'it returns false'. Refute it at one input. -/
def weighOrderWrong : ChangeSpec := { name := "weighOrder", fn := fun _ => fun
  | [d1, d2, d3] => { results := [.lit (.bool false)], args := [d1, d2, d3] }
  | _ => none }
def WeighOrderWrongFalsely : Prop := weighOrderRow.holds Try.pinned (OpenSpec.ofChange weighOrderWrong)

/-- 'ashlarlaw02.WeighHeavy': WHATEVER THE INPUT: true; the input reads as it did. -/
def weighHeavySpec : ChangeSpec := { name := "weighHeavy", fn := fun _ => fun
  | [d] => { results := [.lit (.bool true)], args := [d] }
  | _ => none }
def weighHeavyRow : OpenClaim := { program := "ytglpafflpcgnpaa", sum := "9514dd458c9d3dd283b9a346fb95da26a58ad60e84866f6d71642968cf215d0c", func := "ashlar/ashlarlaw02.WeighHeavy", spec := "weighHeavy", inPlace := ["math.Float64frombits", "math.Float64bits"], unfollowed := true, recurses := true, apart := false }
def WeighHeavySaid : Prop := weighHeavyRow.holds Try.pinned (OpenSpec.ofChange weighHeavySpec)

/-- ITS FALSE NEIGHBOUR: 'it returns false'. Refute it at one input. -/
def weighHeavyWrong : ChangeSpec := { name := "weighHeavy", fn := fun _ => fun
  | [d] => { results := [.lit (.bool false)], args := [d] }
  | _ => none }
def WeighHeavyWrongFalsely : Prop := weighHeavyRow.holds Try.pinned (OpenSpec.ofChange weighHeavyWrong)

/-- 'ashlarlaw02.WeighTurned': WHATEVER THE INPUT: true; the input reads as it did. -/
def weighTurnedSpec : ChangeSpec := { name := "weighTurned", fn := fun _ => fun
  | [d1, d2] => { results := [.lit (.bool true)], args := [d1, d2] }
  | _ => none }
def weighTurnedRow : OpenClaim := { program := "ytglpafflpcgnpaa", sum := "9514dd458c9d3dd283b9a346fb95da26a58ad60e84866f6d71642968cf215d0c", func := "ashlar/ashlarlaw02.WeighTurned", spec := "weighTurned", inPlace := ["math.Float64frombits", "math.Float64bits"], unfollowed := true, recurses := true, apart := false }
def WeighTurnedSaid : Prop := weighTurnedRow.holds Try.pinned (OpenSpec.ofChange weighTurnedSpec)

/-- ITS FALSE NEIGHBOUR: 'it returns false'. Refute it at one input. -/
def weighTurnedWrong : ChangeSpec := { name := "weighTurned", fn := fun _ => fun
  | [d1, d2] => { results := [.lit (.bool false)], args := [d1, d2] }
  | _ => none }
def WeighTurnedWrongFalsely : Prop := weighTurnedRow.holds Try.pinned (OpenSpec.ofChange weighTurnedWrong)

/-- 'ashlarlaw02.WeighKeeps': WHATEVER THE INPUT: true; the input reads as it did. -/
def weighKeepsSpec : ChangeSpec := { name := "weighKeeps", fn := fun _ => fun
  | [d] => { results := [.lit (.bool true)], args := [d] }
  | _ => none }
def weighKeepsRow : OpenClaim := { program := "ytglpafflpcgnpaa", sum := "9514dd458c9d3dd283b9a346fb95da26a58ad60e84866f6d71642968cf215d0c", func := "ashlar/ashlarlaw02.WeighKeeps", spec := "weighKeeps", inPlace := ["math.Float64frombits", "math.Float64bits"], unfollowed := true, recurses := true, apart := false }
def WeighKeepsSaid : Prop := weighKeepsRow.holds Try.pinned (OpenSpec.ofChange weighKeepsSpec)

/-- ITS FALSE NEIGHBOUR: 'it returns false'. Refute it at one input. -/
def weighKeepsWrong : ChangeSpec := { name := "weighKeeps", fn := fun _ => fun
  | [d] => { results := [.lit (.bool false)], args := [d] }
  | _ => none }
def WeighKeepsWrongFalsely : Prop := weighKeepsRow.holds Try.pinned (OpenSpec.ofChange weighKeepsWrong)

/-- 'ashlarlaw02.WeighRowsTwo': WHATEVER THE INPUT: true; the input reads as it did. -/
def weighRowsTwoSpec : ChangeSpec := { name := "weighRowsTwo", fn := fun _ => fun
  | [d1, d2] => { results := [.lit (.bool true)], args := [d1, d2] }
  | _ => none }
def weighRowsTwoRow : OpenClaim := { program := "ytglpafflpcgnpaa", sum := "9514dd458c9d3dd283b9a346fb95da26a58ad60e84866f6d71642968cf215d0c", func := "ashlar/ashlarlaw02.WeighRowsTwo", spec := "weighRowsTwo", inPlace := ["math.Float64frombits", "math.Float64bits"], unfollowed := true, recurses := true, apart := false }
def WeighRowsTwoSaid : Prop := weighRowsTwoRow.holds Try.pinned (OpenSpec.ofChange weighRowsTwoSpec)

/-- ITS FALSE NEIGHBOUR: 'it returns false'. Refute it at one input. -/
def weighRowsTwoWrong : ChangeSpec := { name := "weighRowsTwo", fn := fun _ => fun
  | [d1, d2] => { results := [.lit (.bool false)], args := [d1, d2] }
  | _ => none }
def WeighRowsTwoWrongFalsely : Prop := weighRowsTwoRow.holds Try.pinned (OpenSpec.ofChange weighRowsTwoWrong)

/-- 'ashlarlaw02.WeighTells': WHATEVER THE INPUT: true; the input reads as it did. -/
def weighTellsSpec : ChangeSpec := { name := "weighTells", fn := fun _ => fun
  | [d1, d2] => { results := [.lit (.bool true)], args := [d1, d2] }
  | _ => none }
def weighTellsRow : OpenClaim := { program := "ytglpafflpcgnpaa", sum := "9514dd458c9d3dd283b9a346fb95da26a58ad60e84866f6d71642968cf215d0c", func := "ashlar/ashlarlaw02.WeighTells", spec := "weighTells", inPlace := ["math.Float64frombits", "math.Float64bits"], unfollowed := true, recurses := true, apart := false }
def WeighTellsSaid : Prop := weighTellsRow.holds Try.pinned (OpenSpec.ofChange weighTellsSpec)

/-- ITS FALSE NEIGHBOUR: 'it returns false'. Refute it at one input. -/
def weighTellsWrong : ChangeSpec := { name := "weighTells", fn := fun _ => fun
  | [d1, d2] => { results := [.lit (.bool false)], args := [d1, d2] }
  | _ => none }
def WeighTellsWrongFalsely : Prop := weighTellsRow.holds Try.pinned (OpenSpec.ofChange weighTellsWrong)

/-- 'ashlarlaw02.WeighFinite': WHATEVER THE INPUT: true; the input reads as it did. -/
def weighFiniteSpec : ChangeSpec := { name := "weighFinite", fn := fun _ => fun
  | [d1, d2, d3] => { results := [.lit (.bool true)], args := [d1, d2, d3] }
  | _ => none }
def weighFiniteRow : OpenClaim := { program := "ytglpafflpcgnpaa", sum := "9514dd458c9d3dd283b9a346fb95da26a58ad60e84866f6d71642968cf215d0c", func := "ashlar/ashlarlaw02.WeighFinite", spec := "weighFinite", inPlace := ["math.Float64frombits", "math.Float64bits"], unfollowed := true, recurses := true, apart := false }
def WeighFiniteSaid : Prop := weighFiniteRow.holds Try.pinned (OpenSpec.ofChange weighFiniteSpec)

/-- ITS FALSE NEIGHBOUR: 'it returns false'. Refute it at one input. -/
def weighFiniteWrong : ChangeSpec := { name := "weighFinite", fn := fun _ => fun
  | [d1, d2, d3] => { results := [.lit (.bool false)], args := [d1, d2, d3] }
  | _ => none }
def WeighFiniteWrongFalsely : Prop := weighFiniteRow.holds Try.pinned (OpenSpec.ofChange weighFiniteWrong)

/-- 'ashlarlaw02.WeighGrows': WHATEVER THE INPUT: true; the input reads as it did. -/
def weighGrowsSpec : ChangeSpec := { name := "weighGrows", fn := fun _ => fun
  | [d] => { results := [.lit (.bool true)], args := [d] }
  | _ => none }
def weighGrowsRow : OpenClaim := { program := "ytglpafflpcgnpaa", sum := "9514dd458c9d3dd283b9a346fb95da26a58ad60e84866f6d71642968cf215d0c", func := "ashlar/ashlarlaw02.WeighGrows", spec := "weighGrows", inPlace := ["math.Float64frombits", "math.Float64bits"], unfollowed := true, recurses := true, apart := false }
def WeighGrowsSaid : Prop := weighGrowsRow.holds Try.pinned (OpenSpec.ofChange weighGrowsSpec)

/-- ITS FALSE NEIGHBOUR: 'it returns false'. Refute it at one input. -/
def weighGrowsWrong : ChangeSpec := { name := "weighGrows", fn := fun _ => fun
  | [d] => { results := [.lit (.bool false)], args := [d] }
  | _ => none }
def WeighGrowsWrongFalsely : Prop := weighGrowsRow.holds Try.pinned (OpenSpec.ofChange weighGrowsWrong)

/- THE SECOND FORM. 'bulk': how many values and letters a reading holds, each counted each time it is reached (what is shared counts as often as it is met; a slice's spare places count too). A statement '..UptoSaid' is the law's where the arguments, and the package variables that the reading takes, are together of bulk at most 1048576: NARROWER than '..Said'. Prove '..Said' where nothing that the law and all that it calls make is longer than what came in: it says more and counts as full. Else prove '..UptoSaid'. A law counts once. -/
mutual
def uptoBulk {H : Type} : DataW H → Nat
  | .lit (.string bytes) => bytes.length + 1
  | .lit _ => 1
  | .nil => 1
  | .ptr d => uptoBulk d + 1
  | .slice elems spare => uptoBulkAll elems + uptoBulkAll spare + 1
  | .agg parts => uptoBulkAll parts + 1
  | .iface _ d => uptoBulk d + 1
  | .map entries => uptoBulkEntries entries + 1
  | .held _ => 1
def uptoBulkAll {H : Type} : List (DataW H) → Nat
  | [] => 0
  | d :: r => uptoBulk d + uptoBulkAll r
def uptoBulkEntries {H : Type} : List (Lit × DataW H) → Nat
  | [] => 0
  | x :: r => uptoBulkEntry x + uptoBulkEntries r
def uptoBulkEntry {H : Type} : Lit × DataW H → Nat
  | (.string bytes, d) => bytes.length + uptoBulk d + 1
  | (_, d) => uptoBulk d + 1
 end
def uptoSmall : (H : Type) → List (DataW H) → Bool := fun _ ds => decide (uptoBulkAll ds ≤ 1048576)
def OpenSpec.upto (s : _root_.Go.ChangeSpec) : _root_.Go.OpenSpec := { _root_.Go.OpenSpec.ofChange s with cond := some uptoSmall }

/-- 'ashlarlaw02.WeighRows', WHERE WHAT IT READS IS OF BULK AT MOST 1048576: true; the input reads as it did. -/
def weighRowsUptoRow : OpenClaim := { program := "ytglpafflpcgnpaa", sum := "9514dd458c9d3dd283b9a346fb95da26a58ad60e84866f6d71642968cf215d0c", func := "ashlar/ashlarlaw02.WeighRows", spec := "weighRows", inPlace := ["math.Float64frombits", "math.Float64bits"], unfollowed := true, recurses := true, apart := false, narrowed := true }
def WeighRowsUptoSaid : Prop := weighRowsUptoRow.holds Try.pinned (OpenSpec.upto weighRowsSpec)

/-- 'ashlarlaw02.WeighOrder', WHERE WHAT IT READS IS OF BULK AT MOST 1048576: true; the input reads as it did. -/
def weighOrderUptoRow : OpenClaim := { program := "ytglpafflpcgnpaa", sum := "9514dd458c9d3dd283b9a346fb95da26a58ad60e84866f6d71642968cf215d0c", func := "ashlar/ashlarlaw02.WeighOrder", spec := "weighOrder", inPlace := ["math.Float64frombits", "math.Float64bits"], unfollowed := true, recurses := true, apart := false, narrowed := true }
def WeighOrderUptoSaid : Prop := weighOrderUptoRow.holds Try.pinned (OpenSpec.upto weighOrderSpec)

/-- 'ashlarlaw02.WeighHeavy', WHERE WHAT IT READS IS OF BULK AT MOST 1048576: true; the input reads as it did. -/
def weighHeavyUptoRow : OpenClaim := { program := "ytglpafflpcgnpaa", sum := "9514dd458c9d3dd283b9a346fb95da26a58ad60e84866f6d71642968cf215d0c", func := "ashlar/ashlarlaw02.WeighHeavy", spec := "weighHeavy", inPlace := ["math.Float64frombits", "math.Float64bits"], unfollowed := true, recurses := true, apart := false, narrowed := true }
def WeighHeavyUptoSaid : Prop := weighHeavyUptoRow.holds Try.pinned (OpenSpec.upto weighHeavySpec)

/-- 'ashlarlaw02.WeighTurned', WHERE WHAT IT READS IS OF BULK AT MOST 1048576: true; the input reads as it did. -/
def weighTurnedUptoRow : OpenClaim := { program := "ytglpafflpcgnpaa", sum := "9514dd458c9d3dd283b9a346fb95da26a58ad60e84866f6d71642968cf215d0c", func := "ashlar/ashlarlaw02.WeighTurned", spec := "weighTurned", inPlace := ["math.Float64frombits", "math.Float64bits"], unfollowed := true, recurses := true, apart := false, narrowed := true }
def WeighTurnedUptoSaid : Prop := weighTurnedUptoRow.holds Try.pinned (OpenSpec.upto weighTurnedSpec)

/-- 'ashlarlaw02.WeighKeeps', WHERE WHAT IT READS IS OF BULK AT MOST 1048576: true; the input reads as it did. -/
def weighKeepsUptoRow : OpenClaim := { program := "ytglpafflpcgnpaa", sum := "9514dd458c9d3dd283b9a346fb95da26a58ad60e84866f6d71642968cf215d0c", func := "ashlar/ashlarlaw02.WeighKeeps", spec := "weighKeeps", inPlace := ["math.Float64frombits", "math.Float64bits"], unfollowed := true, recurses := true, apart := false, narrowed := true }
def WeighKeepsUptoSaid : Prop := weighKeepsUptoRow.holds Try.pinned (OpenSpec.upto weighKeepsSpec)

/-- 'ashlarlaw02.WeighRowsTwo', WHERE WHAT IT READS IS OF BULK AT MOST 1048576: true; the input reads as it did. -/
def weighRowsTwoUptoRow : OpenClaim := { program := "ytglpafflpcgnpaa", sum := "9514dd458c9d3dd283b9a346fb95da26a58ad60e84866f6d71642968cf215d0c", func := "ashlar/ashlarlaw02.WeighRowsTwo", spec := "weighRowsTwo", inPlace := ["math.Float64frombits", "math.Float64bits"], unfollowed := true, recurses := true, apart := false, narrowed := true }
def WeighRowsTwoUptoSaid : Prop := weighRowsTwoUptoRow.holds Try.pinned (OpenSpec.upto weighRowsTwoSpec)

/-- 'ashlarlaw02.WeighTells', WHERE WHAT IT READS IS OF BULK AT MOST 1048576: true; the input reads as it did. -/
def weighTellsUptoRow : OpenClaim := { program := "ytglpafflpcgnpaa", sum := "9514dd458c9d3dd283b9a346fb95da26a58ad60e84866f6d71642968cf215d0c", func := "ashlar/ashlarlaw02.WeighTells", spec := "weighTells", inPlace := ["math.Float64frombits", "math.Float64bits"], unfollowed := true, recurses := true, apart := false, narrowed := true }
def WeighTellsUptoSaid : Prop := weighTellsUptoRow.holds Try.pinned (OpenSpec.upto weighTellsSpec)

/-- 'ashlarlaw02.WeighFinite', WHERE WHAT IT READS IS OF BULK AT MOST 1048576: true; the input reads as it did. -/
def weighFiniteUptoRow : OpenClaim := { program := "ytglpafflpcgnpaa", sum := "9514dd458c9d3dd283b9a346fb95da26a58ad60e84866f6d71642968cf215d0c", func := "ashlar/ashlarlaw02.WeighFinite", spec := "weighFinite", inPlace := ["math.Float64frombits", "math.Float64bits"], unfollowed := true, recurses := true, apart := false, narrowed := true }
def WeighFiniteUptoSaid : Prop := weighFiniteUptoRow.holds Try.pinned (OpenSpec.upto weighFiniteSpec)

/-- 'ashlarlaw02.WeighGrows', WHERE WHAT IT READS IS OF BULK AT MOST 1048576: true; the input reads as it did. -/
def weighGrowsUptoRow : OpenClaim := { program := "ytglpafflpcgnpaa", sum := "9514dd458c9d3dd283b9a346fb95da26a58ad60e84866f6d71642968cf215d0c", func := "ashlar/ashlarlaw02.WeighGrows", spec := "weighGrows", inPlace := ["math.Float64frombits", "math.Float64bits"], unfollowed := true, recurses := true, apart := false, narrowed := true }
def WeighGrowsUptoSaid : Prop := weighGrowsUptoRow.holds Try.pinned (OpenSpec.upto weighGrowsSpec)

end Rows
end Go.Proofs.Ytglpafflpcgnpaa
