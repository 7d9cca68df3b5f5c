/-
  No cell of these rows narrows 'for every input' (looked for: loops, veiled, ifaces, maps, wideKeys, modest, calm, conditions, laid).
  DERIVED. THE GIVEN ROWS OF THIS SEAT. 9 by the template 'for every input the law returns true; each argument reads behind the call as it read before'; 0 by the template 'total and deterministic' (their statements: YtmdjlhmifhnpdaaTotals.lean).
  GIVEN WITH THE SEED: the statements are not yours to turn. If you find one false, say at which input.
  Laid BY PROGRAM, IN A SANDBOX (cutbox-rows.mjs): the forced cells as the released guide's own fill.sh prints them over the translation d993acbd4b2783ec… (all of the seat's roots in one cut). By AI agents, Wed Nov 11 2026. No macro, syntax, notation, axiom, sorry.
-/
import Derived.Test.YtmdjlhmifhnpdaaChecked
import GoSem.Claim
import GoSem.ClaimJoined
import GoSem.ClaimMapViews
import Derived.JoinedTies
import Derived.KernelRfl
namespace Go.Proofs.Ytmdjlhmifhnpdaa
/- THE CELL 'sum', in the pinned program and in every row, IS THE sha256 OF THE DUMP (.gsa) THAT YtmdjlhmifhnpdaaProg.lean LOADS. Nothing in Lean hashes anything: it is a label: what it is worth is what the hold of that sum in a sandbox is worth. -/
noncomputable def Try.pinned : Pinned := { name := "ytmdjlhmifhnpdaa", sum := "d993acbd4b2783ec4fa43745fb102a0b295011ab54c3d6c3be63383c56613404", checked := Try.checked }
namespace Rows
def none {H : Type} : Left H := { results := [], args := [] }

/-- 'ashlarlaw09.SatAnswers': WHATEVER THE INPUT: true; the input reads as it did. -/
def satAnswersSpec : ChangeSpec := { name := "satAnswers", fn := fun _ => fun
  | [d1, d2, d3] => { results := [.lit (.bool true)], args := [d1, d2, d3] }
  | _ => none }
def satAnswersRow : OpenClaim := { program := "ytmdjlhmifhnpdaa", sum := "d993acbd4b2783ec4fa43745fb102a0b295011ab54c3d6c3be63383c56613404", func := "ashlar/ashlarlaw09.SatAnswers", spec := "satAnswers", inPlace := ["math.Float64frombits", "math.Float64bits"], unfollowed := true, recurses := true, apart := false }
def SatAnswersSaid : Prop := satAnswersRow.holds Try.pinned (OpenSpec.ofChange satAnswersSpec)

/-- ITS FALSE NEIGHBOUR: 'it returns false'. Refute it at one input. -/
def satAnswersWrong : ChangeSpec := { name := "satAnswers", fn := fun _ => fun
  | [d1, d2, d3] => { results := [.lit (.bool false)], args := [d1, d2, d3] }
  | _ => none }
def SatAnswersWrongFalsely : Prop := satAnswersRow.holds Try.pinned (OpenSpec.ofChange satAnswersWrong)

/-- 'ashlarlaw09.SatKnows': WHATEVER THE INPUT: true; the input reads as it did. -/
def satKnowsSpec : ChangeSpec := { name := "satKnows", fn := fun _ => fun
  | [d1, d2] => { results := [.lit (.bool true)], args := [d1, d2] }
  | _ => none }
def satKnowsRow : OpenClaim := { program := "ytmdjlhmifhnpdaa", sum := "d993acbd4b2783ec4fa43745fb102a0b295011ab54c3d6c3be63383c56613404", func := "ashlar/ashlarlaw09.SatKnows", spec := "satKnows", inPlace := ["math.Float64frombits", "math.Float64bits"], unfollowed := true, recurses := true, apart := false }
def SatKnowsSaid : Prop := satKnowsRow.holds Try.pinned (OpenSpec.ofChange satKnowsSpec)

/-- ITS FALSE NEIGHBOUR: 'it returns false'. Refute it at one input. -/
def satKnowsWrong : ChangeSpec := { name := "satKnows", fn := fun _ => fun
  | [d1, d2] => { results := [.lit (.bool false)], args := [d1, d2] }
  | _ => none }
def SatKnowsWrongFalsely : Prop := satKnowsRow.holds Try.pinned (OpenSpec.ofChange satKnowsWrong)

/-- 'ashlarlaw09.SatPigeons': WHATEVER THE INPUT: true; the input reads as it did. -/
def satPigeonsSpec : ChangeSpec := { name := "satPigeons", fn := fun _ => fun
  | [d1, d2] => { results := [.lit (.bool true)], args := [d1, d2] }
  | _ => none }
def satPigeonsRow : OpenClaim := { program := "ytmdjlhmifhnpdaa", sum := "d993acbd4b2783ec4fa43745fb102a0b295011ab54c3d6c3be63383c56613404", func := "ashlar/ashlarlaw09.SatPigeons", spec := "satPigeons", inPlace := ["math.Float64frombits", "math.Float64bits"], unfollowed := true, recurses := true, apart := false }
def SatPigeonsSaid : Prop := satPigeonsRow.holds Try.pinned (OpenSpec.ofChange satPigeonsSpec)

/-- ITS FALSE NEIGHBOUR: 'it returns false'. Refute it at one input. -/
def satPigeonsWrong : ChangeSpec := { name := "satPigeons", fn := fun _ => fun
  | [d1, d2] => { results := [.lit (.bool false)], args := [d1, d2] }
  | _ => none }
def SatPigeonsWrongFalsely : Prop := satPigeonsRow.holds Try.pinned (OpenSpec.ofChange satPigeonsWrong)

/-- 'ashlarlaw09.SatFuel': WHATEVER THE INPUT: true; the input reads as it did. -/
def satFuelSpec : ChangeSpec := { name := "satFuel", fn := fun _ => fun
  | [d1, d2, d3] => { results := [.lit (.bool true)], args := [d1, d2, d3] }
  | _ => none }
def satFuelRow : OpenClaim := { program := "ytmdjlhmifhnpdaa", sum := "d993acbd4b2783ec4fa43745fb102a0b295011ab54c3d6c3be63383c56613404", func := "ashlar/ashlarlaw09.SatFuel", spec := "satFuel", inPlace := ["math.Float64frombits", "math.Float64bits"], unfollowed := true, recurses := true, apart := false }
def SatFuelSaid : Prop := satFuelRow.holds Try.pinned (OpenSpec.ofChange satFuelSpec)

/-- ITS FALSE NEIGHBOUR: 'it returns false'. Refute it at one input. -/
def satFuelWrong : ChangeSpec := { name := "satFuel", fn := fun _ => fun
  | [d1, d2, d3] => { results := [.lit (.bool false)], args := [d1, d2, d3] }
  | _ => none }
def SatFuelWrongFalsely : Prop := satFuelRow.holds Try.pinned (OpenSpec.ofChange satFuelWrong)

/-- 'ashlarlaw09.SatTurned': WHATEVER THE INPUT: true; the input reads as it did. -/
def satTurnedSpec : ChangeSpec := { name := "satTurned", fn := fun _ => fun
  | [d1, d2, d3] => { results := [.lit (.bool true)], args := [d1, d2, d3] }
  | _ => none }
def satTurnedRow : OpenClaim := { program := "ytmdjlhmifhnpdaa", sum := "d993acbd4b2783ec4fa43745fb102a0b295011ab54c3d6c3be63383c56613404", func := "ashlar/ashlarlaw09.SatTurned", spec := "satTurned", inPlace := ["math.Float64frombits", "math.Float64bits"], unfollowed := true, recurses := true, apart := false }
def SatTurnedSaid : Prop := satTurnedRow.holds Try.pinned (OpenSpec.ofChange satTurnedSpec)

/-- ITS FALSE NEIGHBOUR: 'it returns false'. Refute it at one input. -/
def satTurnedWrong : ChangeSpec := { name := "satTurned", fn := fun _ => fun
  | [d1, d2, d3] => { results := [.lit (.bool false)], args := [d1, d2, d3] }
  | _ => none }
def SatTurnedWrongFalsely : Prop := satTurnedRow.holds Try.pinned (OpenSpec.ofChange satTurnedWrong)

/-- 'ashlarlaw09.SatMore': WHATEVER THE INPUT: true; the input reads as it did. -/
def satMoreSpec : ChangeSpec := { name := "satMore", fn := fun _ => fun
  | [d1, d2, d3] => { results := [.lit (.bool true)], args := [d1, d2, d3] }
  | _ => none }
def satMoreRow : OpenClaim := { program := "ytmdjlhmifhnpdaa", sum := "d993acbd4b2783ec4fa43745fb102a0b295011ab54c3d6c3be63383c56613404", func := "ashlar/ashlarlaw09.SatMore", spec := "satMore", inPlace := ["math.Float64frombits", "math.Float64bits"], unfollowed := true, recurses := true, apart := false }
def SatMoreSaid : Prop := satMoreRow.holds Try.pinned (OpenSpec.ofChange satMoreSpec)

/-- ITS FALSE NEIGHBOUR: 'it returns false'. Refute it at one input. -/
def satMoreWrong : ChangeSpec := { name := "satMore", fn := fun _ => fun
  | [d1, d2, d3] => { results := [.lit (.bool false)], args := [d1, d2, d3] }
  | _ => none }
def SatMoreWrongFalsely : Prop := satMoreRow.holds Try.pinned (OpenSpec.ofChange satMoreWrong)

/-- 'ashlarlaw09.SatAgrees': WHATEVER THE INPUT: true; the input reads as it did. -/
def satAgreesSpec : ChangeSpec := { name := "satAgrees", fn := fun _ => fun
  | [d1, d2, d3] => { results := [.lit (.bool true)], args := [d1, d2, d3] }
  | _ => none }
def satAgreesRow : OpenClaim := { program := "ytmdjlhmifhnpdaa", sum := "d993acbd4b2783ec4fa43745fb102a0b295011ab54c3d6c3be63383c56613404", func := "ashlar/ashlarlaw09.SatAgrees", spec := "satAgrees", inPlace := ["math.Float64frombits", "math.Float64bits"], unfollowed := true, recurses := true, apart := false }
def SatAgreesSaid : Prop := satAgreesRow.holds Try.pinned (OpenSpec.ofChange satAgreesSpec)

/-- ITS FALSE NEIGHBOUR: 'it returns false'. Refute it at one input. -/
def satAgreesWrong : ChangeSpec := { name := "satAgrees", fn := fun _ => fun
  | [d1, d2, d3] => { results := [.lit (.bool false)], args := [d1, d2, d3] }
  | _ => none }
def SatAgreesWrongFalsely : Prop := satAgreesRow.holds Try.pinned (OpenSpec.ofChange satAgreesWrong)

/-- 'ashlarlaw09.SatParity': WHATEVER THE INPUT: true; the input reads as it did. -/
def satParitySpec : ChangeSpec := { name := "satParity", fn := fun _ => fun
  | [d1, d2] => { results := [.lit (.bool true)], args := [d1, d2] }
  | _ => none }
def satParityRow : OpenClaim := { program := "ytmdjlhmifhnpdaa", sum := "d993acbd4b2783ec4fa43745fb102a0b295011ab54c3d6c3be63383c56613404", func := "ashlar/ashlarlaw09.SatParity", spec := "satParity", inPlace := ["math.Float64frombits", "math.Float64bits"], unfollowed := true, recurses := true, apart := false }
def SatParitySaid : Prop := satParityRow.holds Try.pinned (OpenSpec.ofChange satParitySpec)

/-- ITS FALSE NEIGHBOUR: 'it returns false'. Refute it at one input. -/
def satParityWrong : ChangeSpec := { name := "satParity", fn := fun _ => fun
  | [d1, d2] => { results := [.lit (.bool false)], args := [d1, d2] }
  | _ => none }
def SatParityWrongFalsely : Prop := satParityRow.holds Try.pinned (OpenSpec.ofChange satParityWrong)

/-- 'ashlarlaw09.SatSaid': WHATEVER THE INPUT: true; the input reads as it did. -/
def satSaidSpec : ChangeSpec := { name := "satSaid", fn := fun _ => fun
  | [d1, d2, d3] => { results := [.lit (.bool true)], args := [d1, d2, d3] }
  | _ => none }
def satSaidRow : OpenClaim := { program := "ytmdjlhmifhnpdaa", sum := "d993acbd4b2783ec4fa43745fb102a0b295011ab54c3d6c3be63383c56613404", func := "ashlar/ashlarlaw09.SatSaid", spec := "satSaid", inPlace := ["math.Float64frombits", "math.Float64bits"], unfollowed := true, recurses := true, apart := false }
def SatSaidSaid : Prop := satSaidRow.holds Try.pinned (OpenSpec.ofChange satSaidSpec)

/-- ITS FALSE NEIGHBOUR: 'it returns false'. Refute it at one input. -/
def satSaidWrong : ChangeSpec := { name := "satSaid", fn := fun _ => fun
  | [d1, d2, d3] => { results := [.lit (.bool false)], args := [d1, d2, d3] }
  | _ => none }
def SatSaidWrongFalsely : Prop := satSaidRow.holds Try.pinned (OpenSpec.ofChange satSaidWrong)

/- THE SECOND FORM. 'bulk': how many values and letters a reading holds, each counted each time it is reached (what is shared counts as often as it is met; a slice's spare places count too). A statement '..UptoSaid' is the law's where the arguments, and the package variables that the reading takes, are together of bulk at most 1048576: NARROWER than '..Said'. Prove '..Said' where nothing that the law and all that it calls make is longer than what came in: it says more and counts as full. Else prove '..UptoSaid'. A law counts once. -/
mutual
def uptoBulk {H : Type} : DataW H → Nat
  | .lit (.string bytes) => bytes.length + 1
  | .lit _ => 1
  | .nil => 1
  | .ptr d => uptoBulk d + 1
  | .slice elems spare => uptoBulkAll elems + uptoBulkAll spare + 1
  | .agg parts => uptoBulkAll parts + 1
  | .iface _ d => uptoBulk d + 1
  | .map entries => uptoBulkEntries entries + 1
  | .held _ => 1
def uptoBulkAll {H : Type} : List (DataW H) → Nat
  | [] => 0
  | d :: r => uptoBulk d + uptoBulkAll r
def uptoBulkEntries {H : Type} : List (Lit × DataW H) → Nat
  | [] => 0
  | x :: r => uptoBulkEntry x + uptoBulkEntries r
def uptoBulkEntry {H : Type} : Lit × DataW H → Nat
  | (.string bytes, d) => bytes.length + uptoBulk d + 1
  | (_, d) => uptoBulk d + 1
 end
def uptoSmall : (H : Type) → List (DataW H) → Bool := fun _ ds => decide (uptoBulkAll ds ≤ 1048576)
def OpenSpec.upto (s : _root_.Go.ChangeSpec) : _root_.Go.OpenSpec := { _root_.Go.OpenSpec.ofChange s with cond := some uptoSmall }

/-- 'ashlarlaw09.SatAnswers', WHERE WHAT IT READS IS OF BULK AT MOST 1048576: true; the input reads as it did. -/
def satAnswersUptoRow : OpenClaim := { program := "ytmdjlhmifhnpdaa", sum := "d993acbd4b2783ec4fa43745fb102a0b295011ab54c3d6c3be63383c56613404", func := "ashlar/ashlarlaw09.SatAnswers", spec := "satAnswers", inPlace := ["math.Float64frombits", "math.Float64bits"], unfollowed := true, recurses := true, apart := false, narrowed := true }
def SatAnswersUptoSaid : Prop := satAnswersUptoRow.holds Try.pinned (OpenSpec.upto satAnswersSpec)

/-- 'ashlarlaw09.SatKnows', WHERE WHAT IT READS IS OF BULK AT MOST 1048576: true; the input reads as it did. -/
def satKnowsUptoRow : OpenClaim := { program := "ytmdjlhmifhnpdaa", sum := "d993acbd4b2783ec4fa43745fb102a0b295011ab54c3d6c3be63383c56613404", func := "ashlar/ashlarlaw09.SatKnows", spec := "satKnows", inPlace := ["math.Float64frombits", "math.Float64bits"], unfollowed := true, recurses := true, apart := false, narrowed := true }
def SatKnowsUptoSaid : Prop := satKnowsUptoRow.holds Try.pinned (OpenSpec.upto satKnowsSpec)

/-- 'ashlarlaw09.SatPigeons', WHERE WHAT IT READS IS OF BULK AT MOST 1048576: true; the input reads as it did. -/
def satPigeonsUptoRow : OpenClaim := { program := "ytmdjlhmifhnpdaa", sum := "d993acbd4b2783ec4fa43745fb102a0b295011ab54c3d6c3be63383c56613404", func := "ashlar/ashlarlaw09.SatPigeons", spec := "satPigeons", inPlace := ["math.Float64frombits", "math.Float64bits"], unfollowed := true, recurses := true, apart := false, narrowed := true }
def SatPigeonsUptoSaid : Prop := satPigeonsUptoRow.holds Try.pinned (OpenSpec.upto satPigeonsSpec)

/-- 'ashlarlaw09.SatFuel', WHERE WHAT IT READS IS OF BULK AT MOST 1048576: true; the input reads as it did. -/
def satFuelUptoRow : OpenClaim := { program := "ytmdjlhmifhnpdaa", sum := "d993acbd4b2783ec4fa43745fb102a0b295011ab54c3d6c3be63383c56613404", func := "ashlar/ashlarlaw09.SatFuel", spec := "satFuel", inPlace := ["math.Float64frombits", "math.Float64bits"], unfollowed := true, recurses := true, apart := false, narrowed := true }
def SatFuelUptoSaid : Prop := satFuelUptoRow.holds Try.pinned (OpenSpec.upto satFuelSpec)

/-- 'ashlarlaw09.SatTurned', WHERE WHAT IT READS IS OF BULK AT MOST 1048576: true; the input reads as it did. -/
def satTurnedUptoRow : OpenClaim := { program := "ytmdjlhmifhnpdaa", sum := "d993acbd4b2783ec4fa43745fb102a0b295011ab54c3d6c3be63383c56613404", func := "ashlar/ashlarlaw09.SatTurned", spec := "satTurned", inPlace := ["math.Float64frombits", "math.Float64bits"], unfollowed := true, recurses := true, apart := false, narrowed := true }
def SatTurnedUptoSaid : Prop := satTurnedUptoRow.holds Try.pinned (OpenSpec.upto satTurnedSpec)

/-- 'ashlarlaw09.SatMore', WHERE WHAT IT READS IS OF BULK AT MOST 1048576: true; the input reads as it did. -/
def satMoreUptoRow : OpenClaim := { program := "ytmdjlhmifhnpdaa", sum := "d993acbd4b2783ec4fa43745fb102a0b295011ab54c3d6c3be63383c56613404", func := "ashlar/ashlarlaw09.SatMore", spec := "satMore", inPlace := ["math.Float64frombits", "math.Float64bits"], unfollowed := true, recurses := true, apart := false, narrowed := true }
def SatMoreUptoSaid : Prop := satMoreUptoRow.holds Try.pinned (OpenSpec.upto satMoreSpec)

/-- 'ashlarlaw09.SatAgrees', WHERE WHAT IT READS IS OF BULK AT MOST 1048576: true; the input reads as it did. -/
def satAgreesUptoRow : OpenClaim := { program := "ytmdjlhmifhnpdaa", sum := "d993acbd4b2783ec4fa43745fb102a0b295011ab54c3d6c3be63383c56613404", func := "ashlar/ashlarlaw09.SatAgrees", spec := "satAgrees", inPlace := ["math.Float64frombits", "math.Float64bits"], unfollowed := true, recurses := true, apart := false, narrowed := true }
def SatAgreesUptoSaid : Prop := satAgreesUptoRow.holds Try.pinned (OpenSpec.upto satAgreesSpec)

/-- 'ashlarlaw09.SatParity', WHERE WHAT IT READS IS OF BULK AT MOST 1048576: true; the input reads as it did. -/
def satParityUptoRow : OpenClaim := { program := "ytmdjlhmifhnpdaa", sum := "d993acbd4b2783ec4fa43745fb102a0b295011ab54c3d6c3be63383c56613404", func := "ashlar/ashlarlaw09.SatParity", spec := "satParity", inPlace := ["math.Float64frombits", "math.Float64bits"], unfollowed := true, recurses := true, apart := false, narrowed := true }
def SatParityUptoSaid : Prop := satParityUptoRow.holds Try.pinned (OpenSpec.upto satParitySpec)

/-- 'ashlarlaw09.SatSaid', WHERE WHAT IT READS IS OF BULK AT MOST 1048576: true; the input reads as it did. -/
def satSaidUptoRow : OpenClaim := { program := "ytmdjlhmifhnpdaa", sum := "d993acbd4b2783ec4fa43745fb102a0b295011ab54c3d6c3be63383c56613404", func := "ashlar/ashlarlaw09.SatSaid", spec := "satSaid", inPlace := ["math.Float64frombits", "math.Float64bits"], unfollowed := true, recurses := true, apart := false, narrowed := true }
def SatSaidUptoSaid : Prop := satSaidUptoRow.holds Try.pinned (OpenSpec.upto satSaidSpec)

end Rows
end Go.Proofs.Ytmdjlhmifhnpdaa
