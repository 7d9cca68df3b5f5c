/-
  No cell of these rows narrows 'for every input' (looked for: loops, veiled, ifaces, maps, wideKeys, modest, calm, conditions, laid).
  DERIVED. THE GIVEN ROWS OF THIS SEAT. 7 by the template 'for every input the law returns true; each argument reads behind the call as it read before'; 0 by the template 'total and deterministic' (their statements: YtbmnoofffodakaaTotals.lean).
  GIVEN WITH THE SEED: the statements are not yours to turn. If you find one false, say at which input.
  Laid BY PROGRAM, IN A SANDBOX (cutbox-rows.mjs): the forced cells as the released guide's own fill.sh prints them over the translation e28d1fc925146988… (all of the seat's roots in one cut). By AI agents, Wed Nov 11 2026. No macro, syntax, notation, axiom, sorry.
-/
import Derived.Test.YtbmnoofffodakaaChecked
import GoSem.Claim
import GoSem.ClaimJoined
import GoSem.ClaimMapViews
import Derived.JoinedTies
import Derived.KernelRfl
namespace Go.Proofs.Ytbmnoofffodakaa
/- THE CELL 'sum', in the pinned program and in every row, IS THE sha256 OF THE DUMP (.gsa) THAT YtbmnoofffodakaaProg.lean LOADS. Nothing in Lean hashes anything: it is a label: what it is worth is what the hold of that sum in a sandbox is worth. -/
noncomputable def Try.pinned : Pinned := { name := "ytbmnoofffodakaa", sum := "e28d1fc925146988222f098ab23cd3da67751d6c7533efa707ecbaf2bc821087", checked := Try.checked }
namespace Rows
def none {H : Type} : Left H := { results := [], args := [] }

/-- 'ashlarlaw10.TraceTells': WHATEVER THE INPUT: true; the input reads as it did. -/
def traceTellsSpec : ChangeSpec := { name := "traceTells", fn := fun _ => fun
  | [d1, d2] => { results := [.lit (.bool true)], args := [d1, d2] }
  | _ => none }
def traceTellsRow : OpenClaim := { program := "ytbmnoofffodakaa", sum := "e28d1fc925146988222f098ab23cd3da67751d6c7533efa707ecbaf2bc821087", func := "ashlar/ashlarlaw10.TraceTells", spec := "traceTells", unfollowed := true, recurses := true, apart := false }
def TraceTellsSaid : Prop := traceTellsRow.holds Try.pinned (OpenSpec.ofChange traceTellsSpec)

/-- ITS FALSE NEIGHBOUR: 'it returns false'. Refute it at one input. -/
def traceTellsWrong : ChangeSpec := { name := "traceTells", fn := fun _ => fun
  | [d1, d2] => { results := [.lit (.bool false)], args := [d1, d2] }
  | _ => none }
def TraceTellsWrongFalsely : Prop := traceTellsRow.holds Try.pinned (OpenSpec.ofChange traceTellsWrong)

/-- 'ashlarlaw10.TraceSound': WHATEVER THE INPUT: true; the input reads as it did. -/
def traceSoundSpec : ChangeSpec := { name := "traceSound", fn := fun _ => fun
  | [d1, d2] => { results := [.lit (.bool true)], args := [d1, d2] }
  | _ => none }
def traceSoundRow : OpenClaim := { program := "ytbmnoofffodakaa", sum := "e28d1fc925146988222f098ab23cd3da67751d6c7533efa707ecbaf2bc821087", func := "ashlar/ashlarlaw10.TraceSound", spec := "traceSound", unfollowed := true, recurses := true, apart := false }
def TraceSoundSaid : Prop := traceSoundRow.holds Try.pinned (OpenSpec.ofChange traceSoundSpec)

/-- ITS FALSE NEIGHBOUR: 'it returns false'. Refute it at one input. -/
def traceSoundWrong : ChangeSpec := { name := "traceSound", fn := fun _ => fun
  | [d1, d2] => { results := [.lit (.bool false)], args := [d1, d2] }
  | _ => none }
def TraceSoundWrongFalsely : Prop := traceSoundRow.holds Try.pinned (OpenSpec.ofChange traceSoundWrong)

/-- 'ashlarlaw10.TraceMore': WHATEVER THE INPUT: true; the input reads as it did. -/
def traceMoreSpec : ChangeSpec := { name := "traceMore", fn := fun _ => fun
  | [d1, d2, d3, d4] => { results := [.lit (.bool true)], args := [d1, d2, d3, d4] }
  | _ => none }
def traceMoreRow : OpenClaim := { program := "ytbmnoofffodakaa", sum := "e28d1fc925146988222f098ab23cd3da67751d6c7533efa707ecbaf2bc821087", func := "ashlar/ashlarlaw10.TraceMore", spec := "traceMore", unfollowed := true, recurses := true, apart := false }
def TraceMoreSaid : Prop := traceMoreRow.holds Try.pinned (OpenSpec.ofChange traceMoreSpec)

/-- ITS FALSE NEIGHBOUR: 'it returns false'. Refute it at one input. -/
def traceMoreWrong : ChangeSpec := { name := "traceMore", fn := fun _ => fun
  | [d1, d2, d3, d4] => { results := [.lit (.bool false)], args := [d1, d2, d3, d4] }
  | _ => none }
def TraceMoreWrongFalsely : Prop := traceMoreRow.holds Try.pinned (OpenSpec.ofChange traceMoreWrong)

/-- 'ashlarlaw10.TraceWhole': WHATEVER THE INPUT: true; the input reads as it did. -/
def traceWholeSpec : ChangeSpec := { name := "traceWhole", fn := fun _ => fun
  | [d] => { results := [.lit (.bool true)], args := [d] }
  | _ => none }
def traceWholeRow : OpenClaim := { program := "ytbmnoofffodakaa", sum := "e28d1fc925146988222f098ab23cd3da67751d6c7533efa707ecbaf2bc821087", func := "ashlar/ashlarlaw10.TraceWhole", spec := "traceWhole", unfollowed := true, recurses := true, apart := false }
def TraceWholeSaid : Prop := traceWholeRow.holds Try.pinned (OpenSpec.ofChange traceWholeSpec)

/-- ITS FALSE NEIGHBOUR: 'it returns false'. Refute it at one input. -/
def traceWholeWrong : ChangeSpec := { name := "traceWhole", fn := fun _ => fun
  | [d] => { results := [.lit (.bool false)], args := [d] }
  | _ => none }
def TraceWholeWrongFalsely : Prop := traceWholeRow.holds Try.pinned (OpenSpec.ofChange traceWholeWrong)

/-- 'ashlarlaw10.TraceTurned': WHATEVER THE INPUT: true; the input reads as it did. -/
def traceTurnedSpec : ChangeSpec := { name := "traceTurned", fn := fun _ => fun
  | [d1, d2, d3] => { results := [.lit (.bool true)], args := [d1, d2, d3] }
  | _ => none }
def traceTurnedRow : OpenClaim := { program := "ytbmnoofffodakaa", sum := "e28d1fc925146988222f098ab23cd3da67751d6c7533efa707ecbaf2bc821087", func := "ashlar/ashlarlaw10.TraceTurned", spec := "traceTurned", unfollowed := true, recurses := true, apart := false }
def TraceTurnedSaid : Prop := traceTurnedRow.holds Try.pinned (OpenSpec.ofChange traceTurnedSpec)

/-- ITS FALSE NEIGHBOUR: 'it returns false'. Refute it at one input. -/
def traceTurnedWrong : ChangeSpec := { name := "traceTurned", fn := fun _ => fun
  | [d1, d2, d3] => { results := [.lit (.bool false)], args := [d1, d2, d3] }
  | _ => none }
def TraceTurnedWrongFalsely : Prop := traceTurnedRow.holds Try.pinned (OpenSpec.ofChange traceTurnedWrong)

/-- 'ashlarlaw10.TraceEnds': WHATEVER THE INPUT: true; the input reads as it did. -/
def traceEndsSpec : ChangeSpec := { name := "traceEnds", fn := fun _ => fun
  | [d1, d2] => { results := [.lit (.bool true)], args := [d1, d2] }
  | _ => none }
def traceEndsRow : OpenClaim := { program := "ytbmnoofffodakaa", sum := "e28d1fc925146988222f098ab23cd3da67751d6c7533efa707ecbaf2bc821087", func := "ashlar/ashlarlaw10.TraceEnds", spec := "traceEnds", unfollowed := true, recurses := true, apart := false }
def TraceEndsSaid : Prop := traceEndsRow.holds Try.pinned (OpenSpec.ofChange traceEndsSpec)

/-- ITS FALSE NEIGHBOUR: 'it returns false'. Refute it at one input. -/
def traceEndsWrong : ChangeSpec := { name := "traceEnds", fn := fun _ => fun
  | [d1, d2] => { results := [.lit (.bool false)], args := [d1, d2] }
  | _ => none }
def TraceEndsWrongFalsely : Prop := traceEndsRow.holds Try.pinned (OpenSpec.ofChange traceEndsWrong)

/-- 'ashlarlaw10.TraceChain': WHATEVER THE INPUT: true; the input reads as it did. -/
def traceChainSpec : ChangeSpec := { name := "traceChain", fn := fun _ => fun
  | [d1, d2] => { results := [.lit (.bool true)], args := [d1, d2] }
  | _ => none }
def traceChainRow : OpenClaim := { program := "ytbmnoofffodakaa", sum := "e28d1fc925146988222f098ab23cd3da67751d6c7533efa707ecbaf2bc821087", func := "ashlar/ashlarlaw10.TraceChain", spec := "traceChain", unfollowed := true, recurses := true, apart := false }
def TraceChainSaid : Prop := traceChainRow.holds Try.pinned (OpenSpec.ofChange traceChainSpec)

/-- ITS FALSE NEIGHBOUR: 'it returns false'. Refute it at one input. -/
def traceChainWrong : ChangeSpec := { name := "traceChain", fn := fun _ => fun
  | [d1, d2] => { results := [.lit (.bool false)], args := [d1, d2] }
  | _ => none }
def TraceChainWrongFalsely : Prop := traceChainRow.holds Try.pinned (OpenSpec.ofChange traceChainWrong)

/- THE SECOND FORM. 'bulk': how many values and letters a reading holds, each counted each time it is reached (what is shared counts as often as it is met; a slice's spare places count too). A statement '..UptoSaid' is the law's where the arguments, and the package variables that the reading takes, are together of bulk at most 1048576: NARROWER than '..Said'. Prove '..Said' where nothing that the law and all that it calls make is longer than what came in: it says more and counts as full. Else prove '..UptoSaid'. A law counts once. -/
mutual
def uptoBulk {H : Type} : DataW H → Nat
  | .lit (.string bytes) => bytes.length + 1
  | .lit _ => 1
  | .nil => 1
  | .ptr d => uptoBulk d + 1
  | .slice elems spare => uptoBulkAll elems + uptoBulkAll spare + 1
  | .agg parts => uptoBulkAll parts + 1
  | .iface _ d => uptoBulk d + 1
  | .map entries => uptoBulkEntries entries + 1
  | .held _ => 1
def uptoBulkAll {H : Type} : List (DataW H) → Nat
  | [] => 0
  | d :: r => uptoBulk d + uptoBulkAll r
def uptoBulkEntries {H : Type} : List (Lit × DataW H) → Nat
  | [] => 0
  | x :: r => uptoBulkEntry x + uptoBulkEntries r
def uptoBulkEntry {H : Type} : Lit × DataW H → Nat
  | (.string bytes, d) => bytes.length + uptoBulk d + 1
  | (_, d) => uptoBulk d + 1
 end
def uptoSmall : (H : Type) → List (DataW H) → Bool := fun _ ds => decide (uptoBulkAll ds ≤ 1048576)
def OpenSpec.upto (s : _root_.Go.ChangeSpec) : _root_.Go.OpenSpec := { _root_.Go.OpenSpec.ofChange s with cond := some uptoSmall }

/-- 'ashlarlaw10.TraceTells', WHERE WHAT IT READS IS OF BULK AT MOST 1048576: true; the input reads as it did. -/
def traceTellsUptoRow : OpenClaim := { program := "ytbmnoofffodakaa", sum := "e28d1fc925146988222f098ab23cd3da67751d6c7533efa707ecbaf2bc821087", func := "ashlar/ashlarlaw10.TraceTells", spec := "traceTells", unfollowed := true, recurses := true, apart := false, narrowed := true }
def TraceTellsUptoSaid : Prop := traceTellsUptoRow.holds Try.pinned (OpenSpec.upto traceTellsSpec)

/-- 'ashlarlaw10.TraceSound', WHERE WHAT IT READS IS OF BULK AT MOST 1048576: true; the input reads as it did. -/
def traceSoundUptoRow : OpenClaim := { program := "ytbmnoofffodakaa", sum := "e28d1fc925146988222f098ab23cd3da67751d6c7533efa707ecbaf2bc821087", func := "ashlar/ashlarlaw10.TraceSound", spec := "traceSound", unfollowed := true, recurses := true, apart := false, narrowed := true }
def TraceSoundUptoSaid : Prop := traceSoundUptoRow.holds Try.pinned (OpenSpec.upto traceSoundSpec)

/-- 'ashlarlaw10.TraceMore', WHERE WHAT IT READS IS OF BULK AT MOST 1048576: true; the input reads as it did. -/
def traceMoreUptoRow : OpenClaim := { program := "ytbmnoofffodakaa", sum := "e28d1fc925146988222f098ab23cd3da67751d6c7533efa707ecbaf2bc821087", func := "ashlar/ashlarlaw10.TraceMore", spec := "traceMore", unfollowed := true, recurses := true, apart := false, narrowed := true }
def TraceMoreUptoSaid : Prop := traceMoreUptoRow.holds Try.pinned (OpenSpec.upto traceMoreSpec)

/-- 'ashlarlaw10.TraceWhole', WHERE WHAT IT READS IS OF BULK AT MOST 1048576: true; the input reads as it did. -/
def traceWholeUptoRow : OpenClaim := { program := "ytbmnoofffodakaa", sum := "e28d1fc925146988222f098ab23cd3da67751d6c7533efa707ecbaf2bc821087", func := "ashlar/ashlarlaw10.TraceWhole", spec := "traceWhole", unfollowed := true, recurses := true, apart := false, narrowed := true }
def TraceWholeUptoSaid : Prop := traceWholeUptoRow.holds Try.pinned (OpenSpec.upto traceWholeSpec)

/-- 'ashlarlaw10.TraceTurned', WHERE WHAT IT READS IS OF BULK AT MOST 1048576: true; the input reads as it did. -/
def traceTurnedUptoRow : OpenClaim := { program := "ytbmnoofffodakaa", sum := "e28d1fc925146988222f098ab23cd3da67751d6c7533efa707ecbaf2bc821087", func := "ashlar/ashlarlaw10.TraceTurned", spec := "traceTurned", unfollowed := true, recurses := true, apart := false, narrowed := true }
def TraceTurnedUptoSaid : Prop := traceTurnedUptoRow.holds Try.pinned (OpenSpec.upto traceTurnedSpec)

/-- 'ashlarlaw10.TraceEnds', WHERE WHAT IT READS IS OF BULK AT MOST 1048576: true; the input reads as it did. -/
def traceEndsUptoRow : OpenClaim := { program := "ytbmnoofffodakaa", sum := "e28d1fc925146988222f098ab23cd3da67751d6c7533efa707ecbaf2bc821087", func := "ashlar/ashlarlaw10.TraceEnds", spec := "traceEnds", unfollowed := true, recurses := true, apart := false, narrowed := true }
def TraceEndsUptoSaid : Prop := traceEndsUptoRow.holds Try.pinned (OpenSpec.upto traceEndsSpec)

/-- 'ashlarlaw10.TraceChain', WHERE WHAT IT READS IS OF BULK AT MOST 1048576: true; the input reads as it did. -/
def traceChainUptoRow : OpenClaim := { program := "ytbmnoofffodakaa", sum := "e28d1fc925146988222f098ab23cd3da67751d6c7533efa707ecbaf2bc821087", func := "ashlar/ashlarlaw10.TraceChain", spec := "traceChain", unfollowed := true, recurses := true, apart := false, narrowed := true }
def TraceChainUptoSaid : Prop := traceChainUptoRow.holds Try.pinned (OpenSpec.upto traceChainSpec)

end Rows
end Go.Proofs.Ytbmnoofffodakaa
