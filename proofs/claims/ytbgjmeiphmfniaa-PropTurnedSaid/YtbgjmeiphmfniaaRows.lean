/-
  No cell of these rows narrows 'for every input' (looked for: loops, veiled, ifaces, maps, wideKeys, modest, calm, conditions, laid).
  DERIVED. THE GIVEN ROWS OF THIS SEAT. 9 by the template 'for every input the law returns true; each argument reads behind the call as it read before'; 0 by the template 'total and deterministic' (their statements: YtbgjmeiphmfniaaTotals.lean).
  GIVEN WITH THE SEED: the statements are not yours to turn. If you find one false, say at which input.
  Laid BY PROGRAM, IN A SANDBOX (cutbox-rows.mjs): the forced cells as the released guide's own fill.sh prints them over the translation 035c3af4ebe7584e… (all of the seat's roots in one cut). By AI agents, Wed Nov 11 2026. No macro, syntax, notation, axiom, sorry.
-/
import Derived.Test.YtbgjmeiphmfniaaChecked
import GoSem.Claim
import GoSem.ClaimJoined
import GoSem.ClaimMapViews
import Derived.JoinedTies
import Derived.KernelRfl
namespace Go.Proofs.Ytbgjmeiphmfniaa
/- THE CELL 'sum', in the pinned program and in every row, IS THE sha256 OF THE DUMP (.gsa) THAT YtbgjmeiphmfniaaProg.lean LOADS. Nothing in Lean hashes anything: it is a label: what it is worth is what the hold of that sum in a sandbox is worth. -/
noncomputable def Try.pinned : Pinned := { name := "ytbgjmeiphmfniaa", sum := "035c3af4ebe7584e3e4d4ebd963340e21ee96c94f7c8e8505d30df42f85e7664", checked := Try.checked }
namespace Rows
def none {H : Type} : Left H := { results := [], args := [] }

/-- 'ashlarlaw08.PropTells': WHATEVER THE INPUT: true; the input reads as it did. -/
def propTellsSpec : ChangeSpec := { name := "propTells", fn := fun _ => fun
  | [d1, d2] => { results := [.lit (.bool true)], args := [d1, d2] }
  | _ => none }
def propTellsRow : OpenClaim := { program := "ytbgjmeiphmfniaa", sum := "035c3af4ebe7584e3e4d4ebd963340e21ee96c94f7c8e8505d30df42f85e7664", func := "ashlar/ashlarlaw08.PropTells", spec := "propTells", apart := false }
def PropTellsSaid : Prop := propTellsRow.holds Try.pinned (OpenSpec.ofChange propTellsSpec)

/-- ITS FALSE NEIGHBOUR: 'it returns false'. Refute it at one input. -/
def propTellsWrong : ChangeSpec := { name := "propTells", fn := fun _ => fun
  | [d1, d2] => { results := [.lit (.bool false)], args := [d1, d2] }
  | _ => none }
def PropTellsWrongFalsely : Prop := propTellsRow.holds Try.pinned (OpenSpec.ofChange propTellsWrong)

/-- 'ashlarlaw08.PropFollows': WHATEVER THE INPUT: true; the input reads as it did. -/
def propFollowsSpec : ChangeSpec := { name := "propFollows", fn := fun _ => fun
  | [d1, d2, d3] => { results := [.lit (.bool true)], args := [d1, d2, d3] }
  | _ => none }
def propFollowsRow : OpenClaim := { program := "ytbgjmeiphmfniaa", sum := "035c3af4ebe7584e3e4d4ebd963340e21ee96c94f7c8e8505d30df42f85e7664", func := "ashlar/ashlarlaw08.PropFollows", spec := "propFollows", apart := false }
def PropFollowsSaid : Prop := propFollowsRow.holds Try.pinned (OpenSpec.ofChange propFollowsSpec)

/-- ITS FALSE NEIGHBOUR: 'it returns false'. Refute it at one input. -/
def propFollowsWrong : ChangeSpec := { name := "propFollows", fn := fun _ => fun
  | [d1, d2, d3] => { results := [.lit (.bool false)], args := [d1, d2, d3] }
  | _ => none }
def PropFollowsWrongFalsely : Prop := propFollowsRow.holds Try.pinned (OpenSpec.ofChange propFollowsWrong)

/-- 'ashlarlaw08.PropOnce': WHATEVER THE INPUT: true; the input reads as it did. -/
def propOnceSpec : ChangeSpec := { name := "propOnce", fn := fun _ => fun
  | [d1, d2, d3] => { results := [.lit (.bool true)], args := [d1, d2, d3] }
  | _ => none }
def propOnceRow : OpenClaim := { program := "ytbgjmeiphmfniaa", sum := "035c3af4ebe7584e3e4d4ebd963340e21ee96c94f7c8e8505d30df42f85e7664", func := "ashlar/ashlarlaw08.PropOnce", spec := "propOnce", apart := false }
def PropOnceSaid : Prop := propOnceRow.holds Try.pinned (OpenSpec.ofChange propOnceSpec)

/-- ITS FALSE NEIGHBOUR: 'it returns false'. Refute it at one input. -/
def propOnceWrong : ChangeSpec := { name := "propOnce", fn := fun _ => fun
  | [d1, d2, d3] => { results := [.lit (.bool false)], args := [d1, d2, d3] }
  | _ => none }
def PropOnceWrongFalsely : Prop := propOnceRow.holds Try.pinned (OpenSpec.ofChange propOnceWrong)

/-- 'ashlarlaw08.PropOrder': WHATEVER THE INPUT: true; the input reads as it did. -/
def propOrderSpec : ChangeSpec := { name := "propOrder", fn := fun _ => fun
  | [d1, d2] => { results := [.lit (.bool true)], args := [d1, d2] }
  | _ => none }
def propOrderRow : OpenClaim := { program := "ytbgjmeiphmfniaa", sum := "035c3af4ebe7584e3e4d4ebd963340e21ee96c94f7c8e8505d30df42f85e7664", func := "ashlar/ashlarlaw08.PropOrder", spec := "propOrder", apart := false }
def PropOrderSaid : Prop := propOrderRow.holds Try.pinned (OpenSpec.ofChange propOrderSpec)

/-- ITS FALSE NEIGHBOUR: 'it returns false'. Refute it at one input. -/
def propOrderWrong : ChangeSpec := { name := "propOrder", fn := fun _ => fun
  | [d1, d2] => { results := [.lit (.bool false)], args := [d1, d2] }
  | _ => none }
def PropOrderWrongFalsely : Prop := propOrderRow.holds Try.pinned (OpenSpec.ofChange propOrderWrong)

/-- 'ashlarlaw08.PropFull': WHATEVER THE INPUT: true; the input reads as it did. -/
def propFullSpec : ChangeSpec := { name := "propFull", fn := fun _ => fun
  | [d1, d2] => { results := [.lit (.bool true)], args := [d1, d2] }
  | _ => none }
def propFullRow : OpenClaim := { program := "ytbgjmeiphmfniaa", sum := "035c3af4ebe7584e3e4d4ebd963340e21ee96c94f7c8e8505d30df42f85e7664", func := "ashlar/ashlarlaw08.PropFull", spec := "propFull", apart := false }
def PropFullSaid : Prop := propFullRow.holds Try.pinned (OpenSpec.ofChange propFullSpec)

/-- ITS FALSE NEIGHBOUR: 'it returns false'. Refute it at one input. -/
def propFullWrong : ChangeSpec := { name := "propFull", fn := fun _ => fun
  | [d1, d2] => { results := [.lit (.bool false)], args := [d1, d2] }
  | _ => none }
def PropFullWrongFalsely : Prop := propFullRow.holds Try.pinned (OpenSpec.ofChange propFullWrong)

/-- 'ashlarlaw08.PropTurned': WHATEVER THE INPUT: true; the input reads as it did. -/
def propTurnedSpec : ChangeSpec := { name := "propTurned", fn := fun _ => fun
  | [d1, d2, d3] => { results := [.lit (.bool true)], args := [d1, d2, d3] }
  | _ => none }
def propTurnedRow : OpenClaim := { program := "ytbgjmeiphmfniaa", sum := "035c3af4ebe7584e3e4d4ebd963340e21ee96c94f7c8e8505d30df42f85e7664", func := "ashlar/ashlarlaw08.PropTurned", spec := "propTurned", apart := false }
def PropTurnedSaid : Prop := propTurnedRow.holds Try.pinned (OpenSpec.ofChange propTurnedSpec)

/-- ITS FALSE NEIGHBOUR: 'it returns false'. Refute it at one input. -/
def propTurnedWrong : ChangeSpec := { name := "propTurned", fn := fun _ => fun
  | [d1, d2, d3] => { results := [.lit (.bool false)], args := [d1, d2, d3] }
  | _ => none }
def PropTurnedWrongFalsely : Prop := propTurnedRow.holds Try.pinned (OpenSpec.ofChange propTurnedWrong)

/-- 'ashlarlaw08.PropLess': WHATEVER THE INPUT: true; the input reads as it did. -/
def propLessSpec : ChangeSpec := { name := "propLess", fn := fun _ => fun
  | [d1, d2, d3] => { results := [.lit (.bool true)], args := [d1, d2, d3] }
  | _ => none }
def propLessRow : OpenClaim := { program := "ytbgjmeiphmfniaa", sum := "035c3af4ebe7584e3e4d4ebd963340e21ee96c94f7c8e8505d30df42f85e7664", func := "ashlar/ashlarlaw08.PropLess", spec := "propLess", apart := false }
def PropLessSaid : Prop := propLessRow.holds Try.pinned (OpenSpec.ofChange propLessSpec)

/-- ITS FALSE NEIGHBOUR: 'it returns false'. Refute it at one input. -/
def propLessWrong : ChangeSpec := { name := "propLess", fn := fun _ => fun
  | [d1, d2, d3] => { results := [.lit (.bool false)], args := [d1, d2, d3] }
  | _ => none }
def PropLessWrongFalsely : Prop := propLessRow.holds Try.pinned (OpenSpec.ofChange propLessWrong)

/-- 'ashlarlaw08.PropChain': WHATEVER THE INPUT: true; the input reads as it did. -/
def propChainSpec : ChangeSpec := { name := "propChain", fn := fun _ => fun
  | [d1, d2] => { results := [.lit (.bool true)], args := [d1, d2] }
  | _ => none }
def propChainRow : OpenClaim := { program := "ytbgjmeiphmfniaa", sum := "035c3af4ebe7584e3e4d4ebd963340e21ee96c94f7c8e8505d30df42f85e7664", func := "ashlar/ashlarlaw08.PropChain", spec := "propChain", apart := false }
def PropChainSaid : Prop := propChainRow.holds Try.pinned (OpenSpec.ofChange propChainSpec)

/-- ITS FALSE NEIGHBOUR: 'it returns false'. Refute it at one input. -/
def propChainWrong : ChangeSpec := { name := "propChain", fn := fun _ => fun
  | [d1, d2] => { results := [.lit (.bool false)], args := [d1, d2] }
  | _ => none }
def PropChainWrongFalsely : Prop := propChainRow.holds Try.pinned (OpenSpec.ofChange propChainWrong)

/-- 'ashlarlaw08.PropDouble': WHATEVER THE INPUT: true; the input reads as it did. -/
def propDoubleSpec : ChangeSpec := { name := "propDouble", fn := fun _ => fun
  | [d1, d2] => { results := [.lit (.bool true)], args := [d1, d2] }
  | _ => none }
def propDoubleRow : OpenClaim := { program := "ytbgjmeiphmfniaa", sum := "035c3af4ebe7584e3e4d4ebd963340e21ee96c94f7c8e8505d30df42f85e7664", func := "ashlar/ashlarlaw08.PropDouble", spec := "propDouble", apart := false }
def PropDoubleSaid : Prop := propDoubleRow.holds Try.pinned (OpenSpec.ofChange propDoubleSpec)

/-- ITS FALSE NEIGHBOUR: 'it returns false'. Refute it at one input. -/
def propDoubleWrong : ChangeSpec := { name := "propDouble", fn := fun _ => fun
  | [d1, d2] => { results := [.lit (.bool false)], args := [d1, d2] }
  | _ => none }
def PropDoubleWrongFalsely : Prop := propDoubleRow.holds Try.pinned (OpenSpec.ofChange propDoubleWrong)

/- THE SECOND FORM. 'bulk': how many values and letters a reading holds, each counted each time it is reached (what is shared counts as often as it is met; a slice's spare places count too). A statement '..UptoSaid' is the law's where the arguments, and the package variables that the reading takes, are together of bulk at most 1048576: NARROWER than '..Said'. Prove '..Said' where nothing that the law and all that it calls make is longer than what came in: it says more and counts as full. Else prove '..UptoSaid'. A law counts once. -/
mutual
def uptoBulk {H : Type} : DataW H → Nat
  | .lit (.string bytes) => bytes.length + 1
  | .lit _ => 1
  | .nil => 1
  | .ptr d => uptoBulk d + 1
  | .slice elems spare => uptoBulkAll elems + uptoBulkAll spare + 1
  | .agg parts => uptoBulkAll parts + 1
  | .iface _ d => uptoBulk d + 1
  | .map entries => uptoBulkEntries entries + 1
  | .held _ => 1
def uptoBulkAll {H : Type} : List (DataW H) → Nat
  | [] => 0
  | d :: r => uptoBulk d + uptoBulkAll r
def uptoBulkEntries {H : Type} : List (Lit × DataW H) → Nat
  | [] => 0
  | x :: r => uptoBulkEntry x + uptoBulkEntries r
def uptoBulkEntry {H : Type} : Lit × DataW H → Nat
  | (.string bytes, d) => bytes.length + uptoBulk d + 1
  | (_, d) => uptoBulk d + 1
 end
def uptoSmall : (H : Type) → List (DataW H) → Bool := fun _ ds => decide (uptoBulkAll ds ≤ 1048576)
def OpenSpec.upto (s : _root_.Go.ChangeSpec) : _root_.Go.OpenSpec := { _root_.Go.OpenSpec.ofChange s with cond := some uptoSmall }

/-- 'ashlarlaw08.PropTells', WHERE WHAT IT READS IS OF BULK AT MOST 1048576: true; the input reads as it did. -/
def propTellsUptoRow : OpenClaim := { program := "ytbgjmeiphmfniaa", sum := "035c3af4ebe7584e3e4d4ebd963340e21ee96c94f7c8e8505d30df42f85e7664", func := "ashlar/ashlarlaw08.PropTells", spec := "propTells", apart := false, narrowed := true }
def PropTellsUptoSaid : Prop := propTellsUptoRow.holds Try.pinned (OpenSpec.upto propTellsSpec)

/-- 'ashlarlaw08.PropFollows', WHERE WHAT IT READS IS OF BULK AT MOST 1048576: true; the input reads as it did. -/
def propFollowsUptoRow : OpenClaim := { program := "ytbgjmeiphmfniaa", sum := "035c3af4ebe7584e3e4d4ebd963340e21ee96c94f7c8e8505d30df42f85e7664", func := "ashlar/ashlarlaw08.PropFollows", spec := "propFollows", apart := false, narrowed := true }
def PropFollowsUptoSaid : Prop := propFollowsUptoRow.holds Try.pinned (OpenSpec.upto propFollowsSpec)

/-- 'ashlarlaw08.PropOnce', WHERE WHAT IT READS IS OF BULK AT MOST 1048576: true; the input reads as it did. -/
def propOnceUptoRow : OpenClaim := { program := "ytbgjmeiphmfniaa", sum := "035c3af4ebe7584e3e4d4ebd963340e21ee96c94f7c8e8505d30df42f85e7664", func := "ashlar/ashlarlaw08.PropOnce", spec := "propOnce", apart := false, narrowed := true }
def PropOnceUptoSaid : Prop := propOnceUptoRow.holds Try.pinned (OpenSpec.upto propOnceSpec)

/-- 'ashlarlaw08.PropOrder', WHERE WHAT IT READS IS OF BULK AT MOST 1048576: true; the input reads as it did. -/
def propOrderUptoRow : OpenClaim := { program := "ytbgjmeiphmfniaa", sum := "035c3af4ebe7584e3e4d4ebd963340e21ee96c94f7c8e8505d30df42f85e7664", func := "ashlar/ashlarlaw08.PropOrder", spec := "propOrder", apart := false, narrowed := true }
def PropOrderUptoSaid : Prop := propOrderUptoRow.holds Try.pinned (OpenSpec.upto propOrderSpec)

/-- 'ashlarlaw08.PropFull', WHERE WHAT IT READS IS OF BULK AT MOST 1048576: true; the input reads as it did. -/
def propFullUptoRow : OpenClaim := { program := "ytbgjmeiphmfniaa", sum := "035c3af4ebe7584e3e4d4ebd963340e21ee96c94f7c8e8505d30df42f85e7664", func := "ashlar/ashlarlaw08.PropFull", spec := "propFull", apart := false, narrowed := true }
def PropFullUptoSaid : Prop := propFullUptoRow.holds Try.pinned (OpenSpec.upto propFullSpec)

/-- 'ashlarlaw08.PropTurned', WHERE WHAT IT READS IS OF BULK AT MOST 1048576: true; the input reads as it did. -/
def propTurnedUptoRow : OpenClaim := { program := "ytbgjmeiphmfniaa", sum := "035c3af4ebe7584e3e4d4ebd963340e21ee96c94f7c8e8505d30df42f85e7664", func := "ashlar/ashlarlaw08.PropTurned", spec := "propTurned", apart := false, narrowed := true }
def PropTurnedUptoSaid : Prop := propTurnedUptoRow.holds Try.pinned (OpenSpec.upto propTurnedSpec)

/-- 'ashlarlaw08.PropLess', WHERE WHAT IT READS IS OF BULK AT MOST 1048576: true; the input reads as it did. -/
def propLessUptoRow : OpenClaim := { program := "ytbgjmeiphmfniaa", sum := "035c3af4ebe7584e3e4d4ebd963340e21ee96c94f7c8e8505d30df42f85e7664", func := "ashlar/ashlarlaw08.PropLess", spec := "propLess", apart := false, narrowed := true }
def PropLessUptoSaid : Prop := propLessUptoRow.holds Try.pinned (OpenSpec.upto propLessSpec)

/-- 'ashlarlaw08.PropChain', WHERE WHAT IT READS IS OF BULK AT MOST 1048576: true; the input reads as it did. -/
def propChainUptoRow : OpenClaim := { program := "ytbgjmeiphmfniaa", sum := "035c3af4ebe7584e3e4d4ebd963340e21ee96c94f7c8e8505d30df42f85e7664", func := "ashlar/ashlarlaw08.PropChain", spec := "propChain", apart := false, narrowed := true }
def PropChainUptoSaid : Prop := propChainUptoRow.holds Try.pinned (OpenSpec.upto propChainSpec)

/-- 'ashlarlaw08.PropDouble', WHERE WHAT IT READS IS OF BULK AT MOST 1048576: true; the input reads as it did. -/
def propDoubleUptoRow : OpenClaim := { program := "ytbgjmeiphmfniaa", sum := "035c3af4ebe7584e3e4d4ebd963340e21ee96c94f7c8e8505d30df42f85e7664", func := "ashlar/ashlarlaw08.PropDouble", spec := "propDouble", apart := false, narrowed := true }
def PropDoubleUptoSaid : Prop := propDoubleUptoRow.holds Try.pinned (OpenSpec.upto propDoubleSpec)

end Rows
end Go.Proofs.Ytbgjmeiphmfniaa
