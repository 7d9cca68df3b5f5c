/- written by a program of this session (wip/tools/printx.py, over the kit's printing program) out of the translation -/
import Derived.Test.YtglpafflpcgnpaaProg
import Derived.Below
import Derived.Deep.Draws
import Derived.Deep.AppendLies
import Derived.Maps.AppendAt
import Derived.OwnWalk
import Derived.Laws.BytesArg
import Derived.Laws.MakeOwn
import Derived.Laws.OwnMore
import Derived.Deep.OwnRows
import Derived.Tactics
import Derived.Lib.ConvBytes
import Derived.Laws.Slices
import Derived.WalkKit
import Derived.KernelRfl
import Derived.RowKit3
import Derived.Deep.LoopGhost
import Derived.Deep.QuietTactic
import Derived.BigQuiet
import Derived.WideLaws
import Derived.Deep.DeepCutAuto
import Derived.Deep.CutBlock
import Derived.Deep.RegionHeld3
import Derived.Laws.Rows
import Derived.Lib.AppendStr
import Derived.ArgAppend
import Derived.Laws.IdiomCopy
import Derived.OrdersHeld
import Derived.Laws.BitsLemmas
import Derived.RowKit
import Derived.ScopeJumps
import Derived.WalkMore
import Derived.Laws.CopyOwn
import Derived.Deep.Slices
import Derived.WalkSpells
import Derived.Outline
import Derived.Test.YtglpafflpcgnpaaWWords
import Derived.Test.YtglpafflpcgnpaaWLast
import Derived.Test.YtglpafflpcgnpaaWTab
import Derived.Test.YtglpafflpcgnpaaWFour
import Derived.Test.YtglpafflpcgnpaaWQPut
import Derived.Test.YtglpafflpcgnpaaWApart
import Derived.Test.YtglpafflpcgnpaaWArr
import Derived.Test.YtglpafflpcgnpaaWZeros
import Derived.Test.YtglpafflpcgnpaaWFoot
import Derived.Test.YtglpafflpcgnpaaWKept
import Derived.Test.YtglpafflpcgnpaaWShare
import Derived.Test.YtglpafflpcgnpaaWN
import Derived.Test.YtglpafflpcgnpaaWFootNe
import Derived.Test.YtglpafflpcgnpaaWAt
import Derived.Test.YtglpafflpcgnpaaWEqStruct
import Derived.Test.YtglpafflpcgnpaaWRepsOne
import Derived.Test.YtglpafflpcgnpaaWInv
import Derived.Test.YtglpafflpcgnpaaWInvWords
import Derived.Test.YtglpafflpcgnpaaWGuard
import Derived.Test.YtglpafflpcgnpaaWNEv
import Derived.Test.YtglpafflpcgnpaaWMore
import Derived.Test.YtglpafflpcgnpaaWFloat
namespace Go.Proofs.Ytglpafflpcgnpaa.Q
open Go.RowKit Go.Proofs.YtglpafflpcgnpaaW.PrintWords Go.Proofs.YtglpafflpcgnpaaW.PrintLast Go.Proofs.YtglpafflpcgnpaaW.PrintMore
attribute [local go_sem] max2_int min2_int max_two min_two max_three min_three max_four min_four   -- for this text's walks alone
set_option linter.unusedVariables false
set_option linter.unusedSimpArgs false



def errW : Option Int → Value
  | none => .nilIface
  | some c => .iface 0 (.int .i64 c)
theorem errW_none : errW none = .nilIface := rfl
theorem errW_some (c : Int) : errW (some c) = .iface 0 (.int .i64 c) := rfl

theorem info30 : (Try.prog.info? 30).map (fun i => (i.zero, i.size, i.bytes)) = some (some (.float .f64 0), 1, 8) := by kernel_rfl
theorem info31 : (Try.prog.info? 31).map (fun i => (i.zero, i.size, i.bytes)) = some (some (.int .u64 0), 1, 8) := by kernel_rfl
-- the values' own types

end Go.Proofs.Ytglpafflpcgnpaa.Q
