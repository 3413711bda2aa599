/- Walks of the given program's functions and the law's row, written by a program of this session (the kit's print, with changes of this session's own): each Go function does what the Lean function of its name says. No condition but those that each theorem states. -/
import Derived.Test.YtoooienmcogbhaaProg
import Derived.Below
import Derived.Deep.Draws
import Derived.Deep.AppendLies
import Derived.Maps.AppendAt
import Derived.OwnWalk
import Derived.Laws.BytesArg
import Derived.Laws.MakeOwn
import Derived.Laws.OwnMore
import Derived.Deep.OwnRows
import Derived.Tactics
import Derived.Lib.ConvBytes
import Derived.Laws.Slices
import Derived.WalkKit
import Derived.KernelRfl
import Derived.RowKit3
import Derived.Deep.LoopGhost
import Derived.Deep.QuietTactic
import Derived.BigQuiet
import Derived.WideLaws
import Derived.Deep.DeepCutAuto
import Derived.Deep.CutBlock
import Derived.Deep.RegionHeld3
import Derived.Laws.Rows
import Derived.Lib.AppendStr
import Derived.ArgAppend
import Derived.Laws.IdiomCopy
import Derived.OrdersHeld
import Derived.Laws.BitsLemmas
import Derived.RowKit
import Derived.Test.YtoooienmcogbhaaWWords
import Derived.Test.YtoooienmcogbhaaWLast
import Derived.Test.YtoooienmcogbhaaWTab
import Derived.Test.YtoooienmcogbhaaWFour
import Derived.Test.YtoooienmcogbhaaWQPut
import Derived.Test.YtoooienmcogbhaaWApart
import Derived.Test.YtoooienmcogbhaaWArr
import Derived.Test.YtoooienmcogbhaaWZeros
import Derived.Test.YtoooienmcogbhaaWFoot
import Derived.Test.YtoooienmcogbhaaWKept
import Derived.Test.YtoooienmcogbhaaWShare
import Derived.Test.YtoooienmcogbhaaWN
import Derived.Test.YtoooienmcogbhaaWFootNe
import Derived.Test.YtoooienmcogbhaaWAt
import Derived.Test.YtoooienmcogbhaaWEqStruct
import Derived.Test.YtoooienmcogbhaaWRepsOne
import Derived.Test.YtoooienmcogbhaaWInv
import Derived.Test.YtoooienmcogbhaaWInvWords
import Derived.Test.YtoooienmcogbhaaWGuard
import Derived.Test.YtoooienmcogbhaaWNEv
import Derived.Test.YtoooienmcogbhaaWMore
namespace Go.Proofs.Ytoooienmcogbhaa.PArithRoots
open Go.RowKit Go.Proofs.YtoooienmcogbhaaW.PrintWords Go.Proofs.YtoooienmcogbhaaW.PrintLast Go.Proofs.YtoooienmcogbhaaW.PrintMore
attribute [local go_sem] max2_int min2_int max_two min_two max_three min_three max_four min_four   -- for this text's walks alone
set_option linter.unusedVariables false
set_option linter.unusedSimpArgs false



def errW : Option Int → Value
  | none => .nilIface
  | some c => .iface 0 (.int .i64 c)
theorem errW_none : errW none = .nilIface := rfl
theorem errW_some (c : Int) : errW (some c) = .iface 0 (.int .i64 c) := rfl

-- the values' own types

end Go.Proofs.Ytoooienmcogbhaa.PArithRoots
