/- Walks of the given program's functions and the law's row, written by a program of this session (the kit's print, with changes of this session's own): each Go function does what the Lean function of its name says. No condition but those that each theorem states. -/
import Derived.Test.YtlbjoflmfboeeaaProg
import Derived.Below
import Derived.Deep.Draws
import Derived.Deep.AppendLies
import Derived.Maps.AppendAt
import Derived.OwnWalk
import Derived.Laws.BytesArg
import Derived.Laws.MakeOwn
import Derived.Laws.OwnMore
import Derived.Deep.OwnRows
import Derived.Tactics
import Derived.Lib.ConvBytes
import Derived.Laws.Slices
import Derived.WalkKit
import Derived.KernelRfl
import Derived.RowKit3
import Derived.Deep.LoopGhost
import Derived.Deep.QuietTactic
import Derived.BigQuiet
import Derived.WideLaws
import Derived.Deep.DeepCutAuto
import Derived.Deep.CutBlock
import Derived.Deep.RegionHeld3
import Derived.Laws.Rows
import Derived.Lib.AppendStr
import Derived.ArgAppend
import Derived.Laws.IdiomCopy
import Derived.OrdersHeld
import Derived.Laws.BitsLemmas
import Derived.RowKit
import Derived.Test.YtlbjoflmfboeeaaQfo
import Derived.Test.YtlbjoflmfboeeaaWWords
import Derived.Test.YtlbjoflmfboeeaaWLast
import Derived.Test.YtlbjoflmfboeeaaWTab
import Derived.Test.YtlbjoflmfboeeaaWFour
import Derived.Test.YtlbjoflmfboeeaaWQPut
import Derived.Test.YtlbjoflmfboeeaaWApart
import Derived.Test.YtlbjoflmfboeeaaWArr
import Derived.Test.YtlbjoflmfboeeaaWZeros
import Derived.Test.YtlbjoflmfboeeaaWFoot
import Derived.Test.YtlbjoflmfboeeaaWKept
import Derived.Test.YtlbjoflmfboeeaaWShare
import Derived.Test.YtlbjoflmfboeeaaWN
import Derived.Test.YtlbjoflmfboeeaaWFootNe
import Derived.Test.YtlbjoflmfboeeaaWAt
import Derived.Test.YtlbjoflmfboeeaaWEqStruct
import Derived.Test.YtlbjoflmfboeeaaWRepsOne
import Derived.Test.YtlbjoflmfboeeaaWInv
import Derived.Test.YtlbjoflmfboeeaaWInvWords
import Derived.Test.YtlbjoflmfboeeaaWGuard
import Derived.Test.YtlbjoflmfboeeaaWNEv
import Derived.Test.YtlbjoflmfboeeaaWMore
namespace Go.Proofs.Ytlbjoflmfboeeaa.PQuantNear
open Go.RowKit Go.Proofs.YtlbjoflmfboeeaaW.PrintWords Go.Proofs.YtlbjoflmfboeeaaW.PrintLast Go.Proofs.YtlbjoflmfboeeaaW.PrintMore
attribute [local go_sem] max2_int min2_int max_two min_two max_three min_three max_four min_four   -- for this text's walks alone
set_option linter.unusedVariables false
set_option linter.unusedSimpArgs false



def errW : Option Int → Value
  | none => .nilIface
  | some c => .iface 0 (.int .i64 c)
theorem errW_none : errW none = .nilIface := rfl
theorem errW_some (c : Int) : errW (some c) = .iface 0 (.int .i64 c) := rfl

theorem info3 : (Try.prog.info? 3).map (fun i => (i.zero, i.size, i.bytes)) = some (some (.int .i64 0), 1, 8) := by kernel_rfl
theorem info21 : (Try.prog.info? 21).map (fun i => (i.zero, i.size, i.bytes)) = some (some (.int .i32 0), 1, 4) := by kernel_rfl
-- the values' own types

end Go.Proofs.Ytlbjoflmfboeeaa.PQuantNear
