/- Walks of the given program's functions and the law's row, written by a program of this session (the kit's print, with changes of this session's own): each Go function does what the Lean function of its name says. No condition but those that each theorem states. -/
import Derived.Test.YtngldpeapcbbpaaProg
import Derived.Below
import Derived.Deep.Draws
import Derived.Deep.AppendLies
import Derived.Maps.AppendAt
import Derived.OwnWalk
import Derived.Laws.BytesArg
import Derived.Laws.MakeOwn
import Derived.Laws.OwnMore
import Derived.Deep.OwnRows
import Derived.Tactics
import Derived.Lib.ConvBytes
import Derived.Laws.Slices
import Derived.WalkKit
import Derived.KernelRfl
import Derived.RowKit3
import Derived.Deep.LoopGhost
import Derived.Deep.QuietTactic
import Derived.BigQuiet
import Derived.WideLaws
import Derived.Deep.DeepCutAuto
import Derived.Deep.CutBlock
import Derived.Deep.RegionHeld3
import Derived.Laws.Rows
import Derived.Lib.AppendStr
import Derived.ArgAppend
import Derived.Laws.IdiomCopy
import Derived.OrdersHeld
import Derived.Laws.BitsLemmas
import Derived.RowKit
import Derived.Test.YtngldpeapcbbpaaWWords
import Derived.Test.YtngldpeapcbbpaaWLast
import Derived.Test.YtngldpeapcbbpaaWTab
import Derived.Test.YtngldpeapcbbpaaWFour
import Derived.Test.YtngldpeapcbbpaaWQPut
import Derived.Test.YtngldpeapcbbpaaWApart
import Derived.Test.YtngldpeapcbbpaaWArr
import Derived.Test.YtngldpeapcbbpaaWZeros
import Derived.Test.YtngldpeapcbbpaaWFoot
import Derived.Test.YtngldpeapcbbpaaWKept
import Derived.Test.YtngldpeapcbbpaaWShare
import Derived.Test.YtngldpeapcbbpaaWN
import Derived.Test.YtngldpeapcbbpaaWFootNe
import Derived.Test.YtngldpeapcbbpaaWAt
import Derived.Test.YtngldpeapcbbpaaWEqStruct
import Derived.Test.YtngldpeapcbbpaaWRepsOne
import Derived.Test.YtngldpeapcbbpaaWInv
import Derived.Test.YtngldpeapcbbpaaWInvWords
import Derived.Test.YtngldpeapcbbpaaWGuard
import Derived.Test.YtngldpeapcbbpaaWNEv
import Derived.Test.YtngldpeapcbbpaaWMore
namespace Go.Proofs.Ytngldpeapcbbpaa.PQuarter
open Go.RowKit Go.Proofs.YtngldpeapcbbpaaW.PrintWords Go.Proofs.YtngldpeapcbbpaaW.PrintLast Go.Proofs.YtngldpeapcbbpaaW.PrintMore
attribute [local go_sem] max2_int min2_int max_two min_two max_three min_three max_four min_four   -- for this text's walks alone
set_option linter.unusedVariables false
set_option linter.unusedSimpArgs false



def errW : Option Int → Value
  | none => .nilIface
  | some c => .iface 0 (.int .i64 c)
theorem errW_none : errW none = .nilIface := rfl
theorem errW_some (c : Int) : errW (some c) = .iface 0 (.int .i64 c) := rfl

theorem info2 : (Try.prog.info? 2).map (fun i => (i.zero, i.size, i.bytes)) = some (some (.int .i64 0), 1, 8) := by kernel_rfl
-- the values' own types

end Go.Proofs.Ytngldpeapcbbpaa.PQuarter
