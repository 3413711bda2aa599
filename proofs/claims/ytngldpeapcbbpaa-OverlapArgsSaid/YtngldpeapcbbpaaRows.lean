/-
  No cell of these rows narrows 'for every input' (looked for: loops, veiled, ifaces, maps, wideKeys, modest, calm, conditions, laid).
  DERIVED. THE GIVEN ROWS OF THIS SEAT. 10 by the template 'for every input the law returns true; each argument reads behind the call as it read before'; 0 by the template 'total and deterministic' (their statements: YtngldpeapcbbpaaTotals.lean).
  GIVEN WITH THE SEED: the statements are not yours to turn. If you find one false, say at which input.
  Laid BY PROGRAM, IN A SANDBOX (cutbox-rows.mjs): the forced cells as the released guide's own fill.sh prints them over the translation 77c0f24bcc7825f9… (all of the seat's roots in one cut). By AI agents, Wed Nov 11 2026. No macro, syntax, notation, axiom, sorry.
-/
import Derived.Test.YtngldpeapcbbpaaChecked
import GoSem.Claim
import GoSem.ClaimJoined
import GoSem.ClaimMapViews
import Derived.JoinedTies
import Derived.KernelRfl
namespace Go.Proofs.Ytngldpeapcbbpaa
/- THE CELL 'sum', in the pinned program and in every row, IS THE sha256 OF THE DUMP (.gsa) THAT YtngldpeapcbbpaaProg.lean LOADS. Nothing in Lean hashes anything: it is a label: what it is worth is what the hold of that sum in a sandbox is worth. -/
noncomputable def Try.pinned : Pinned := { name := "ytngldpeapcbbpaa", sum := "77c0f24bcc7825f939dfcf4858e941f59ba28152f97240634389262585b6865a", checked := Try.checked }
namespace Rows
def none {H : Type} : Left H := { results := [], args := [] }

/-- 'sidebandlaw08.LappedBack': WHATEVER THE INPUT: true; the input reads as it did. -/
def lappedBackSpec : ChangeSpec := { name := "lappedBack", fn := fun _ => fun
  | [d1, d2] => { results := [.lit (.bool true)], args := [d1, d2] }
  | _ => none }
def lappedBackRow : OpenClaim := { program := "ytngldpeapcbbpaa", sum := "77c0f24bcc7825f939dfcf4858e941f59ba28152f97240634389262585b6865a", func := "sideband/sidebandlaw08.LappedBack", spec := "lappedBack", apart := false }
def LappedBackSaid : Prop := lappedBackRow.holds Try.pinned (OpenSpec.ofChange lappedBackSpec)

/-- ITS FALSE NEIGHBOUR: 'it returns false'. Refute it at one input. -/
def lappedBackWrong : ChangeSpec := { name := "lappedBack", fn := fun _ => fun
  | [d1, d2] => { results := [.lit (.bool false)], args := [d1, d2] }
  | _ => none }
def LappedBackWrongFalsely : Prop := lappedBackRow.holds Try.pinned (OpenSpec.ofChange lappedBackWrong)

/-- 'sidebandlaw08.LappedLines': WHATEVER THE INPUT: true; the input reads as it did. -/
def lappedLinesSpec : ChangeSpec := { name := "lappedLines", fn := fun _ => fun
  | [d1, d2] => { results := [.lit (.bool true)], args := [d1, d2] }
  | _ => none }
def lappedLinesRow : OpenClaim := { program := "ytngldpeapcbbpaa", sum := "77c0f24bcc7825f939dfcf4858e941f59ba28152f97240634389262585b6865a", func := "sideband/sidebandlaw08.LappedLines", spec := "lappedLines", apart := false }
def LappedLinesSaid : Prop := lappedLinesRow.holds Try.pinned (OpenSpec.ofChange lappedLinesSpec)

/-- ITS FALSE NEIGHBOUR: 'it returns false'. Refute it at one input. -/
def lappedLinesWrong : ChangeSpec := { name := "lappedLines", fn := fun _ => fun
  | [d1, d2] => { results := [.lit (.bool false)], args := [d1, d2] }
  | _ => none }
def LappedLinesWrongFalsely : Prop := lappedLinesRow.holds Try.pinned (OpenSpec.ofChange lappedLinesWrong)

/-- 'sidebandlaw08.LappedAgain': WHATEVER THE INPUT: true; the input reads as it did. -/
def lappedAgainSpec : ChangeSpec := { name := "lappedAgain", fn := fun _ => fun
  | [d1, d2] => { results := [.lit (.bool true)], args := [d1, d2] }
  | _ => none }
def lappedAgainRow : OpenClaim := { program := "ytngldpeapcbbpaa", sum := "77c0f24bcc7825f939dfcf4858e941f59ba28152f97240634389262585b6865a", func := "sideband/sidebandlaw08.LappedAgain", spec := "lappedAgain", apart := false }
def LappedAgainSaid : Prop := lappedAgainRow.holds Try.pinned (OpenSpec.ofChange lappedAgainSpec)

/-- ITS FALSE NEIGHBOUR: 'it returns false'. Refute it at one input. -/
def lappedAgainWrong : ChangeSpec := { name := "lappedAgain", fn := fun _ => fun
  | [d1, d2] => { results := [.lit (.bool false)], args := [d1, d2] }
  | _ => none }
def LappedAgainWrongFalsely : Prop := lappedAgainRow.holds Try.pinned (OpenSpec.ofChange lappedAgainWrong)

/-- 'sidebandlaw08.LappedArgs': WHATEVER THE INPUT: true; the input reads as it did. -/
def lappedArgsSpec : ChangeSpec := { name := "lappedArgs", fn := fun _ => fun
  | [d1, d2, d3] => { results := [.lit (.bool true)], args := [d1, d2, d3] }
  | _ => none }
def lappedArgsRow : OpenClaim := { program := "ytngldpeapcbbpaa", sum := "77c0f24bcc7825f939dfcf4858e941f59ba28152f97240634389262585b6865a", func := "sideband/sidebandlaw08.LappedArgs", spec := "lappedArgs", apart := false }
def LappedArgsSaid : Prop := lappedArgsRow.holds Try.pinned (OpenSpec.ofChange lappedArgsSpec)

/-- ITS FALSE NEIGHBOUR: 'it returns false'. Refute it at one input. -/
def lappedArgsWrong : ChangeSpec := { name := "lappedArgs", fn := fun _ => fun
  | [d1, d2, d3] => { results := [.lit (.bool false)], args := [d1, d2, d3] }
  | _ => none }
def LappedArgsWrongFalsely : Prop := lappedArgsRow.holds Try.pinned (OpenSpec.ofChange lappedArgsWrong)

/-- 'sidebandlaw09.OverlapLines': WHATEVER THE INPUT: true; the input reads as it did. -/
def overlapLinesSpec : ChangeSpec := { name := "overlapLines", fn := fun _ => fun
  | [d1, d2] => { results := [.lit (.bool true)], args := [d1, d2] }
  | _ => none }
def overlapLinesRow : OpenClaim := { program := "ytngldpeapcbbpaa", sum := "77c0f24bcc7825f939dfcf4858e941f59ba28152f97240634389262585b6865a", func := "sideband/sidebandlaw09.OverlapLines", spec := "overlapLines", apart := false }
def OverlapLinesSaid : Prop := overlapLinesRow.holds Try.pinned (OpenSpec.ofChange overlapLinesSpec)

/-- ITS FALSE NEIGHBOUR: 'it returns false'. Refute it at one input. -/
def overlapLinesWrong : ChangeSpec := { name := "overlapLines", fn := fun _ => fun
  | [d1, d2] => { results := [.lit (.bool false)], args := [d1, d2] }
  | _ => none }
def OverlapLinesWrongFalsely : Prop := overlapLinesRow.holds Try.pinned (OpenSpec.ofChange overlapLinesWrong)

/-- 'sidebandlaw09.OverlapAgain': WHATEVER THE INPUT: true; the input reads as it did. -/
def overlapAgainSpec : ChangeSpec := { name := "overlapAgain", fn := fun _ => fun
  | [d1, d2] => { results := [.lit (.bool true)], args := [d1, d2] }
  | _ => none }
def overlapAgainRow : OpenClaim := { program := "ytngldpeapcbbpaa", sum := "77c0f24bcc7825f939dfcf4858e941f59ba28152f97240634389262585b6865a", func := "sideband/sidebandlaw09.OverlapAgain", spec := "overlapAgain", apart := false }
def OverlapAgainSaid : Prop := overlapAgainRow.holds Try.pinned (OpenSpec.ofChange overlapAgainSpec)

/-- ITS FALSE NEIGHBOUR: 'it returns false'. Refute it at one input. -/
def overlapAgainWrong : ChangeSpec := { name := "overlapAgain", fn := fun _ => fun
  | [d1, d2] => { results := [.lit (.bool false)], args := [d1, d2] }
  | _ => none }
def OverlapAgainWrongFalsely : Prop := overlapAgainRow.holds Try.pinned (OpenSpec.ofChange overlapAgainWrong)

/-- 'sidebandlaw09.OverlapSamples': WHATEVER THE INPUT: true; the input reads as it did. -/
def overlapSamplesSpec : ChangeSpec := { name := "overlapSamples", fn := fun _ => fun
  | [d1, d2] => { results := [.lit (.bool true)], args := [d1, d2] }
  | _ => none }
def overlapSamplesRow : OpenClaim := { program := "ytngldpeapcbbpaa", sum := "77c0f24bcc7825f939dfcf4858e941f59ba28152f97240634389262585b6865a", func := "sideband/sidebandlaw09.OverlapSamples", spec := "overlapSamples", apart := false }
def OverlapSamplesSaid : Prop := overlapSamplesRow.holds Try.pinned (OpenSpec.ofChange overlapSamplesSpec)

/-- ITS FALSE NEIGHBOUR: 'it returns false'. Refute it at one input. -/
def overlapSamplesWrong : ChangeSpec := { name := "overlapSamples", fn := fun _ => fun
  | [d1, d2] => { results := [.lit (.bool false)], args := [d1, d2] }
  | _ => none }
def OverlapSamplesWrongFalsely : Prop := overlapSamplesRow.holds Try.pinned (OpenSpec.ofChange overlapSamplesWrong)

/-- 'sidebandlaw09.OverlapArgs': WHATEVER THE INPUT: true; the input reads as it did. -/
def overlapArgsSpec : ChangeSpec := { name := "overlapArgs", fn := fun _ => fun
  | [d1, d2, d3] => { results := [.lit (.bool true)], args := [d1, d2, d3] }
  | _ => none }
def overlapArgsRow : OpenClaim := { program := "ytngldpeapcbbpaa", sum := "77c0f24bcc7825f939dfcf4858e941f59ba28152f97240634389262585b6865a", func := "sideband/sidebandlaw09.OverlapArgs", spec := "overlapArgs", apart := false }
def OverlapArgsSaid : Prop := overlapArgsRow.holds Try.pinned (OpenSpec.ofChange overlapArgsSpec)

/-- ITS FALSE NEIGHBOUR: 'it returns false'. Refute it at one input. -/
def overlapArgsWrong : ChangeSpec := { name := "overlapArgs", fn := fun _ => fun
  | [d1, d2, d3] => { results := [.lit (.bool false)], args := [d1, d2, d3] }
  | _ => none }
def OverlapArgsWrongFalsely : Prop := overlapArgsRow.holds Try.pinned (OpenSpec.ofChange overlapArgsWrong)

/-- 'sidebandlaw13.CoderNear': WHATEVER THE INPUT: true; the input reads as it did. -/
def coderNearSpec : ChangeSpec := { name := "coderNear", fn := fun _ => fun
  | [d1, d2, d3] => { results := [.lit (.bool true)], args := [d1, d2, d3] }
  | _ => none }
def coderNearRow : OpenClaim := { program := "ytngldpeapcbbpaa", sum := "77c0f24bcc7825f939dfcf4858e941f59ba28152f97240634389262585b6865a", func := "sideband/sidebandlaw13.CoderNear", spec := "coderNear", apart := false }
def CoderNearSaid : Prop := coderNearRow.holds Try.pinned (OpenSpec.ofChange coderNearSpec)

/-- ITS FALSE NEIGHBOUR: 'it returns false'. Refute it at one input. -/
def coderNearWrong : ChangeSpec := { name := "coderNear", fn := fun _ => fun
  | [d1, d2, d3] => { results := [.lit (.bool false)], args := [d1, d2, d3] }
  | _ => none }
def CoderNearWrongFalsely : Prop := coderNearRow.holds Try.pinned (OpenSpec.ofChange coderNearWrong)

/-- 'sidebandlaw13.CoderArgs': WHATEVER THE INPUT: true; the input reads as it did. -/
def coderArgsSpec : ChangeSpec := { name := "coderArgs", fn := fun _ => fun
  | [d1, d2, d3] => { results := [.lit (.bool true)], args := [d1, d2, d3] }
  | _ => none }
def coderArgsRow : OpenClaim := { program := "ytngldpeapcbbpaa", sum := "77c0f24bcc7825f939dfcf4858e941f59ba28152f97240634389262585b6865a", func := "sideband/sidebandlaw13.CoderArgs", spec := "coderArgs", apart := false }
def CoderArgsSaid : Prop := coderArgsRow.holds Try.pinned (OpenSpec.ofChange coderArgsSpec)

/-- ITS FALSE NEIGHBOUR: 'it returns false'. Refute it at one input. -/
def coderArgsWrong : ChangeSpec := { name := "coderArgs", fn := fun _ => fun
  | [d1, d2, d3] => { results := [.lit (.bool false)], args := [d1, d2, d3] }
  | _ => none }
def CoderArgsWrongFalsely : Prop := coderArgsRow.holds Try.pinned (OpenSpec.ofChange coderArgsWrong)

/- THE SECOND FORM. 'bulk': how many values and letters a reading holds, each counted each time it is reached (what is shared counts as often as it is met; a slice's spare places count too). A statement '..UptoSaid' is the law's where the arguments, and the package variables that the reading takes, are together of bulk at most 1048576: NARROWER than '..Said'. Prove '..Said' where nothing that the law and all that it calls make is longer than what came in: it says more and counts as full. Else prove '..UptoSaid'. A law counts once. -/
mutual
def uptoBulk {H : Type} : DataW H → Nat
  | .lit (.string bytes) => bytes.length + 1
  | .lit _ => 1
  | .nil => 1
  | .ptr d => uptoBulk d + 1
  | .slice elems spare => uptoBulkAll elems + uptoBulkAll spare + 1
  | .agg parts => uptoBulkAll parts + 1
  | .iface _ d => uptoBulk d + 1
  | .map entries => uptoBulkEntries entries + 1
  | .held _ => 1
def uptoBulkAll {H : Type} : List (DataW H) → Nat
  | [] => 0
  | d :: r => uptoBulk d + uptoBulkAll r
def uptoBulkEntries {H : Type} : List (Lit × DataW H) → Nat
  | [] => 0
  | x :: r => uptoBulkEntry x + uptoBulkEntries r
def uptoBulkEntry {H : Type} : Lit × DataW H → Nat
  | (.string bytes, d) => bytes.length + uptoBulk d + 1
  | (_, d) => uptoBulk d + 1
 end
def uptoSmall : (H : Type) → List (DataW H) → Bool := fun _ ds => decide (uptoBulkAll ds ≤ 1048576)
def OpenSpec.upto (s : _root_.Go.ChangeSpec) : _root_.Go.OpenSpec := { _root_.Go.OpenSpec.ofChange s with cond := some uptoSmall }

/-- 'sidebandlaw08.LappedBack', WHERE WHAT IT READS IS OF BULK AT MOST 1048576: true; the input reads as it did. -/
def lappedBackUptoRow : OpenClaim := { program := "ytngldpeapcbbpaa", sum := "77c0f24bcc7825f939dfcf4858e941f59ba28152f97240634389262585b6865a", func := "sideband/sidebandlaw08.LappedBack", spec := "lappedBack", apart := false, narrowed := true }
def LappedBackUptoSaid : Prop := lappedBackUptoRow.holds Try.pinned (OpenSpec.upto lappedBackSpec)

/-- 'sidebandlaw08.LappedLines', WHERE WHAT IT READS IS OF BULK AT MOST 1048576: true; the input reads as it did. -/
def lappedLinesUptoRow : OpenClaim := { program := "ytngldpeapcbbpaa", sum := "77c0f24bcc7825f939dfcf4858e941f59ba28152f97240634389262585b6865a", func := "sideband/sidebandlaw08.LappedLines", spec := "lappedLines", apart := false, narrowed := true }
def LappedLinesUptoSaid : Prop := lappedLinesUptoRow.holds Try.pinned (OpenSpec.upto lappedLinesSpec)

/-- 'sidebandlaw08.LappedAgain', WHERE WHAT IT READS IS OF BULK AT MOST 1048576: true; the input reads as it did. -/
def lappedAgainUptoRow : OpenClaim := { program := "ytngldpeapcbbpaa", sum := "77c0f24bcc7825f939dfcf4858e941f59ba28152f97240634389262585b6865a", func := "sideband/sidebandlaw08.LappedAgain", spec := "lappedAgain", apart := false, narrowed := true }
def LappedAgainUptoSaid : Prop := lappedAgainUptoRow.holds Try.pinned (OpenSpec.upto lappedAgainSpec)

/-- 'sidebandlaw08.LappedArgs', WHERE WHAT IT READS IS OF BULK AT MOST 1048576: true; the input reads as it did. -/
def lappedArgsUptoRow : OpenClaim := { program := "ytngldpeapcbbpaa", sum := "77c0f24bcc7825f939dfcf4858e941f59ba28152f97240634389262585b6865a", func := "sideband/sidebandlaw08.LappedArgs", spec := "lappedArgs", apart := false, narrowed := true }
def LappedArgsUptoSaid : Prop := lappedArgsUptoRow.holds Try.pinned (OpenSpec.upto lappedArgsSpec)

/-- 'sidebandlaw09.OverlapLines', WHERE WHAT IT READS IS OF BULK AT MOST 1048576: true; the input reads as it did. -/
def overlapLinesUptoRow : OpenClaim := { program := "ytngldpeapcbbpaa", sum := "77c0f24bcc7825f939dfcf4858e941f59ba28152f97240634389262585b6865a", func := "sideband/sidebandlaw09.OverlapLines", spec := "overlapLines", apart := false, narrowed := true }
def OverlapLinesUptoSaid : Prop := overlapLinesUptoRow.holds Try.pinned (OpenSpec.upto overlapLinesSpec)

/-- 'sidebandlaw09.OverlapAgain', WHERE WHAT IT READS IS OF BULK AT MOST 1048576: true; the input reads as it did. -/
def overlapAgainUptoRow : OpenClaim := { program := "ytngldpeapcbbpaa", sum := "77c0f24bcc7825f939dfcf4858e941f59ba28152f97240634389262585b6865a", func := "sideband/sidebandlaw09.OverlapAgain", spec := "overlapAgain", apart := false, narrowed := true }
def OverlapAgainUptoSaid : Prop := overlapAgainUptoRow.holds Try.pinned (OpenSpec.upto overlapAgainSpec)

/-- 'sidebandlaw09.OverlapSamples', WHERE WHAT IT READS IS OF BULK AT MOST 1048576: true; the input reads as it did. -/
def overlapSamplesUptoRow : OpenClaim := { program := "ytngldpeapcbbpaa", sum := "77c0f24bcc7825f939dfcf4858e941f59ba28152f97240634389262585b6865a", func := "sideband/sidebandlaw09.OverlapSamples", spec := "overlapSamples", apart := false, narrowed := true }
def OverlapSamplesUptoSaid : Prop := overlapSamplesUptoRow.holds Try.pinned (OpenSpec.upto overlapSamplesSpec)

/-- 'sidebandlaw09.OverlapArgs', WHERE WHAT IT READS IS OF BULK AT MOST 1048576: true; the input reads as it did. -/
def overlapArgsUptoRow : OpenClaim := { program := "ytngldpeapcbbpaa", sum := "77c0f24bcc7825f939dfcf4858e941f59ba28152f97240634389262585b6865a", func := "sideband/sidebandlaw09.OverlapArgs", spec := "overlapArgs", apart := false, narrowed := true }
def OverlapArgsUptoSaid : Prop := overlapArgsUptoRow.holds Try.pinned (OpenSpec.upto overlapArgsSpec)

/-- 'sidebandlaw13.CoderNear', WHERE WHAT IT READS IS OF BULK AT MOST 1048576: true; the input reads as it did. -/
def coderNearUptoRow : OpenClaim := { program := "ytngldpeapcbbpaa", sum := "77c0f24bcc7825f939dfcf4858e941f59ba28152f97240634389262585b6865a", func := "sideband/sidebandlaw13.CoderNear", spec := "coderNear", apart := false, narrowed := true }
def CoderNearUptoSaid : Prop := coderNearUptoRow.holds Try.pinned (OpenSpec.upto coderNearSpec)

/-- 'sidebandlaw13.CoderArgs', WHERE WHAT IT READS IS OF BULK AT MOST 1048576: true; the input reads as it did. -/
def coderArgsUptoRow : OpenClaim := { program := "ytngldpeapcbbpaa", sum := "77c0f24bcc7825f939dfcf4858e941f59ba28152f97240634389262585b6865a", func := "sideband/sidebandlaw13.CoderArgs", spec := "coderArgs", apart := false, narrowed := true }
def CoderArgsUptoSaid : Prop := coderArgsUptoRow.holds Try.pinned (OpenSpec.upto coderArgsSpec)

end Rows
end Go.Proofs.Ytngldpeapcbbpaa
