/-
  No cell of these rows narrows 'for every input' (looked for: loops, veiled, ifaces, maps, wideKeys, modest, calm, conditions, laid).
  DERIVED. THE GIVEN ROWS OF THIS SEAT. 12 by the template 'for every input the law returns true; each argument reads behind the call as it read before'; 0 by the template 'total and deterministic' (their statements: YtlbjoflmfboeeaaTotals.lean).
  GIVEN WITH THE SEED: the statements are not yours to turn. If you find one false, say at which input.
  Laid BY PROGRAM, IN A SANDBOX (cutbox-rows.mjs): the forced cells as the released guide's own fill.sh prints them over the translation a1602d37c6b726f0… (all of the seat's roots in one cut). By AI agents, Wed Nov 11 2026. No macro, syntax, notation, axiom, sorry.
-/
import Derived.Test.YtlbjoflmfboeeaaChecked
import GoSem.Claim
import GoSem.ClaimJoined
import GoSem.ClaimMapViews
import Derived.JoinedTies
import Derived.KernelRfl
namespace Go.Proofs.Ytlbjoflmfboeeaa
/- THE CELL 'sum', in the pinned program and in every row, IS THE sha256 OF THE DUMP (.gsa) THAT YtlbjoflmfboeeaaProg.lean LOADS. Nothing in Lean hashes anything: it is a label: what it is worth is what the hold of that sum in a sandbox is worth. -/
noncomputable def Try.pinned : Pinned := { name := "ytlbjoflmfboeeaa", sum := "a1602d37c6b726f0c6c60c87ca5eb30391f24e702055ae68a6cc1ed748cf6685", checked := Try.checked }
namespace Rows
def none {H : Type} : Left H := { results := [], args := [] }

/-- 'sidebandlaw06.RangeencNil': WHATEVER THE INPUT: true; the input reads as it did. -/
def rangeencNilSpec : ChangeSpec := { name := "rangeencNil", fn := fun _ => fun
  | [d1, d2, d3] => { results := [.lit (.bool true)], args := [d1, d2, d3] }
  | _ => none }
def rangeencNilRow : OpenClaim := { program := "ytlbjoflmfboeeaa", sum := "a1602d37c6b726f0c6c60c87ca5eb30391f24e702055ae68a6cc1ed748cf6685", func := "sideband/sidebandlaw06.RangeencNil", spec := "rangeencNil", apart := false }
def RangeencNilSaid : Prop := rangeencNilRow.holds Try.pinned (OpenSpec.ofChange rangeencNilSpec)

/-- ITS FALSE NEIGHBOUR: 'it returns false'. Refute it at one input. -/
def rangeencNilWrong : ChangeSpec := { name := "rangeencNil", fn := fun _ => fun
  | [d1, d2, d3] => { results := [.lit (.bool false)], args := [d1, d2, d3] }
  | _ => none }
def RangeencNilWrongFalsely : Prop := rangeencNilRow.holds Try.pinned (OpenSpec.ofChange rangeencNilWrong)

/-- 'sidebandlaw06.RangeencBytes': WHATEVER THE INPUT: true; the input reads as it did. -/
def rangeencBytesSpec : ChangeSpec := { name := "rangeencBytes", fn := fun _ => fun
  | [d1, d2] => { results := [.lit (.bool true)], args := [d1, d2] }
  | _ => none }
def rangeencBytesRow : OpenClaim := { program := "ytlbjoflmfboeeaa", sum := "a1602d37c6b726f0c6c60c87ca5eb30391f24e702055ae68a6cc1ed748cf6685", func := "sideband/sidebandlaw06.RangeencBytes", spec := "rangeencBytes", apart := false }
def RangeencBytesSaid : Prop := rangeencBytesRow.holds Try.pinned (OpenSpec.ofChange rangeencBytesSpec)

/-- ITS FALSE NEIGHBOUR: 'it returns false'. Refute it at one input. -/
def rangeencBytesWrong : ChangeSpec := { name := "rangeencBytes", fn := fun _ => fun
  | [d1, d2] => { results := [.lit (.bool false)], args := [d1, d2] }
  | _ => none }
def RangeencBytesWrongFalsely : Prop := rangeencBytesRow.holds Try.pinned (OpenSpec.ofChange rangeencBytesWrong)

/-- 'sidebandlaw07.RangedecReads': WHATEVER THE INPUT: true; the input reads as it did. -/
def rangedecReadsSpec : ChangeSpec := { name := "rangedecReads", fn := fun _ => fun
  | [d1, d2, d3] => { results := [.lit (.bool true)], args := [d1, d2, d3] }
  | _ => none }
def rangedecReadsRow : OpenClaim := { program := "ytlbjoflmfboeeaa", sum := "a1602d37c6b726f0c6c60c87ca5eb30391f24e702055ae68a6cc1ed748cf6685", func := "sideband/sidebandlaw07.RangedecReads", spec := "rangedecReads", apart := false }
def RangedecReadsSaid : Prop := rangedecReadsRow.holds Try.pinned (OpenSpec.ofChange rangedecReadsSpec)

/-- ITS FALSE NEIGHBOUR: 'it returns false'. Refute it at one input. -/
def rangedecReadsWrong : ChangeSpec := { name := "rangedecReads", fn := fun _ => fun
  | [d1, d2, d3] => { results := [.lit (.bool false)], args := [d1, d2, d3] }
  | _ => none }
def RangedecReadsWrongFalsely : Prop := rangedecReadsRow.holds Try.pinned (OpenSpec.ofChange rangedecReadsWrong)

/-- 'sidebandlaw07.RangedecNil': WHATEVER THE INPUT: true; the input reads as it did. -/
def rangedecNilSpec : ChangeSpec := { name := "rangedecNil", fn := fun _ => fun
  | [d] => { results := [.lit (.bool true)], args := [d] }
  | _ => none }
def rangedecNilRow : OpenClaim := { program := "ytlbjoflmfboeeaa", sum := "a1602d37c6b726f0c6c60c87ca5eb30391f24e702055ae68a6cc1ed748cf6685", func := "sideband/sidebandlaw07.RangedecNil", spec := "rangedecNil", apart := false }
def RangedecNilSaid : Prop := rangedecNilRow.holds Try.pinned (OpenSpec.ofChange rangedecNilSpec)

/-- ITS FALSE NEIGHBOUR: 'it returns false'. Refute it at one input. -/
def rangedecNilWrong : ChangeSpec := { name := "rangedecNil", fn := fun _ => fun
  | [d] => { results := [.lit (.bool false)], args := [d] }
  | _ => none }
def RangedecNilWrongFalsely : Prop := rangedecNilRow.holds Try.pinned (OpenSpec.ofChange rangedecNilWrong)

/-- 'sidebandlaw07.RangedecAgain': WHATEVER THE INPUT: true; the input reads as it did. -/
def rangedecAgainSpec : ChangeSpec := { name := "rangedecAgain", fn := fun _ => fun
  | [d1, d2, d3] => { results := [.lit (.bool true)], args := [d1, d2, d3] }
  | _ => none }
def rangedecAgainRow : OpenClaim := { program := "ytlbjoflmfboeeaa", sum := "a1602d37c6b726f0c6c60c87ca5eb30391f24e702055ae68a6cc1ed748cf6685", func := "sideband/sidebandlaw07.RangedecAgain", spec := "rangedecAgain", apart := false }
def RangedecAgainSaid : Prop := rangedecAgainRow.holds Try.pinned (OpenSpec.ofChange rangedecAgainSpec)

/-- ITS FALSE NEIGHBOUR: 'it returns false'. Refute it at one input. -/
def rangedecAgainWrong : ChangeSpec := { name := "rangedecAgain", fn := fun _ => fun
  | [d1, d2, d3] => { results := [.lit (.bool false)], args := [d1, d2, d3] }
  | _ => none }
def RangedecAgainWrongFalsely : Prop := rangedecAgainRow.holds Try.pinned (OpenSpec.ofChange rangedecAgainWrong)

/-- 'sidebandlaw10.EnergyPuts': WHATEVER THE INPUT: true; the input reads as it did. -/
def energyPutsSpec : ChangeSpec := { name := "energyPuts", fn := fun _ => fun
  | [d1, d2] => { results := [.lit (.bool true)], args := [d1, d2] }
  | _ => none }
def energyPutsRow : OpenClaim := { program := "ytlbjoflmfboeeaa", sum := "a1602d37c6b726f0c6c60c87ca5eb30391f24e702055ae68a6cc1ed748cf6685", func := "sideband/sidebandlaw10.EnergyPuts", spec := "energyPuts", apart := false }
def EnergyPutsSaid : Prop := energyPutsRow.holds Try.pinned (OpenSpec.ofChange energyPutsSpec)

/-- ITS FALSE NEIGHBOUR: 'it returns false'. Refute it at one input. -/
def energyPutsWrong : ChangeSpec := { name := "energyPuts", fn := fun _ => fun
  | [d1, d2] => { results := [.lit (.bool false)], args := [d1, d2] }
  | _ => none }
def EnergyPutsWrongFalsely : Prop := energyPutsRow.holds Try.pinned (OpenSpec.ofChange energyPutsWrong)

/-- 'sidebandlaw10.EnergyGets': WHATEVER THE INPUT: true; the input reads as it did. -/
def energyGetsSpec : ChangeSpec := { name := "energyGets", fn := fun _ => fun
  | [d1, d2] => { results := [.lit (.bool true)], args := [d1, d2] }
  | _ => none }
def energyGetsRow : OpenClaim := { program := "ytlbjoflmfboeeaa", sum := "a1602d37c6b726f0c6c60c87ca5eb30391f24e702055ae68a6cc1ed748cf6685", func := "sideband/sidebandlaw10.EnergyGets", spec := "energyGets", apart := false }
def EnergyGetsSaid : Prop := energyGetsRow.holds Try.pinned (OpenSpec.ofChange energyGetsSpec)

/-- ITS FALSE NEIGHBOUR: 'it returns false'. Refute it at one input. -/
def energyGetsWrong : ChangeSpec := { name := "energyGets", fn := fun _ => fun
  | [d1, d2] => { results := [.lit (.bool false)], args := [d1, d2] }
  | _ => none }
def EnergyGetsWrongFalsely : Prop := energyGetsRow.holds Try.pinned (OpenSpec.ofChange energyGetsWrong)

/-- 'sidebandlaw10.EnergyArgs': WHATEVER THE INPUT: true; the input reads as it did. -/
def energyArgsSpec : ChangeSpec := { name := "energyArgs", fn := fun _ => fun
  | [d] => { results := [.lit (.bool true)], args := [d] }
  | _ => none }
def energyArgsRow : OpenClaim := { program := "ytlbjoflmfboeeaa", sum := "a1602d37c6b726f0c6c60c87ca5eb30391f24e702055ae68a6cc1ed748cf6685", func := "sideband/sidebandlaw10.EnergyArgs", spec := "energyArgs", apart := false }
def EnergyArgsSaid : Prop := energyArgsRow.holds Try.pinned (OpenSpec.ofChange energyArgsSpec)

/-- ITS FALSE NEIGHBOUR: 'it returns false'. Refute it at one input. -/
def energyArgsWrong : ChangeSpec := { name := "energyArgs", fn := fun _ => fun
  | [d] => { results := [.lit (.bool false)], args := [d] }
  | _ => none }
def EnergyArgsWrongFalsely : Prop := energyArgsRow.holds Try.pinned (OpenSpec.ofChange energyArgsWrong)

/-- 'sidebandlaw12.QuantNear': WHATEVER THE INPUT: true; the input reads as it did. -/
def quantNearSpec : ChangeSpec := { name := "quantNear", fn := fun _ => fun
  | [d1, d2, d3] => { results := [.lit (.bool true)], args := [d1, d2, d3] }
  | _ => none }
def quantNearRow : OpenClaim := { program := "ytlbjoflmfboeeaa", sum := "a1602d37c6b726f0c6c60c87ca5eb30391f24e702055ae68a6cc1ed748cf6685", func := "sideband/sidebandlaw12.QuantNear", spec := "quantNear", apart := false }
def QuantNearSaid : Prop := quantNearRow.holds Try.pinned (OpenSpec.ofChange quantNearSpec)

/-- ITS FALSE NEIGHBOUR: 'it returns false'. Refute it at one input. -/
def quantNearWrong : ChangeSpec := { name := "quantNear", fn := fun _ => fun
  | [d1, d2, d3] => { results := [.lit (.bool false)], args := [d1, d2, d3] }
  | _ => none }
def QuantNearWrongFalsely : Prop := quantNearRow.holds Try.pinned (OpenSpec.ofChange quantNearWrong)

/-- 'sidebandlaw12.QuantGets': WHATEVER THE INPUT: true; the input reads as it did. -/
def quantGetsSpec : ChangeSpec := { name := "quantGets", fn := fun _ => fun
  | [d1, d2, d3] => { results := [.lit (.bool true)], args := [d1, d2, d3] }
  | _ => none }
def quantGetsRow : OpenClaim := { program := "ytlbjoflmfboeeaa", sum := "a1602d37c6b726f0c6c60c87ca5eb30391f24e702055ae68a6cc1ed748cf6685", func := "sideband/sidebandlaw12.QuantGets", spec := "quantGets", apart := false }
def QuantGetsSaid : Prop := quantGetsRow.holds Try.pinned (OpenSpec.ofChange quantGetsSpec)

/-- ITS FALSE NEIGHBOUR: 'it returns false'. Refute it at one input. -/
def quantGetsWrong : ChangeSpec := { name := "quantGets", fn := fun _ => fun
  | [d1, d2, d3] => { results := [.lit (.bool false)], args := [d1, d2, d3] }
  | _ => none }
def QuantGetsWrongFalsely : Prop := quantGetsRow.holds Try.pinned (OpenSpec.ofChange quantGetsWrong)

/-- 'sidebandlaw12.QuantPuts': WHATEVER THE INPUT: true; the input reads as it did. -/
def quantPutsSpec : ChangeSpec := { name := "quantPuts", fn := fun _ => fun
  | [d1, d2, d3] => { results := [.lit (.bool true)], args := [d1, d2, d3] }
  | _ => none }
def quantPutsRow : OpenClaim := { program := "ytlbjoflmfboeeaa", sum := "a1602d37c6b726f0c6c60c87ca5eb30391f24e702055ae68a6cc1ed748cf6685", func := "sideband/sidebandlaw12.QuantPuts", spec := "quantPuts", apart := false }
def QuantPutsSaid : Prop := quantPutsRow.holds Try.pinned (OpenSpec.ofChange quantPutsSpec)

/-- ITS FALSE NEIGHBOUR: 'it returns false'. Refute it at one input. -/
def quantPutsWrong : ChangeSpec := { name := "quantPuts", fn := fun _ => fun
  | [d1, d2, d3] => { results := [.lit (.bool false)], args := [d1, d2, d3] }
  | _ => none }
def QuantPutsWrongFalsely : Prop := quantPutsRow.holds Try.pinned (OpenSpec.ofChange quantPutsWrong)

/-- 'sidebandlaw12.QuantArgs': WHATEVER THE INPUT: true; the input reads as it did. -/
def quantArgsSpec : ChangeSpec := { name := "quantArgs", fn := fun _ => fun
  | [d1, d2, d3] => { results := [.lit (.bool true)], args := [d1, d2, d3] }
  | _ => none }
def quantArgsRow : OpenClaim := { program := "ytlbjoflmfboeeaa", sum := "a1602d37c6b726f0c6c60c87ca5eb30391f24e702055ae68a6cc1ed748cf6685", func := "sideband/sidebandlaw12.QuantArgs", spec := "quantArgs", apart := false }
def QuantArgsSaid : Prop := quantArgsRow.holds Try.pinned (OpenSpec.ofChange quantArgsSpec)

/-- ITS FALSE NEIGHBOUR: 'it returns false'. Refute it at one input. -/
def quantArgsWrong : ChangeSpec := { name := "quantArgs", fn := fun _ => fun
  | [d1, d2, d3] => { results := [.lit (.bool false)], args := [d1, d2, d3] }
  | _ => none }
def QuantArgsWrongFalsely : Prop := quantArgsRow.holds Try.pinned (OpenSpec.ofChange quantArgsWrong)

/- THE SECOND FORM. 'bulk': how many values and letters a reading holds, each counted each time it is reached (what is shared counts as often as it is met; a slice's spare places count too). A statement '..UptoSaid' is the law's where the arguments, and the package variables that the reading takes, are together of bulk at most 1048576: NARROWER than '..Said'. Prove '..Said' where nothing that the law and all that it calls make is longer than what came in: it says more and counts as full. Else prove '..UptoSaid'. A law counts once. -/
mutual
def uptoBulk {H : Type} : DataW H → Nat
  | .lit (.string bytes) => bytes.length + 1
  | .lit _ => 1
  | .nil => 1
  | .ptr d => uptoBulk d + 1
  | .slice elems spare => uptoBulkAll elems + uptoBulkAll spare + 1
  | .agg parts => uptoBulkAll parts + 1
  | .iface _ d => uptoBulk d + 1
  | .map entries => uptoBulkEntries entries + 1
  | .held _ => 1
def uptoBulkAll {H : Type} : List (DataW H) → Nat
  | [] => 0
  | d :: r => uptoBulk d + uptoBulkAll r
def uptoBulkEntries {H : Type} : List (Lit × DataW H) → Nat
  | [] => 0
  | x :: r => uptoBulkEntry x + uptoBulkEntries r
def uptoBulkEntry {H : Type} : Lit × DataW H → Nat
  | (.string bytes, d) => bytes.length + uptoBulk d + 1
  | (_, d) => uptoBulk d + 1
 end
def uptoSmall : (H : Type) → List (DataW H) → Bool := fun _ ds => decide (uptoBulkAll ds ≤ 1048576)
def OpenSpec.upto (s : _root_.Go.ChangeSpec) : _root_.Go.OpenSpec := { _root_.Go.OpenSpec.ofChange s with cond := some uptoSmall }

/-- 'sidebandlaw06.RangeencNil', WHERE WHAT IT READS IS OF BULK AT MOST 1048576: true; the input reads as it did. -/
def rangeencNilUptoRow : OpenClaim := { program := "ytlbjoflmfboeeaa", sum := "a1602d37c6b726f0c6c60c87ca5eb30391f24e702055ae68a6cc1ed748cf6685", func := "sideband/sidebandlaw06.RangeencNil", spec := "rangeencNil", apart := false, narrowed := true }
def RangeencNilUptoSaid : Prop := rangeencNilUptoRow.holds Try.pinned (OpenSpec.upto rangeencNilSpec)

/-- 'sidebandlaw06.RangeencBytes', WHERE WHAT IT READS IS OF BULK AT MOST 1048576: true; the input reads as it did. -/
def rangeencBytesUptoRow : OpenClaim := { program := "ytlbjoflmfboeeaa", sum := "a1602d37c6b726f0c6c60c87ca5eb30391f24e702055ae68a6cc1ed748cf6685", func := "sideband/sidebandlaw06.RangeencBytes", spec := "rangeencBytes", apart := false, narrowed := true }
def RangeencBytesUptoSaid : Prop := rangeencBytesUptoRow.holds Try.pinned (OpenSpec.upto rangeencBytesSpec)

/-- 'sidebandlaw07.RangedecReads', WHERE WHAT IT READS IS OF BULK AT MOST 1048576: true; the input reads as it did. -/
def rangedecReadsUptoRow : OpenClaim := { program := "ytlbjoflmfboeeaa", sum := "a1602d37c6b726f0c6c60c87ca5eb30391f24e702055ae68a6cc1ed748cf6685", func := "sideband/sidebandlaw07.RangedecReads", spec := "rangedecReads", apart := false, narrowed := true }
def RangedecReadsUptoSaid : Prop := rangedecReadsUptoRow.holds Try.pinned (OpenSpec.upto rangedecReadsSpec)

/-- 'sidebandlaw07.RangedecNil', WHERE WHAT IT READS IS OF BULK AT MOST 1048576: true; the input reads as it did. -/
def rangedecNilUptoRow : OpenClaim := { program := "ytlbjoflmfboeeaa", sum := "a1602d37c6b726f0c6c60c87ca5eb30391f24e702055ae68a6cc1ed748cf6685", func := "sideband/sidebandlaw07.RangedecNil", spec := "rangedecNil", apart := false, narrowed := true }
def RangedecNilUptoSaid : Prop := rangedecNilUptoRow.holds Try.pinned (OpenSpec.upto rangedecNilSpec)

/-- 'sidebandlaw07.RangedecAgain', WHERE WHAT IT READS IS OF BULK AT MOST 1048576: true; the input reads as it did. -/
def rangedecAgainUptoRow : OpenClaim := { program := "ytlbjoflmfboeeaa", sum := "a1602d37c6b726f0c6c60c87ca5eb30391f24e702055ae68a6cc1ed748cf6685", func := "sideband/sidebandlaw07.RangedecAgain", spec := "rangedecAgain", apart := false, narrowed := true }
def RangedecAgainUptoSaid : Prop := rangedecAgainUptoRow.holds Try.pinned (OpenSpec.upto rangedecAgainSpec)

/-- 'sidebandlaw10.EnergyPuts', WHERE WHAT IT READS IS OF BULK AT MOST 1048576: true; the input reads as it did. -/
def energyPutsUptoRow : OpenClaim := { program := "ytlbjoflmfboeeaa", sum := "a1602d37c6b726f0c6c60c87ca5eb30391f24e702055ae68a6cc1ed748cf6685", func := "sideband/sidebandlaw10.EnergyPuts", spec := "energyPuts", apart := false, narrowed := true }
def EnergyPutsUptoSaid : Prop := energyPutsUptoRow.holds Try.pinned (OpenSpec.upto energyPutsSpec)

/-- 'sidebandlaw10.EnergyGets', WHERE WHAT IT READS IS OF BULK AT MOST 1048576: true; the input reads as it did. -/
def energyGetsUptoRow : OpenClaim := { program := "ytlbjoflmfboeeaa", sum := "a1602d37c6b726f0c6c60c87ca5eb30391f24e702055ae68a6cc1ed748cf6685", func := "sideband/sidebandlaw10.EnergyGets", spec := "energyGets", apart := false, narrowed := true }
def EnergyGetsUptoSaid : Prop := energyGetsUptoRow.holds Try.pinned (OpenSpec.upto energyGetsSpec)

/-- 'sidebandlaw10.EnergyArgs', WHERE WHAT IT READS IS OF BULK AT MOST 1048576: true; the input reads as it did. -/
def energyArgsUptoRow : OpenClaim := { program := "ytlbjoflmfboeeaa", sum := "a1602d37c6b726f0c6c60c87ca5eb30391f24e702055ae68a6cc1ed748cf6685", func := "sideband/sidebandlaw10.EnergyArgs", spec := "energyArgs", apart := false, narrowed := true }
def EnergyArgsUptoSaid : Prop := energyArgsUptoRow.holds Try.pinned (OpenSpec.upto energyArgsSpec)

/-- 'sidebandlaw12.QuantNear', WHERE WHAT IT READS IS OF BULK AT MOST 1048576: true; the input reads as it did. -/
def quantNearUptoRow : OpenClaim := { program := "ytlbjoflmfboeeaa", sum := "a1602d37c6b726f0c6c60c87ca5eb30391f24e702055ae68a6cc1ed748cf6685", func := "sideband/sidebandlaw12.QuantNear", spec := "quantNear", apart := false, narrowed := true }
def QuantNearUptoSaid : Prop := quantNearUptoRow.holds Try.pinned (OpenSpec.upto quantNearSpec)

/-- 'sidebandlaw12.QuantGets', WHERE WHAT IT READS IS OF BULK AT MOST 1048576: true; the input reads as it did. -/
def quantGetsUptoRow : OpenClaim := { program := "ytlbjoflmfboeeaa", sum := "a1602d37c6b726f0c6c60c87ca5eb30391f24e702055ae68a6cc1ed748cf6685", func := "sideband/sidebandlaw12.QuantGets", spec := "quantGets", apart := false, narrowed := true }
def QuantGetsUptoSaid : Prop := quantGetsUptoRow.holds Try.pinned (OpenSpec.upto quantGetsSpec)

/-- 'sidebandlaw12.QuantPuts', WHERE WHAT IT READS IS OF BULK AT MOST 1048576: true; the input reads as it did. -/
def quantPutsUptoRow : OpenClaim := { program := "ytlbjoflmfboeeaa", sum := "a1602d37c6b726f0c6c60c87ca5eb30391f24e702055ae68a6cc1ed748cf6685", func := "sideband/sidebandlaw12.QuantPuts", spec := "quantPuts", apart := false, narrowed := true }
def QuantPutsUptoSaid : Prop := quantPutsUptoRow.holds Try.pinned (OpenSpec.upto quantPutsSpec)

/-- 'sidebandlaw12.QuantArgs', WHERE WHAT IT READS IS OF BULK AT MOST 1048576: true; the input reads as it did. -/
def quantArgsUptoRow : OpenClaim := { program := "ytlbjoflmfboeeaa", sum := "a1602d37c6b726f0c6c60c87ca5eb30391f24e702055ae68a6cc1ed748cf6685", func := "sideband/sidebandlaw12.QuantArgs", spec := "quantArgs", apart := false, narrowed := true }
def QuantArgsUptoSaid : Prop := quantArgsUptoRow.holds Try.pinned (OpenSpec.upto quantArgsSpec)

end Rows
end Go.Proofs.Ytlbjoflmfboeeaa
