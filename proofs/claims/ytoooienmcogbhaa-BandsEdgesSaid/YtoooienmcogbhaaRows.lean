/-
  No cell of these rows narrows 'for every input' (looked for: loops, veiled, ifaces, maps, wideKeys, modest, calm, conditions, laid).
  DERIVED. THE GIVEN ROWS OF THIS SEAT. 12 by the template 'for every input the law returns true; each argument reads behind the call as it read before'; 0 by the template 'total and deterministic' (their statements: YtoooienmcogbhaaTotals.lean).
  GIVEN WITH THE SEED: the statements are not yours to turn. If you find one false, say at which input.
  Laid BY PROGRAM, IN A SANDBOX (cutbox-rows.mjs): the forced cells as the released guide's own fill.sh prints them over the translation 5227b631053a19d3… (all of the seat's roots in one cut). By AI agents, Wed Nov 11 2026. No macro, syntax, notation, axiom, sorry.
-/
import Derived.Test.YtoooienmcogbhaaChecked
import GoSem.Claim
import GoSem.ClaimJoined
import GoSem.ClaimMapViews
import Derived.JoinedTies
import Derived.KernelRfl
namespace Go.Proofs.Ytoooienmcogbhaa
/- THE CELL 'sum', in the pinned program and in every row, IS THE sha256 OF THE DUMP (.gsa) THAT YtoooienmcogbhaaProg.lean LOADS. Nothing in Lean hashes anything: it is a label: what it is worth is what the hold of that sum in a sandbox is worth. -/
noncomputable def Try.pinned : Pinned := { name := "ytoooienmcogbhaa", sum := "5227b631053a19d351a236405b2bc24a043a2b06972f87f3b514c4b178ef4bbf", checked := Try.checked }
namespace Rows
def none {H : Type} : Left H := { results := [], args := [] }

/-- 'sidebandlaw03.CheckFinds': WHATEVER THE INPUT: true; the input reads as it did. -/
def checkFindsSpec : ChangeSpec := { name := "checkFinds", fn := fun _ => fun
  | [d1, d2, d3] => { results := [.lit (.bool true)], args := [d1, d2, d3] }
  | _ => none }
def checkFindsRow : OpenClaim := { program := "ytoooienmcogbhaa", sum := "5227b631053a19d351a236405b2bc24a043a2b06972f87f3b514c4b178ef4bbf", func := "sideband/sidebandlaw03.CheckFinds", spec := "checkFinds", apart := false }
def CheckFindsSaid : Prop := checkFindsRow.holds Try.pinned (OpenSpec.ofChange checkFindsSpec)

/-- ITS FALSE NEIGHBOUR: 'it returns false'. Refute it at one input. -/
def checkFindsWrong : ChangeSpec := { name := "checkFinds", fn := fun _ => fun
  | [d1, d2, d3] => { results := [.lit (.bool false)], args := [d1, d2, d3] }
  | _ => none }
def CheckFindsWrongFalsely : Prop := checkFindsRow.holds Try.pinned (OpenSpec.ofChange checkFindsWrong)

/-- 'sidebandlaw03.CheckSums': WHATEVER THE INPUT: true; the input reads as it did. -/
def checkSumsSpec : ChangeSpec := { name := "checkSums", fn := fun _ => fun
  | [d] => { results := [.lit (.bool true)], args := [d] }
  | _ => none }
def checkSumsRow : OpenClaim := { program := "ytoooienmcogbhaa", sum := "5227b631053a19d351a236405b2bc24a043a2b06972f87f3b514c4b178ef4bbf", func := "sideband/sidebandlaw03.CheckSums", spec := "checkSums", apart := false }
def CheckSumsSaid : Prop := checkSumsRow.holds Try.pinned (OpenSpec.ofChange checkSumsSpec)

/-- ITS FALSE NEIGHBOUR: 'it returns false'. Refute it at one input. -/
def checkSumsWrong : ChangeSpec := { name := "checkSums", fn := fun _ => fun
  | [d] => { results := [.lit (.bool false)], args := [d] }
  | _ => none }
def CheckSumsWrongFalsely : Prop := checkSumsRow.holds Try.pinned (OpenSpec.ofChange checkSumsWrong)

/-- 'sidebandlaw01.ArithRoots': WHATEVER THE INPUT: true; the input reads as it did. -/
def arithRootsSpec : ChangeSpec := { name := "arithRoots", fn := fun _ => fun
  | [d1, d2] => { results := [.lit (.bool true)], args := [d1, d2] }
  | _ => none }
def arithRootsRow : OpenClaim := { program := "ytoooienmcogbhaa", sum := "5227b631053a19d351a236405b2bc24a043a2b06972f87f3b514c4b178ef4bbf", func := "sideband/sidebandlaw01.ArithRoots", spec := "arithRoots", apart := false }
def ArithRootsSaid : Prop := arithRootsRow.holds Try.pinned (OpenSpec.ofChange arithRootsSpec)

/-- ITS FALSE NEIGHBOUR: 'it returns false'. Refute it at one input. -/
def arithRootsWrong : ChangeSpec := { name := "arithRoots", fn := fun _ => fun
  | [d1, d2] => { results := [.lit (.bool false)], args := [d1, d2] }
  | _ => none }
def ArithRootsWrongFalsely : Prop := arithRootsRow.holds Try.pinned (OpenSpec.ofChange arithRootsWrong)

/-- 'sidebandlaw10.EnergyCeilings': WHATEVER THE INPUT: true; the input reads as it did. -/
def energyCeilingsSpec : ChangeSpec := { name := "energyCeilings", fn := fun _ => fun
  | [d1, d2] => { results := [.lit (.bool true)], args := [d1, d2] }
  | _ => none }
def energyCeilingsRow : OpenClaim := { program := "ytoooienmcogbhaa", sum := "5227b631053a19d351a236405b2bc24a043a2b06972f87f3b514c4b178ef4bbf", func := "sideband/sidebandlaw10.EnergyCeilings", spec := "energyCeilings", apart := false }
def EnergyCeilingsSaid : Prop := energyCeilingsRow.holds Try.pinned (OpenSpec.ofChange energyCeilingsSpec)

/-- ITS FALSE NEIGHBOUR: 'it returns false'. Refute it at one input. -/
def energyCeilingsWrong : ChangeSpec := { name := "energyCeilings", fn := fun _ => fun
  | [d1, d2] => { results := [.lit (.bool false)], args := [d1, d2] }
  | _ => none }
def EnergyCeilingsWrongFalsely : Prop := energyCeilingsRow.holds Try.pinned (OpenSpec.ofChange energyCeilingsWrong)

/-- 'sidebandlaw01.ArithRounds': WHATEVER THE INPUT: true; the input reads as it did. -/
def arithRoundsSpec : ChangeSpec := { name := "arithRounds", fn := fun _ => fun
  | [d1, d2, d3] => { results := [.lit (.bool true)], args := [d1, d2, d3] }
  | _ => none }
def arithRoundsRow : OpenClaim := { program := "ytoooienmcogbhaa", sum := "5227b631053a19d351a236405b2bc24a043a2b06972f87f3b514c4b178ef4bbf", func := "sideband/sidebandlaw01.ArithRounds", spec := "arithRounds", apart := false }
def ArithRoundsSaid : Prop := arithRoundsRow.holds Try.pinned (OpenSpec.ofChange arithRoundsSpec)

/-- ITS FALSE NEIGHBOUR: 'it returns false'. Refute it at one input. -/
def arithRoundsWrong : ChangeSpec := { name := "arithRounds", fn := fun _ => fun
  | [d1, d2, d3] => { results := [.lit (.bool false)], args := [d1, d2, d3] }
  | _ => none }
def ArithRoundsWrongFalsely : Prop := arithRoundsRow.holds Try.pinned (OpenSpec.ofChange arithRoundsWrong)

/-- 'sidebandlaw01.ArithHolds': WHATEVER THE INPUT: true; the input reads as it did. -/
def arithHoldsSpec : ChangeSpec := { name := "arithHolds", fn := fun _ => fun
  | [d1, d2, d3] => { results := [.lit (.bool true)], args := [d1, d2, d3] }
  | _ => none }
def arithHoldsRow : OpenClaim := { program := "ytoooienmcogbhaa", sum := "5227b631053a19d351a236405b2bc24a043a2b06972f87f3b514c4b178ef4bbf", func := "sideband/sidebandlaw01.ArithHolds", spec := "arithHolds", apart := false }
def ArithHoldsSaid : Prop := arithHoldsRow.holds Try.pinned (OpenSpec.ofChange arithHoldsSpec)

/-- ITS FALSE NEIGHBOUR: 'it returns false'. Refute it at one input. -/
def arithHoldsWrong : ChangeSpec := { name := "arithHolds", fn := fun _ => fun
  | [d1, d2, d3] => { results := [.lit (.bool false)], args := [d1, d2, d3] }
  | _ => none }
def ArithHoldsWrongFalsely : Prop := arithHoldsRow.holds Try.pinned (OpenSpec.ofChange arithHoldsWrong)

/-- 'sidebandlaw04.BandsCircle': WHATEVER THE INPUT: true; the input reads as it did. -/
def bandsCircleSpec : ChangeSpec := { name := "bandsCircle", fn := fun _ => fun
  | [d1, d2] => { results := [.lit (.bool true)], args := [d1, d2] }
  | _ => none }
def bandsCircleRow : OpenClaim := { program := "ytoooienmcogbhaa", sum := "5227b631053a19d351a236405b2bc24a043a2b06972f87f3b514c4b178ef4bbf", func := "sideband/sidebandlaw04.BandsCircle", spec := "bandsCircle", apart := false }
def BandsCircleSaid : Prop := bandsCircleRow.holds Try.pinned (OpenSpec.ofChange bandsCircleSpec)

/-- ITS FALSE NEIGHBOUR: 'it returns false'. Refute it at one input. -/
def bandsCircleWrong : ChangeSpec := { name := "bandsCircle", fn := fun _ => fun
  | [d1, d2] => { results := [.lit (.bool false)], args := [d1, d2] }
  | _ => none }
def BandsCircleWrongFalsely : Prop := bandsCircleRow.holds Try.pinned (OpenSpec.ofChange bandsCircleWrong)

/-- 'sidebandlaw04.BandsRules': WHATEVER THE INPUT: true; the input reads as it did. -/
def bandsRulesSpec : ChangeSpec := { name := "bandsRules", fn := fun _ => fun
  | [d] => { results := [.lit (.bool true)], args := [d] }
  | _ => none }
def bandsRulesRow : OpenClaim := { program := "ytoooienmcogbhaa", sum := "5227b631053a19d351a236405b2bc24a043a2b06972f87f3b514c4b178ef4bbf", func := "sideband/sidebandlaw04.BandsRules", spec := "bandsRules", apart := false }
def BandsRulesSaid : Prop := bandsRulesRow.holds Try.pinned (OpenSpec.ofChange bandsRulesSpec)

/-- ITS FALSE NEIGHBOUR: 'it returns false'. Refute it at one input. -/
def bandsRulesWrong : ChangeSpec := { name := "bandsRules", fn := fun _ => fun
  | [d] => { results := [.lit (.bool false)], args := [d] }
  | _ => none }
def BandsRulesWrongFalsely : Prop := bandsRulesRow.holds Try.pinned (OpenSpec.ofChange bandsRulesWrong)

/-- 'sidebandlaw04.BandsEdges': WHATEVER THE INPUT: true; the input reads as it did. -/
def bandsEdgesSpec : ChangeSpec := { name := "bandsEdges", fn := fun _ => fun
  | [d] => { results := [.lit (.bool true)], args := [d] }
  | _ => none }
def bandsEdgesRow : OpenClaim := { program := "ytoooienmcogbhaa", sum := "5227b631053a19d351a236405b2bc24a043a2b06972f87f3b514c4b178ef4bbf", func := "sideband/sidebandlaw04.BandsEdges", spec := "bandsEdges", apart := false }
def BandsEdgesSaid : Prop := bandsEdgesRow.holds Try.pinned (OpenSpec.ofChange bandsEdgesSpec)

/-- ITS FALSE NEIGHBOUR: 'it returns false'. Refute it at one input. -/
def bandsEdgesWrong : ChangeSpec := { name := "bandsEdges", fn := fun _ => fun
  | [d] => { results := [.lit (.bool false)], args := [d] }
  | _ => none }
def BandsEdgesWrongFalsely : Prop := bandsEdgesRow.holds Try.pinned (OpenSpec.ofChange bandsEdgesWrong)

/-- 'sidebandlaw02.LogsPowers': WHATEVER THE INPUT: true; the input reads as it did. -/
def logsPowersSpec : ChangeSpec := { name := "logsPowers", fn := fun _ => fun
  | [d1, d2] => { results := [.lit (.bool true)], args := [d1, d2] }
  | _ => none }
def logsPowersRow : OpenClaim := { program := "ytoooienmcogbhaa", sum := "5227b631053a19d351a236405b2bc24a043a2b06972f87f3b514c4b178ef4bbf", func := "sideband/sidebandlaw02.LogsPowers", spec := "logsPowers", apart := false }
def LogsPowersSaid : Prop := logsPowersRow.holds Try.pinned (OpenSpec.ofChange logsPowersSpec)

/-- ITS FALSE NEIGHBOUR: 'it returns false'. Refute it at one input. -/
def logsPowersWrong : ChangeSpec := { name := "logsPowers", fn := fun _ => fun
  | [d1, d2] => { results := [.lit (.bool false)], args := [d1, d2] }
  | _ => none }
def LogsPowersWrongFalsely : Prop := logsPowersRow.holds Try.pinned (OpenSpec.ofChange logsPowersWrong)

/-- 'sidebandlaw02.LogsRise': WHATEVER THE INPUT: true; the input reads as it did. -/
def logsRiseSpec : ChangeSpec := { name := "logsRise", fn := fun _ => fun
  | [d1, d2] => { results := [.lit (.bool true)], args := [d1, d2] }
  | _ => none }
def logsRiseRow : OpenClaim := { program := "ytoooienmcogbhaa", sum := "5227b631053a19d351a236405b2bc24a043a2b06972f87f3b514c4b178ef4bbf", func := "sideband/sidebandlaw02.LogsRise", spec := "logsRise", apart := false }
def LogsRiseSaid : Prop := logsRiseRow.holds Try.pinned (OpenSpec.ofChange logsRiseSpec)

/-- ITS FALSE NEIGHBOUR: 'it returns false'. Refute it at one input. -/
def logsRiseWrong : ChangeSpec := { name := "logsRise", fn := fun _ => fun
  | [d1, d2] => { results := [.lit (.bool false)], args := [d1, d2] }
  | _ => none }
def LogsRiseWrongFalsely : Prop := logsRiseRow.holds Try.pinned (OpenSpec.ofChange logsRiseWrong)

/-- 'sidebandlaw02.LogsSums': WHATEVER THE INPUT: true; the input reads as it did. -/
def logsSumsSpec : ChangeSpec := { name := "logsSums", fn := fun _ => fun
  | [d] => { results := [.lit (.bool true)], args := [d] }
  | _ => none }
def logsSumsRow : OpenClaim := { program := "ytoooienmcogbhaa", sum := "5227b631053a19d351a236405b2bc24a043a2b06972f87f3b514c4b178ef4bbf", func := "sideband/sidebandlaw02.LogsSums", spec := "logsSums", apart := false }
def LogsSumsSaid : Prop := logsSumsRow.holds Try.pinned (OpenSpec.ofChange logsSumsSpec)

/-- ITS FALSE NEIGHBOUR: 'it returns false'. Refute it at one input. -/
def logsSumsWrong : ChangeSpec := { name := "logsSums", fn := fun _ => fun
  | [d] => { results := [.lit (.bool false)], args := [d] }
  | _ => none }
def LogsSumsWrongFalsely : Prop := logsSumsRow.holds Try.pinned (OpenSpec.ofChange logsSumsWrong)

/- THE SECOND FORM. 'bulk': how many values and letters a reading holds, each counted each time it is reached (what is shared counts as often as it is met; a slice's spare places count too). A statement '..UptoSaid' is the law's where the arguments, and the package variables that the reading takes, are together of bulk at most 1048576: NARROWER than '..Said'. Prove '..Said' where nothing that the law and all that it calls make is longer than what came in: it says more and counts as full. Else prove '..UptoSaid'. A law counts once. -/
mutual
def uptoBulk {H : Type} : DataW H → Nat
  | .lit (.string bytes) => bytes.length + 1
  | .lit _ => 1
  | .nil => 1
  | .ptr d => uptoBulk d + 1
  | .slice elems spare => uptoBulkAll elems + uptoBulkAll spare + 1
  | .agg parts => uptoBulkAll parts + 1
  | .iface _ d => uptoBulk d + 1
  | .map entries => uptoBulkEntries entries + 1
  | .held _ => 1
def uptoBulkAll {H : Type} : List (DataW H) → Nat
  | [] => 0
  | d :: r => uptoBulk d + uptoBulkAll r
def uptoBulkEntries {H : Type} : List (Lit × DataW H) → Nat
  | [] => 0
  | x :: r => uptoBulkEntry x + uptoBulkEntries r
def uptoBulkEntry {H : Type} : Lit × DataW H → Nat
  | (.string bytes, d) => bytes.length + uptoBulk d + 1
  | (_, d) => uptoBulk d + 1
 end
def uptoSmall : (H : Type) → List (DataW H) → Bool := fun _ ds => decide (uptoBulkAll ds ≤ 1048576)
def OpenSpec.upto (s : _root_.Go.ChangeSpec) : _root_.Go.OpenSpec := { _root_.Go.OpenSpec.ofChange s with cond := some uptoSmall }

/-- 'sidebandlaw03.CheckFinds', WHERE WHAT IT READS IS OF BULK AT MOST 1048576: true; the input reads as it did. -/
def checkFindsUptoRow : OpenClaim := { program := "ytoooienmcogbhaa", sum := "5227b631053a19d351a236405b2bc24a043a2b06972f87f3b514c4b178ef4bbf", func := "sideband/sidebandlaw03.CheckFinds", spec := "checkFinds", apart := false, narrowed := true }
def CheckFindsUptoSaid : Prop := checkFindsUptoRow.holds Try.pinned (OpenSpec.upto checkFindsSpec)

/-- 'sidebandlaw03.CheckSums', WHERE WHAT IT READS IS OF BULK AT MOST 1048576: true; the input reads as it did. -/
def checkSumsUptoRow : OpenClaim := { program := "ytoooienmcogbhaa", sum := "5227b631053a19d351a236405b2bc24a043a2b06972f87f3b514c4b178ef4bbf", func := "sideband/sidebandlaw03.CheckSums", spec := "checkSums", apart := false, narrowed := true }
def CheckSumsUptoSaid : Prop := checkSumsUptoRow.holds Try.pinned (OpenSpec.upto checkSumsSpec)

/-- 'sidebandlaw01.ArithRoots', WHERE WHAT IT READS IS OF BULK AT MOST 1048576: true; the input reads as it did. -/
def arithRootsUptoRow : OpenClaim := { program := "ytoooienmcogbhaa", sum := "5227b631053a19d351a236405b2bc24a043a2b06972f87f3b514c4b178ef4bbf", func := "sideband/sidebandlaw01.ArithRoots", spec := "arithRoots", apart := false, narrowed := true }
def ArithRootsUptoSaid : Prop := arithRootsUptoRow.holds Try.pinned (OpenSpec.upto arithRootsSpec)

/-- 'sidebandlaw10.EnergyCeilings', WHERE WHAT IT READS IS OF BULK AT MOST 1048576: true; the input reads as it did. -/
def energyCeilingsUptoRow : OpenClaim := { program := "ytoooienmcogbhaa", sum := "5227b631053a19d351a236405b2bc24a043a2b06972f87f3b514c4b178ef4bbf", func := "sideband/sidebandlaw10.EnergyCeilings", spec := "energyCeilings", apart := false, narrowed := true }
def EnergyCeilingsUptoSaid : Prop := energyCeilingsUptoRow.holds Try.pinned (OpenSpec.upto energyCeilingsSpec)

/-- 'sidebandlaw01.ArithRounds', WHERE WHAT IT READS IS OF BULK AT MOST 1048576: true; the input reads as it did. -/
def arithRoundsUptoRow : OpenClaim := { program := "ytoooienmcogbhaa", sum := "5227b631053a19d351a236405b2bc24a043a2b06972f87f3b514c4b178ef4bbf", func := "sideband/sidebandlaw01.ArithRounds", spec := "arithRounds", apart := false, narrowed := true }
def ArithRoundsUptoSaid : Prop := arithRoundsUptoRow.holds Try.pinned (OpenSpec.upto arithRoundsSpec)

/-- 'sidebandlaw01.ArithHolds', WHERE WHAT IT READS IS OF BULK AT MOST 1048576: true; the input reads as it did. -/
def arithHoldsUptoRow : OpenClaim := { program := "ytoooienmcogbhaa", sum := "5227b631053a19d351a236405b2bc24a043a2b06972f87f3b514c4b178ef4bbf", func := "sideband/sidebandlaw01.ArithHolds", spec := "arithHolds", apart := false, narrowed := true }
def ArithHoldsUptoSaid : Prop := arithHoldsUptoRow.holds Try.pinned (OpenSpec.upto arithHoldsSpec)

/-- 'sidebandlaw04.BandsCircle', WHERE WHAT IT READS IS OF BULK AT MOST 1048576: true; the input reads as it did. -/
def bandsCircleUptoRow : OpenClaim := { program := "ytoooienmcogbhaa", sum := "5227b631053a19d351a236405b2bc24a043a2b06972f87f3b514c4b178ef4bbf", func := "sideband/sidebandlaw04.BandsCircle", spec := "bandsCircle", apart := false, narrowed := true }
def BandsCircleUptoSaid : Prop := bandsCircleUptoRow.holds Try.pinned (OpenSpec.upto bandsCircleSpec)

/-- 'sidebandlaw04.BandsRules', WHERE WHAT IT READS IS OF BULK AT MOST 1048576: true; the input reads as it did. -/
def bandsRulesUptoRow : OpenClaim := { program := "ytoooienmcogbhaa", sum := "5227b631053a19d351a236405b2bc24a043a2b06972f87f3b514c4b178ef4bbf", func := "sideband/sidebandlaw04.BandsRules", spec := "bandsRules", apart := false, narrowed := true }
def BandsRulesUptoSaid : Prop := bandsRulesUptoRow.holds Try.pinned (OpenSpec.upto bandsRulesSpec)

/-- 'sidebandlaw04.BandsEdges', WHERE WHAT IT READS IS OF BULK AT MOST 1048576: true; the input reads as it did. -/
def bandsEdgesUptoRow : OpenClaim := { program := "ytoooienmcogbhaa", sum := "5227b631053a19d351a236405b2bc24a043a2b06972f87f3b514c4b178ef4bbf", func := "sideband/sidebandlaw04.BandsEdges", spec := "bandsEdges", apart := false, narrowed := true }
def BandsEdgesUptoSaid : Prop := bandsEdgesUptoRow.holds Try.pinned (OpenSpec.upto bandsEdgesSpec)

/-- 'sidebandlaw02.LogsPowers', WHERE WHAT IT READS IS OF BULK AT MOST 1048576: true; the input reads as it did. -/
def logsPowersUptoRow : OpenClaim := { program := "ytoooienmcogbhaa", sum := "5227b631053a19d351a236405b2bc24a043a2b06972f87f3b514c4b178ef4bbf", func := "sideband/sidebandlaw02.LogsPowers", spec := "logsPowers", apart := false, narrowed := true }
def LogsPowersUptoSaid : Prop := logsPowersUptoRow.holds Try.pinned (OpenSpec.upto logsPowersSpec)

/-- 'sidebandlaw02.LogsRise', WHERE WHAT IT READS IS OF BULK AT MOST 1048576: true; the input reads as it did. -/
def logsRiseUptoRow : OpenClaim := { program := "ytoooienmcogbhaa", sum := "5227b631053a19d351a236405b2bc24a043a2b06972f87f3b514c4b178ef4bbf", func := "sideband/sidebandlaw02.LogsRise", spec := "logsRise", apart := false, narrowed := true }
def LogsRiseUptoSaid : Prop := logsRiseUptoRow.holds Try.pinned (OpenSpec.upto logsRiseSpec)

/-- 'sidebandlaw02.LogsSums', WHERE WHAT IT READS IS OF BULK AT MOST 1048576: true; the input reads as it did. -/
def logsSumsUptoRow : OpenClaim := { program := "ytoooienmcogbhaa", sum := "5227b631053a19d351a236405b2bc24a043a2b06972f87f3b514c4b178ef4bbf", func := "sideband/sidebandlaw02.LogsSums", spec := "logsSums", apart := false, narrowed := true }
def LogsSumsUptoSaid : Prop := logsSumsUptoRow.holds Try.pinned (OpenSpec.upto logsSumsSpec)

end Rows
end Go.Proofs.Ytoooienmcogbhaa
