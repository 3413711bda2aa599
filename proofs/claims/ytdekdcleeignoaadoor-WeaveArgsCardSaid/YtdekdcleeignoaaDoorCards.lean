/-
  DERIVED. GIVEN WITH THE SEED: THE CARDS: each row of YtdekdcleeignoaaDoorRows.lean that lists a variable, with what it lists TIED to the program's text (the seventh form; the later family's looks); each row that meets fmt, with fmt's text TOLD by the authors' own Lean function (tested against real Go, not proved from fmt's source: count such statements apart). THE CARD IS WHAT COUNTS. Prove the row's statement (the work); the ties are given (YtdekdcleeignoaaDoorTie.lean); close each card by the builder's one call (the guide's Derived/Test/ToyasCard.lean, 'card_holds'). Laid BY PROGRAM, IN A SANDBOX (cutbox-door.mjs). By AI agents, Wed Nov 11 2026. No macro, syntax, notation, axiom, sorry.
-/
import Derived.Test.YtdekdcleeignoaaDoorRows
import GoSem.ClaimSeven
namespace Go.Proofs.YtdekdcleeignoaaDoor
namespace Rows

/-- THE TIED CARD OF 'sidebandlaw20.WeaveWeaves'. -/
def weaveWeavesCard : Claim7 := { stood := { row := weaveWeavesRow, standIns := [], harness := (true, "6b6d87b738572606d29bc016529606974da4a86e811dbbdb8fc40bba7ce79e5b"), looks := true }, kinds := [], alts := [], laidByText := true, laidKinds := [.data, .pinned], laidTests := true, laidLooks := .later }
def WeaveWeavesCardSaid : Prop := Claim7.holds Tryd.pinned (.plain (OpenSpec.ofChange weaveWeavesSpec)) weaveWeavesCard

/-- THE TIED CARD OF 'sidebandlaw20.WeaveAgain'. -/
def weaveAgainCard : Claim7 := { stood := { row := weaveAgainRow, standIns := [], harness := (true, "6b6d87b738572606d29bc016529606974da4a86e811dbbdb8fc40bba7ce79e5b"), looks := true }, kinds := [], alts := [], laidByText := true, laidKinds := [.data, .pinned], laidTests := true, laidLooks := .later }
def WeaveAgainCardSaid : Prop := Claim7.holds Tryd.pinned (.plain (OpenSpec.ofChange weaveAgainSpec)) weaveAgainCard

/-- THE TIED CARD OF 'sidebandlaw20.WeaveArgs'. -/
def weaveArgsCard : Claim7 := { stood := { row := weaveArgsRow, standIns := [], harness := (true, "6b6d87b738572606d29bc016529606974da4a86e811dbbdb8fc40bba7ce79e5b"), looks := true }, kinds := [], alts := [], laidByText := true, laidKinds := [.data, .pinned], laidTests := true, laidLooks := .later }
def WeaveArgsCardSaid : Prop := Claim7.holds Tryd.pinned (.plain (OpenSpec.ofChange weaveArgsSpec)) weaveArgsCard

/-- THE TIED CARD OF 'sidebandlaw20.WeaveParts'. -/
def weavePartsCard : Claim7 := { stood := { row := weavePartsRow, standIns := [], harness := (true, "6b6d87b738572606d29bc016529606974da4a86e811dbbdb8fc40bba7ce79e5b"), looks := true }, kinds := [], alts := [], laidByText := true, laidKinds := [.data, .pinned], laidTests := true, laidLooks := .later }
def WeavePartsCardSaid : Prop := Claim7.holds Tryd.pinned (.plain (OpenSpec.ofChange weavePartsSpec)) weavePartsCard

/-- THE TIED CARD OF 'sidebandlaw16.WordNumbers'. -/
def wordNumbersCard : Claim7 := { stood := { row := wordNumbersRow, standIns := [], harness := (true, "6b6d87b738572606d29bc016529606974da4a86e811dbbdb8fc40bba7ce79e5b"), looks := true }, kinds := [], alts := [], laidByText := true, laidKinds := [.data, .pinned], laidTests := true, laidLooks := .later }
def WordNumbersCardSaid : Prop := Claim7.holds Tryd.pinned (.plain (OpenSpec.ofChange wordNumbersSpec)) wordNumbersCard

/-- THE TIED CARD OF 'sidebandlaw16.WordRules'. -/
def wordRulesCard : Claim7 := { stood := { row := wordRulesRow, standIns := [], harness := (true, "6b6d87b738572606d29bc016529606974da4a86e811dbbdb8fc40bba7ce79e5b"), looks := true }, kinds := [], alts := [], laidByText := true, laidKinds := [.data, .pinned], laidTests := true, laidLooks := .later }
def WordRulesCardSaid : Prop := Claim7.holds Tryd.pinned (.plain (OpenSpec.ofChange wordRulesSpec)) wordRulesCard

/-- THE TIED CARD OF 'sidebandlaw16.WordTexts'. -/
def wordTextsCard : Claim7 := { stood := { row := wordTextsRow, standIns := [], harness := (true, "6b6d87b738572606d29bc016529606974da4a86e811dbbdb8fc40bba7ce79e5b"), looks := true }, kinds := [], alts := [], laidByText := true, laidKinds := [.data, .pinned], laidTests := true, laidLooks := .later }
def WordTextsCardSaid : Prop := Claim7.holds Tryd.pinned (.plain (OpenSpec.ofChange wordTextsSpec)) wordTextsCard

/-- THE TIED CARD OF 'sidebandlaw16.WordSeals'. -/
def wordSealsCard : Claim7 := { stood := { row := wordSealsRow, standIns := [], harness := (true, "6b6d87b738572606d29bc016529606974da4a86e811dbbdb8fc40bba7ce79e5b"), looks := true }, kinds := [], alts := [], laidByText := true, laidKinds := [.data, .pinned], laidTests := true, laidLooks := .later }
def WordSealsCardSaid : Prop := Claim7.holds Tryd.pinned (.plain (OpenSpec.ofChange wordSealsSpec)) wordSealsCard

/-- THE TIED CARD OF 'sidebandlaw18.ReplyCodes'. -/
def replyCodesCard : Claim7 := { stood := { row := replyCodesRow, standIns := [], harness := (true, "6b6d87b738572606d29bc016529606974da4a86e811dbbdb8fc40bba7ce79e5b"), looks := true }, kinds := [], alts := [], laidByText := true, laidKinds := [.data, .data, .data, .data, .pinned], laidTests := true, laidLooks := .later }
def ReplyCodesCardSaid : Prop := Claim7.holds Tryd.pinned (.plain (OpenSpec.ofChange replyCodesSpec)) replyCodesCard

/-- THE SECOND FORM's CARD OF 'sidebandlaw20.WeaveWeaves'. -/
def weaveWeavesUptoCard : Claim7 := { stood := { row := weaveWeavesUptoRow, standIns := [], harness := (true, "6b6d87b738572606d29bc016529606974da4a86e811dbbdb8fc40bba7ce79e5b"), looks := true }, kinds := [], alts := [], laidByText := true, laidKinds := [.data, .pinned], laidTests := true, laidLooks := .later }
def WeaveWeavesUptoCardSaid : Prop := Claim7.holds Tryd.pinned (.plain (OpenSpec.upto weaveWeavesSpec)) weaveWeavesUptoCard

/-- THE SECOND FORM's CARD OF 'sidebandlaw20.WeaveAgain'. -/
def weaveAgainUptoCard : Claim7 := { stood := { row := weaveAgainUptoRow, standIns := [], harness := (true, "6b6d87b738572606d29bc016529606974da4a86e811dbbdb8fc40bba7ce79e5b"), looks := true }, kinds := [], alts := [], laidByText := true, laidKinds := [.data, .pinned], laidTests := true, laidLooks := .later }
def WeaveAgainUptoCardSaid : Prop := Claim7.holds Tryd.pinned (.plain (OpenSpec.upto weaveAgainSpec)) weaveAgainUptoCard

/-- THE SECOND FORM's CARD OF 'sidebandlaw20.WeaveArgs'. -/
def weaveArgsUptoCard : Claim7 := { stood := { row := weaveArgsUptoRow, standIns := [], harness := (true, "6b6d87b738572606d29bc016529606974da4a86e811dbbdb8fc40bba7ce79e5b"), looks := true }, kinds := [], alts := [], laidByText := true, laidKinds := [.data, .pinned], laidTests := true, laidLooks := .later }
def WeaveArgsUptoCardSaid : Prop := Claim7.holds Tryd.pinned (.plain (OpenSpec.upto weaveArgsSpec)) weaveArgsUptoCard

/-- THE SECOND FORM's CARD OF 'sidebandlaw20.WeaveParts'. -/
def weavePartsUptoCard : Claim7 := { stood := { row := weavePartsUptoRow, standIns := [], harness := (true, "6b6d87b738572606d29bc016529606974da4a86e811dbbdb8fc40bba7ce79e5b"), looks := true }, kinds := [], alts := [], laidByText := true, laidKinds := [.data, .pinned], laidTests := true, laidLooks := .later }
def WeavePartsUptoCardSaid : Prop := Claim7.holds Tryd.pinned (.plain (OpenSpec.upto weavePartsSpec)) weavePartsUptoCard

/-- THE SECOND FORM's CARD OF 'sidebandlaw16.WordNumbers'. -/
def wordNumbersUptoCard : Claim7 := { stood := { row := wordNumbersUptoRow, standIns := [], harness := (true, "6b6d87b738572606d29bc016529606974da4a86e811dbbdb8fc40bba7ce79e5b"), looks := true }, kinds := [], alts := [], laidByText := true, laidKinds := [.data, .pinned], laidTests := true, laidLooks := .later }
def WordNumbersUptoCardSaid : Prop := Claim7.holds Tryd.pinned (.plain (OpenSpec.upto wordNumbersSpec)) wordNumbersUptoCard

/-- THE SECOND FORM's CARD OF 'sidebandlaw16.WordRules'. -/
def wordRulesUptoCard : Claim7 := { stood := { row := wordRulesUptoRow, standIns := [], harness := (true, "6b6d87b738572606d29bc016529606974da4a86e811dbbdb8fc40bba7ce79e5b"), looks := true }, kinds := [], alts := [], laidByText := true, laidKinds := [.data, .pinned], laidTests := true, laidLooks := .later }
def WordRulesUptoCardSaid : Prop := Claim7.holds Tryd.pinned (.plain (OpenSpec.upto wordRulesSpec)) wordRulesUptoCard

/-- THE SECOND FORM's CARD OF 'sidebandlaw16.WordTexts'. -/
def wordTextsUptoCard : Claim7 := { stood := { row := wordTextsUptoRow, standIns := [], harness := (true, "6b6d87b738572606d29bc016529606974da4a86e811dbbdb8fc40bba7ce79e5b"), looks := true }, kinds := [], alts := [], laidByText := true, laidKinds := [.data, .pinned], laidTests := true, laidLooks := .later }
def WordTextsUptoCardSaid : Prop := Claim7.holds Tryd.pinned (.plain (OpenSpec.upto wordTextsSpec)) wordTextsUptoCard

/-- THE SECOND FORM's CARD OF 'sidebandlaw16.WordSeals'. -/
def wordSealsUptoCard : Claim7 := { stood := { row := wordSealsUptoRow, standIns := [], harness := (true, "6b6d87b738572606d29bc016529606974da4a86e811dbbdb8fc40bba7ce79e5b"), looks := true }, kinds := [], alts := [], laidByText := true, laidKinds := [.data, .pinned], laidTests := true, laidLooks := .later }
def WordSealsUptoCardSaid : Prop := Claim7.holds Tryd.pinned (.plain (OpenSpec.upto wordSealsSpec)) wordSealsUptoCard

/-- THE SECOND FORM's CARD OF 'sidebandlaw18.ReplyCodes'. -/
def replyCodesUptoCard : Claim7 := { stood := { row := replyCodesUptoRow, standIns := [], harness := (true, "6b6d87b738572606d29bc016529606974da4a86e811dbbdb8fc40bba7ce79e5b"), looks := true }, kinds := [], alts := [], laidByText := true, laidKinds := [.data, .data, .data, .data, .pinned], laidTests := true, laidLooks := .later }
def ReplyCodesUptoCardSaid : Prop := Claim7.holds Tryd.pinned (.plain (OpenSpec.upto replyCodesSpec)) replyCodesUptoCard
end Rows
end Go.Proofs.YtdekdcleeignoaaDoor
