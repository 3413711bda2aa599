/-
  NARROWER THAN 'FOR EVERY INPUT', by the rows' own cells (each row's printed sentence says how): WeaveWeaves: laid · WeaveAgain: laid · WeaveArgs: laid · WeaveParts: laid · WordNumbers: laid · WordRules: laid · WordTexts: laid · WordSeals: laid · ReplyCodes: laid.
  DERIVED. THE GIVEN ROWS OF THIS SEAT. 9 by the template 'for every input the law returns true; each argument reads behind the call as it read before'; 0 by the template 'total and deterministic' (their statements: YtdekdcleeignoaaDoorTotals.lean).
  GIVEN WITH THE SEED: the statements are not yours to turn. If you find one false, say at which input.
  Laid BY PROGRAM, IN A SANDBOX (cutbox-rows.mjs): the forced cells as the released guide's own fill.sh prints them over the translation caabc02c583373bf… (all of the seat's roots in one cut). By AI agents, Wed Nov 11 2026. No macro, syntax, notation, axiom, sorry.
-/
import Derived.Test.YtdekdcleeignoaaDoorChecked
import GoSem.PinnedTables
import GoSem.Claim
import GoSem.ClaimJoined
import GoSem.ClaimMapViews
import Derived.JoinedTies
import Derived.KernelRfl
namespace Go.Proofs.YtdekdcleeignoaaDoor
/- THE CELL 'sum', in the pinned program and in every row, IS THE sha256 OF THE DUMP (.gsa) THAT YtdekdcleeignoaaDoorProg.lean LOADS. Nothing in Lean hashes anything: it is a label: what it is worth is what the hold of that sum in a sandbox is worth. -/
noncomputable def Tryd.pinned : Pinned := { name := "ytdekdcleeignoaadoor", sum := "caabc02c583373bf2028891bdc829c7969adf5deb2c6f11f49de9ff44950091d", checked := Tryd.checked }
namespace Rows
def none {H : Type} : Left H := { results := [], args := [] }

/- WHAT THE LISTED PACKAGE-LEVEL VARIABLES READ AS WHEN THE CALL BEGINS. Each datum BY PROGRAM (the guide's laid-datum.mjs) off the statement by which the dump's own 'gosem.cut.vars' lays the variable. In a bare row this is a premise. The card (YtdekdcleeignoaaDoorCards.lean) ties it to the program's text. -/
def laid_unicode_utf8_acceptRanges {H : Type} : DataW H := .agg [.agg [.lit (.int .u8 128), .lit (.int .u8 191)], .agg [.lit (.int .u8 160), .lit (.int .u8 191)], .agg [.lit (.int .u8 128), .lit (.int .u8 159)], .agg [.lit (.int .u8 144), .lit (.int .u8 191)], .agg [.lit (.int .u8 128), .lit (.int .u8 143)], .agg [.lit (.int .u8 0), .lit (.int .u8 0)], .agg [.lit (.int .u8 0), .lit (.int .u8 0)], .agg [.lit (.int .u8 0), .lit (.int .u8 0)], .agg [.lit (.int .u8 0), .lit (.int .u8 0)], .agg [.lit (.int .u8 0), .lit (.int .u8 0)], .agg [.lit (.int .u8 0), .lit (.int .u8 0)], .agg [.lit (.int .u8 0), .lit (.int .u8 0)], .agg [.lit (.int .u8 0), .lit (.int .u8 0)], .agg [.lit (.int .u8 0), .lit (.int .u8 0)], .agg [.lit (.int .u8 0), .lit (.int .u8 0)], .agg [.lit (.int .u8 0), .lit (.int .u8 0)]]
/-- One of Go's own tables, pinned by name: the form's constant. -/
def laid_unicode_utf8_first : DataW Unit := Go.Pinned.utf8First
def laid_math_bits_deBruijn32tab {H : Type} : DataW H := .agg [.lit (.int .u8 0), .lit (.int .u8 1), .lit (.int .u8 28), .lit (.int .u8 2), .lit (.int .u8 29), .lit (.int .u8 14), .lit (.int .u8 24), .lit (.int .u8 3), .lit (.int .u8 30), .lit (.int .u8 22), .lit (.int .u8 20), .lit (.int .u8 15), .lit (.int .u8 25), .lit (.int .u8 17), .lit (.int .u8 4), .lit (.int .u8 8), .lit (.int .u8 31), .lit (.int .u8 27), .lit (.int .u8 13), .lit (.int .u8 23), .lit (.int .u8 21), .lit (.int .u8 19), .lit (.int .u8 16), .lit (.int .u8 7), .lit (.int .u8 26), .lit (.int .u8 12), .lit (.int .u8 18), .lit (.int .u8 6), .lit (.int .u8 11), .lit (.int .u8 5), .lit (.int .u8 10), .lit (.int .u8 9)]
def laid_math_bits_deBruijn64tab {H : Type} : DataW H := .agg [.lit (.int .u8 0), .lit (.int .u8 1), .lit (.int .u8 56), .lit (.int .u8 2), .lit (.int .u8 57), .lit (.int .u8 49), .lit (.int .u8 28), .lit (.int .u8 3), .lit (.int .u8 61), .lit (.int .u8 58), .lit (.int .u8 42), .lit (.int .u8 50), .lit (.int .u8 38), .lit (.int .u8 29), .lit (.int .u8 17), .lit (.int .u8 4), .lit (.int .u8 62), .lit (.int .u8 47), .lit (.int .u8 59), .lit (.int .u8 36), .lit (.int .u8 45), .lit (.int .u8 43), .lit (.int .u8 51), .lit (.int .u8 22), .lit (.int .u8 53), .lit (.int .u8 39), .lit (.int .u8 33), .lit (.int .u8 30), .lit (.int .u8 24), .lit (.int .u8 18), .lit (.int .u8 12), .lit (.int .u8 5), .lit (.int .u8 63), .lit (.int .u8 55), .lit (.int .u8 48), .lit (.int .u8 27), .lit (.int .u8 60), .lit (.int .u8 41), .lit (.int .u8 37), .lit (.int .u8 16), .lit (.int .u8 46), .lit (.int .u8 35), .lit (.int .u8 44), .lit (.int .u8 21), .lit (.int .u8 52), .lit (.int .u8 32), .lit (.int .u8 23), .lit (.int .u8 11), .lit (.int .u8 54), .lit (.int .u8 26), .lit (.int .u8 40), .lit (.int .u8 15), .lit (.int .u8 34), .lit (.int .u8 20), .lit (.int .u8 31), .lit (.int .u8 10), .lit (.int .u8 25), .lit (.int .u8 14), .lit (.int .u8 19), .lit (.int .u8 9), .lit (.int .u8 13), .lit (.int .u8 8), .lit (.int .u8 7), .lit (.int .u8 6)]
def laid_internal_strconv_uint64pow10 {H : Type} : DataW H := .agg [.lit (.int .u64 1), .lit (.int .u64 10), .lit (.int .u64 100), .lit (.int .u64 1000), .lit (.int .u64 10000), .lit (.int .u64 100000), .lit (.int .u64 1000000), .lit (.int .u64 10000000), .lit (.int .u64 100000000), .lit (.int .u64 1000000000), .lit (.int .u64 10000000000), .lit (.int .u64 100000000000), .lit (.int .u64 1000000000000), .lit (.int .u64 10000000000000), .lit (.int .u64 100000000000000), .lit (.int .u64 1000000000000000), .lit (.int .u64 10000000000000000), .lit (.int .u64 100000000000000000), .lit (.int .u64 1000000000000000000), .lit (.int .u64 10000000000000000000)]

/-- 'sidebandlaw20.WeaveWeaves': WHATEVER THE INPUT: true; the input reads as it did. -/
def weaveWeavesSpec : ChangeSpec := { name := "weaveWeaves", fn := fun _ => fun
  | [d1, d2] => { results := [.lit (.bool true)], args := [d1, d2] }
  | _ => none }
def weaveWeavesRow : OpenClaim := { program := "ytdekdcleeignoaadoor", sum := "caabc02c583373bf2028891bdc829c7969adf5deb2c6f11f49de9ff44950091d", func := "sideband/sidebandlaw20.WeaveWeaves", spec := "weaveWeaves", inPlace := ["internal/abi.NoEscape"], named := ["unicode/utf8.first", "unicode/utf8.acceptRanges"], apart := false, laid := [("unicode/utf8.acceptRanges", laid_unicode_utf8_acceptRanges), ("unicode/utf8.first", laid_unicode_utf8_first)] }
def WeaveWeavesSaid : Prop := weaveWeavesRow.holds Tryd.pinned (OpenSpec.ofChange weaveWeavesSpec)

/-- ITS FALSE NEIGHBOUR: 'it returns false'. Refute it at one input. -/
def weaveWeavesWrong : ChangeSpec := { name := "weaveWeaves", fn := fun _ => fun
  | [d1, d2] => { results := [.lit (.bool false)], args := [d1, d2] }
  | _ => none }
def WeaveWeavesWrongFalsely : Prop := weaveWeavesRow.holds Tryd.pinned (OpenSpec.ofChange weaveWeavesWrong)

/-- 'sidebandlaw20.WeaveAgain': WHATEVER THE INPUT: true; the input reads as it did. -/
def weaveAgainSpec : ChangeSpec := { name := "weaveAgain", fn := fun _ => fun
  | [d1, d2] => { results := [.lit (.bool true)], args := [d1, d2] }
  | _ => none }
def weaveAgainRow : OpenClaim := { program := "ytdekdcleeignoaadoor", sum := "caabc02c583373bf2028891bdc829c7969adf5deb2c6f11f49de9ff44950091d", func := "sideband/sidebandlaw20.WeaveAgain", spec := "weaveAgain", inPlace := ["internal/abi.NoEscape", "internal/bytealg.IndexByteString", "internal/bytealg.IndexString"], named := ["unicode/utf8.first", "unicode/utf8.acceptRanges", "internal/bytealg.MaxLen"], apart := false, laid := [("unicode/utf8.acceptRanges", laid_unicode_utf8_acceptRanges), ("unicode/utf8.first", laid_unicode_utf8_first)] }
def WeaveAgainSaid : Prop := weaveAgainRow.holds Tryd.pinned (OpenSpec.ofChange weaveAgainSpec)

/-- ITS FALSE NEIGHBOUR: 'it returns false'. Refute it at one input. -/
def weaveAgainWrong : ChangeSpec := { name := "weaveAgain", fn := fun _ => fun
  | [d1, d2] => { results := [.lit (.bool false)], args := [d1, d2] }
  | _ => none }
def WeaveAgainWrongFalsely : Prop := weaveAgainRow.holds Tryd.pinned (OpenSpec.ofChange weaveAgainWrong)

/-- 'sidebandlaw20.WeaveArgs': WHATEVER THE INPUT: true; the input reads as it did. -/
def weaveArgsSpec : ChangeSpec := { name := "weaveArgs", fn := fun _ => fun
  | [d1, d2] => { results := [.lit (.bool true)], args := [d1, d2] }
  | _ => none }
def weaveArgsRow : OpenClaim := { program := "ytdekdcleeignoaadoor", sum := "caabc02c583373bf2028891bdc829c7969adf5deb2c6f11f49de9ff44950091d", func := "sideband/sidebandlaw20.WeaveArgs", spec := "weaveArgs", inPlace := ["internal/abi.NoEscape", "internal/bytealg.IndexByteString", "internal/bytealg.IndexString"], named := ["unicode/utf8.first", "unicode/utf8.acceptRanges", "internal/bytealg.MaxLen"], apart := false, laid := [("unicode/utf8.acceptRanges", laid_unicode_utf8_acceptRanges), ("unicode/utf8.first", laid_unicode_utf8_first)] }
def WeaveArgsSaid : Prop := weaveArgsRow.holds Tryd.pinned (OpenSpec.ofChange weaveArgsSpec)

/-- ITS FALSE NEIGHBOUR: 'it returns false'. Refute it at one input. -/
def weaveArgsWrong : ChangeSpec := { name := "weaveArgs", fn := fun _ => fun
  | [d1, d2] => { results := [.lit (.bool false)], args := [d1, d2] }
  | _ => none }
def WeaveArgsWrongFalsely : Prop := weaveArgsRow.holds Tryd.pinned (OpenSpec.ofChange weaveArgsWrong)

/-- 'sidebandlaw20.WeaveParts': WHATEVER THE INPUT: true; the input reads as it did. -/
def weavePartsSpec : ChangeSpec := { name := "weaveParts", fn := fun _ => fun
  | [d1, d2] => { results := [.lit (.bool true)], args := [d1, d2] }
  | _ => none }
def weavePartsRow : OpenClaim := { program := "ytdekdcleeignoaadoor", sum := "caabc02c583373bf2028891bdc829c7969adf5deb2c6f11f49de9ff44950091d", func := "sideband/sidebandlaw20.WeaveParts", spec := "weaveParts", inPlace := ["internal/abi.NoEscape", "internal/bytealg.IndexByteString", "internal/bytealg.IndexString"], named := ["unicode/utf8.first", "unicode/utf8.acceptRanges", "internal/bytealg.MaxLen"], apart := false, laid := [("unicode/utf8.acceptRanges", laid_unicode_utf8_acceptRanges), ("unicode/utf8.first", laid_unicode_utf8_first)] }
def WeavePartsSaid : Prop := weavePartsRow.holds Tryd.pinned (OpenSpec.ofChange weavePartsSpec)

/-- ITS FALSE NEIGHBOUR: 'it returns false'. Refute it at one input. -/
def weavePartsWrong : ChangeSpec := { name := "weaveParts", fn := fun _ => fun
  | [d1, d2] => { results := [.lit (.bool false)], args := [d1, d2] }
  | _ => none }
def WeavePartsWrongFalsely : Prop := weavePartsRow.holds Tryd.pinned (OpenSpec.ofChange weavePartsWrong)

/-- 'sidebandlaw16.WordNumbers': WHATEVER THE INPUT: true; the input reads as it did. -/
def wordNumbersSpec : ChangeSpec := { name := "wordNumbers", fn := fun _ => fun
  | [d1, d2] => { results := [.lit (.bool true)], args := [d1, d2] }
  | _ => none }
def wordNumbersRow : OpenClaim := { program := "ytdekdcleeignoaadoor", sum := "caabc02c583373bf2028891bdc829c7969adf5deb2c6f11f49de9ff44950091d", func := "sideband/sidebandlaw16.WordNumbers", spec := "wordNumbers", inPlace := ["internal/abi.NoEscape"], named := ["unicode/utf8.first", "unicode/utf8.acceptRanges"], apart := false, laid := [("unicode/utf8.acceptRanges", laid_unicode_utf8_acceptRanges), ("unicode/utf8.first", laid_unicode_utf8_first)] }
def WordNumbersSaid : Prop := wordNumbersRow.holds Tryd.pinned (OpenSpec.ofChange wordNumbersSpec)

/-- ITS FALSE NEIGHBOUR: 'it returns false'. Refute it at one input. -/
def wordNumbersWrong : ChangeSpec := { name := "wordNumbers", fn := fun _ => fun
  | [d1, d2] => { results := [.lit (.bool false)], args := [d1, d2] }
  | _ => none }
def WordNumbersWrongFalsely : Prop := wordNumbersRow.holds Tryd.pinned (OpenSpec.ofChange wordNumbersWrong)

/-- 'sidebandlaw16.WordRules': WHATEVER THE INPUT: true; the input reads as it did. -/
def wordRulesSpec : ChangeSpec := { name := "wordRules", fn := fun _ => fun
  | [d] => { results := [.lit (.bool true)], args := [d] }
  | _ => none }
def wordRulesRow : OpenClaim := { program := "ytdekdcleeignoaadoor", sum := "caabc02c583373bf2028891bdc829c7969adf5deb2c6f11f49de9ff44950091d", func := "sideband/sidebandlaw16.WordRules", spec := "wordRules", inPlace := ["internal/abi.NoEscape", "internal/bytealg.MakeNoZero"], unfollowed := true, recurses := true, named := ["unicode/utf8.first", "unicode/utf8.acceptRanges"], apart := false, laid := [("unicode/utf8.acceptRanges", laid_unicode_utf8_acceptRanges), ("unicode/utf8.first", laid_unicode_utf8_first)] }
def WordRulesSaid : Prop := wordRulesRow.holds Tryd.pinned (OpenSpec.ofChange wordRulesSpec)

/-- ITS FALSE NEIGHBOUR: 'it returns false'. Refute it at one input. -/
def wordRulesWrong : ChangeSpec := { name := "wordRules", fn := fun _ => fun
  | [d] => { results := [.lit (.bool false)], args := [d] }
  | _ => none }
def WordRulesWrongFalsely : Prop := wordRulesRow.holds Tryd.pinned (OpenSpec.ofChange wordRulesWrong)

/-- 'sidebandlaw16.WordTexts': WHATEVER THE INPUT: true; the input reads as it did. -/
def wordTextsSpec : ChangeSpec := { name := "wordTexts", fn := fun _ => fun
  | [d] => { results := [.lit (.bool true)], args := [d] }
  | _ => none }
def wordTextsRow : OpenClaim := { program := "ytdekdcleeignoaadoor", sum := "caabc02c583373bf2028891bdc829c7969adf5deb2c6f11f49de9ff44950091d", func := "sideband/sidebandlaw16.WordTexts", spec := "wordTexts", inPlace := ["internal/abi.NoEscape", "internal/bytealg.MakeNoZero"], unfollowed := true, recurses := true, named := ["unicode/utf8.first", "unicode/utf8.acceptRanges"], apart := false, laid := [("unicode/utf8.acceptRanges", laid_unicode_utf8_acceptRanges), ("unicode/utf8.first", laid_unicode_utf8_first)] }
def WordTextsSaid : Prop := wordTextsRow.holds Tryd.pinned (OpenSpec.ofChange wordTextsSpec)

/-- ITS FALSE NEIGHBOUR: 'it returns false'. Refute it at one input. -/
def wordTextsWrong : ChangeSpec := { name := "wordTexts", fn := fun _ => fun
  | [d] => { results := [.lit (.bool false)], args := [d] }
  | _ => none }
def WordTextsWrongFalsely : Prop := wordTextsRow.holds Tryd.pinned (OpenSpec.ofChange wordTextsWrong)

/-- 'sidebandlaw16.WordSeals': WHATEVER THE INPUT: true; the input reads as it did. -/
def wordSealsSpec : ChangeSpec := { name := "wordSeals", fn := fun _ => fun
  | [d1, d2] => { results := [.lit (.bool true)], args := [d1, d2] }
  | _ => none }
def wordSealsRow : OpenClaim := { program := "ytdekdcleeignoaadoor", sum := "caabc02c583373bf2028891bdc829c7969adf5deb2c6f11f49de9ff44950091d", func := "sideband/sidebandlaw16.WordSeals", spec := "wordSeals", inPlace := ["internal/abi.NoEscape", "internal/bytealg.IndexByteString", "internal/bytealg.IndexString"], named := ["unicode/utf8.first", "unicode/utf8.acceptRanges", "internal/bytealg.MaxLen"], apart := false, laid := [("unicode/utf8.acceptRanges", laid_unicode_utf8_acceptRanges), ("unicode/utf8.first", laid_unicode_utf8_first)] }
def WordSealsSaid : Prop := wordSealsRow.holds Tryd.pinned (OpenSpec.ofChange wordSealsSpec)

/-- ITS FALSE NEIGHBOUR: 'it returns false'. Refute it at one input. -/
def wordSealsWrong : ChangeSpec := { name := "wordSeals", fn := fun _ => fun
  | [d1, d2] => { results := [.lit (.bool false)], args := [d1, d2] }
  | _ => none }
def WordSealsWrongFalsely : Prop := wordSealsRow.holds Tryd.pinned (OpenSpec.ofChange wordSealsWrong)

/-- 'sidebandlaw18.ReplyCodes': WHATEVER THE INPUT: true; the input reads as it did. -/
def replyCodesSpec : ChangeSpec := { name := "replyCodes", fn := fun _ => fun
  | [d] => { results := [.lit (.bool true)], args := [d] }
  | _ => none }
def replyCodesRow : OpenClaim := { program := "ytdekdcleeignoaadoor", sum := "caabc02c583373bf2028891bdc829c7969adf5deb2c6f11f49de9ff44950091d", func := "sideband/sidebandlaw18.ReplyCodes", spec := "replyCodes", inPlace := ["internal/abi.NoEscape"], named := ["unicode/utf8.first", "unicode/utf8.acceptRanges", "internal/strconv.uint64pow10", "math/bits.deBruijn32tab", "math/bits.deBruijn64tab"], apart := false, laid := [("math/bits.deBruijn32tab", laid_math_bits_deBruijn32tab), ("math/bits.deBruijn64tab", laid_math_bits_deBruijn64tab), ("internal/strconv.uint64pow10", laid_internal_strconv_uint64pow10), ("unicode/utf8.acceptRanges", laid_unicode_utf8_acceptRanges), ("unicode/utf8.first", laid_unicode_utf8_first)] }
def ReplyCodesSaid : Prop := replyCodesRow.holds Tryd.pinned (OpenSpec.ofChange replyCodesSpec)

/-- ITS FALSE NEIGHBOUR: 'it returns false'. Refute it at one input. -/
def replyCodesWrong : ChangeSpec := { name := "replyCodes", fn := fun _ => fun
  | [d] => { results := [.lit (.bool false)], args := [d] }
  | _ => none }
def ReplyCodesWrongFalsely : Prop := replyCodesRow.holds Tryd.pinned (OpenSpec.ofChange replyCodesWrong)

/- THE SECOND FORM. 'bulk': how many values and letters a reading holds, each counted each time it is reached (what is shared counts as often as it is met; a slice's spare places count too). A statement '..UptoSaid' is the law's where the arguments, and the package variables that the reading takes, are together of bulk at most 1048576: NARROWER than '..Said'. Prove '..Said' where nothing that the law and all that it calls make is longer than what came in: it says more and counts as full. Else prove '..UptoSaid'. A law counts once. -/
mutual
def uptoBulk {H : Type} : DataW H → Nat
  | .lit (.string bytes) => bytes.length + 1
  | .lit _ => 1
  | .nil => 1
  | .ptr d => uptoBulk d + 1
  | .slice elems spare => uptoBulkAll elems + uptoBulkAll spare + 1
  | .agg parts => uptoBulkAll parts + 1
  | .iface _ d => uptoBulk d + 1
  | .map entries => uptoBulkEntries entries + 1
  | .held _ => 1
def uptoBulkAll {H : Type} : List (DataW H) → Nat
  | [] => 0
  | d :: r => uptoBulk d + uptoBulkAll r
def uptoBulkEntries {H : Type} : List (Lit × DataW H) → Nat
  | [] => 0
  | x :: r => uptoBulkEntry x + uptoBulkEntries r
def uptoBulkEntry {H : Type} : Lit × DataW H → Nat
  | (.string bytes, d) => bytes.length + uptoBulk d + 1
  | (_, d) => uptoBulk d + 1
 end
def uptoSmall : (H : Type) → List (DataW H) → Bool := fun _ ds => decide (uptoBulkAll ds ≤ 1048576)
def OpenSpec.upto (s : _root_.Go.ChangeSpec) : _root_.Go.OpenSpec := { _root_.Go.OpenSpec.ofChange s with cond := some uptoSmall }

/-- 'sidebandlaw20.WeaveWeaves', WHERE WHAT IT READS IS OF BULK AT MOST 1048576: true; the input reads as it did. -/
def weaveWeavesUptoRow : OpenClaim := { program := "ytdekdcleeignoaadoor", sum := "caabc02c583373bf2028891bdc829c7969adf5deb2c6f11f49de9ff44950091d", func := "sideband/sidebandlaw20.WeaveWeaves", spec := "weaveWeaves", inPlace := ["internal/abi.NoEscape"], named := ["unicode/utf8.first", "unicode/utf8.acceptRanges"], apart := false, laid := [("unicode/utf8.acceptRanges", laid_unicode_utf8_acceptRanges), ("unicode/utf8.first", laid_unicode_utf8_first)], narrowed := true }
def WeaveWeavesUptoSaid : Prop := weaveWeavesUptoRow.holds Tryd.pinned (OpenSpec.upto weaveWeavesSpec)

/-- 'sidebandlaw20.WeaveAgain', WHERE WHAT IT READS IS OF BULK AT MOST 1048576: true; the input reads as it did. -/
def weaveAgainUptoRow : OpenClaim := { program := "ytdekdcleeignoaadoor", sum := "caabc02c583373bf2028891bdc829c7969adf5deb2c6f11f49de9ff44950091d", func := "sideband/sidebandlaw20.WeaveAgain", spec := "weaveAgain", inPlace := ["internal/abi.NoEscape", "internal/bytealg.IndexByteString", "internal/bytealg.IndexString"], named := ["unicode/utf8.first", "unicode/utf8.acceptRanges", "internal/bytealg.MaxLen"], apart := false, laid := [("unicode/utf8.acceptRanges", laid_unicode_utf8_acceptRanges), ("unicode/utf8.first", laid_unicode_utf8_first)], narrowed := true }
def WeaveAgainUptoSaid : Prop := weaveAgainUptoRow.holds Tryd.pinned (OpenSpec.upto weaveAgainSpec)

/-- 'sidebandlaw20.WeaveArgs', WHERE WHAT IT READS IS OF BULK AT MOST 1048576: true; the input reads as it did. -/
def weaveArgsUptoRow : OpenClaim := { program := "ytdekdcleeignoaadoor", sum := "caabc02c583373bf2028891bdc829c7969adf5deb2c6f11f49de9ff44950091d", func := "sideband/sidebandlaw20.WeaveArgs", spec := "weaveArgs", inPlace := ["internal/abi.NoEscape", "internal/bytealg.IndexByteString", "internal/bytealg.IndexString"], named := ["unicode/utf8.first", "unicode/utf8.acceptRanges", "internal/bytealg.MaxLen"], apart := false, laid := [("unicode/utf8.acceptRanges", laid_unicode_utf8_acceptRanges), ("unicode/utf8.first", laid_unicode_utf8_first)], narrowed := true }
def WeaveArgsUptoSaid : Prop := weaveArgsUptoRow.holds Tryd.pinned (OpenSpec.upto weaveArgsSpec)

/-- 'sidebandlaw20.WeaveParts', WHERE WHAT IT READS IS OF BULK AT MOST 1048576: true; the input reads as it did. -/
def weavePartsUptoRow : OpenClaim := { program := "ytdekdcleeignoaadoor", sum := "caabc02c583373bf2028891bdc829c7969adf5deb2c6f11f49de9ff44950091d", func := "sideband/sidebandlaw20.WeaveParts", spec := "weaveParts", inPlace := ["internal/abi.NoEscape", "internal/bytealg.IndexByteString", "internal/bytealg.IndexString"], named := ["unicode/utf8.first", "unicode/utf8.acceptRanges", "internal/bytealg.MaxLen"], apart := false, laid := [("unicode/utf8.acceptRanges", laid_unicode_utf8_acceptRanges), ("unicode/utf8.first", laid_unicode_utf8_first)], narrowed := true }
def WeavePartsUptoSaid : Prop := weavePartsUptoRow.holds Tryd.pinned (OpenSpec.upto weavePartsSpec)

/-- 'sidebandlaw16.WordNumbers', WHERE WHAT IT READS IS OF BULK AT MOST 1048576: true; the input reads as it did. -/
def wordNumbersUptoRow : OpenClaim := { program := "ytdekdcleeignoaadoor", sum := "caabc02c583373bf2028891bdc829c7969adf5deb2c6f11f49de9ff44950091d", func := "sideband/sidebandlaw16.WordNumbers", spec := "wordNumbers", inPlace := ["internal/abi.NoEscape"], named := ["unicode/utf8.first", "unicode/utf8.acceptRanges"], apart := false, laid := [("unicode/utf8.acceptRanges", laid_unicode_utf8_acceptRanges), ("unicode/utf8.first", laid_unicode_utf8_first)], narrowed := true }
def WordNumbersUptoSaid : Prop := wordNumbersUptoRow.holds Tryd.pinned (OpenSpec.upto wordNumbersSpec)

/-- 'sidebandlaw16.WordRules', WHERE WHAT IT READS IS OF BULK AT MOST 1048576: true; the input reads as it did. -/
def wordRulesUptoRow : OpenClaim := { program := "ytdekdcleeignoaadoor", sum := "caabc02c583373bf2028891bdc829c7969adf5deb2c6f11f49de9ff44950091d", func := "sideband/sidebandlaw16.WordRules", spec := "wordRules", inPlace := ["internal/abi.NoEscape", "internal/bytealg.MakeNoZero"], unfollowed := true, recurses := true, named := ["unicode/utf8.first", "unicode/utf8.acceptRanges"], apart := false, laid := [("unicode/utf8.acceptRanges", laid_unicode_utf8_acceptRanges), ("unicode/utf8.first", laid_unicode_utf8_first)], narrowed := true }
def WordRulesUptoSaid : Prop := wordRulesUptoRow.holds Tryd.pinned (OpenSpec.upto wordRulesSpec)

/-- 'sidebandlaw16.WordTexts', WHERE WHAT IT READS IS OF BULK AT MOST 1048576: true; the input reads as it did. -/
def wordTextsUptoRow : OpenClaim := { program := "ytdekdcleeignoaadoor", sum := "caabc02c583373bf2028891bdc829c7969adf5deb2c6f11f49de9ff44950091d", func := "sideband/sidebandlaw16.WordTexts", spec := "wordTexts", inPlace := ["internal/abi.NoEscape", "internal/bytealg.MakeNoZero"], unfollowed := true, recurses := true, named := ["unicode/utf8.first", "unicode/utf8.acceptRanges"], apart := false, laid := [("unicode/utf8.acceptRanges", laid_unicode_utf8_acceptRanges), ("unicode/utf8.first", laid_unicode_utf8_first)], narrowed := true }
def WordTextsUptoSaid : Prop := wordTextsUptoRow.holds Tryd.pinned (OpenSpec.upto wordTextsSpec)

/-- 'sidebandlaw16.WordSeals', WHERE WHAT IT READS IS OF BULK AT MOST 1048576: true; the input reads as it did. -/
def wordSealsUptoRow : OpenClaim := { program := "ytdekdcleeignoaadoor", sum := "caabc02c583373bf2028891bdc829c7969adf5deb2c6f11f49de9ff44950091d", func := "sideband/sidebandlaw16.WordSeals", spec := "wordSeals", inPlace := ["internal/abi.NoEscape", "internal/bytealg.IndexByteString", "internal/bytealg.IndexString"], named := ["unicode/utf8.first", "unicode/utf8.acceptRanges", "internal/bytealg.MaxLen"], apart := false, laid := [("unicode/utf8.acceptRanges", laid_unicode_utf8_acceptRanges), ("unicode/utf8.first", laid_unicode_utf8_first)], narrowed := true }
def WordSealsUptoSaid : Prop := wordSealsUptoRow.holds Tryd.pinned (OpenSpec.upto wordSealsSpec)

/-- 'sidebandlaw18.ReplyCodes', WHERE WHAT IT READS IS OF BULK AT MOST 1048576: true; the input reads as it did. -/
def replyCodesUptoRow : OpenClaim := { program := "ytdekdcleeignoaadoor", sum := "caabc02c583373bf2028891bdc829c7969adf5deb2c6f11f49de9ff44950091d", func := "sideband/sidebandlaw18.ReplyCodes", spec := "replyCodes", inPlace := ["internal/abi.NoEscape"], named := ["unicode/utf8.first", "unicode/utf8.acceptRanges", "internal/strconv.uint64pow10", "math/bits.deBruijn32tab", "math/bits.deBruijn64tab"], apart := false, laid := [("math/bits.deBruijn32tab", laid_math_bits_deBruijn32tab), ("math/bits.deBruijn64tab", laid_math_bits_deBruijn64tab), ("internal/strconv.uint64pow10", laid_internal_strconv_uint64pow10), ("unicode/utf8.acceptRanges", laid_unicode_utf8_acceptRanges), ("unicode/utf8.first", laid_unicode_utf8_first)], narrowed := true }
def ReplyCodesUptoSaid : Prop := replyCodesUptoRow.holds Tryd.pinned (OpenSpec.upto replyCodesSpec)

end Rows
end Go.Proofs.YtdekdcleeignoaaDoor
