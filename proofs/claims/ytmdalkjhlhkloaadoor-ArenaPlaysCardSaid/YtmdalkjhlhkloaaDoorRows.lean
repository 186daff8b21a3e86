/-
  NARROWER THAN 'FOR EVERY INPUT', by the rows' own cells (each row's printed sentence says how): ArenaPlays: laid · ScanNumbers: laid · IdentPrints: laid · ScanNext: laid · ScanBlanks: laid · ScanAll: laid · ScanTexts: laid · IdentLists: laid · ScanQuotes: laid · JsonpBlanks: laid · JsonpNests: laid.
  DERIVED. THE GIVEN ROWS OF THIS SEAT. 11 by the template 'for every input the law returns true; each argument reads behind the call as it read before'; 0 by the template 'total and deterministic' (their statements: YtmdalkjhlhkloaaDoorTotals.lean).
  GIVEN WITH THE SEED: the statements are not yours to turn. If you find one false, say at which input.
  Laid BY PROGRAM, IN A SANDBOX (cutbox-rows.mjs): the forced cells as the released guide's own fill.sh prints them over the translation 71cfdba8e7c27461… (all of the seat's roots in one cut). By AI agents, Wed Nov 11 2026. No macro, syntax, notation, axiom, sorry.
-/
import Derived.Test.YtmdalkjhlhkloaaDoorChecked
import GoSem.PinnedTables
import GoSem.Claim
import GoSem.ClaimJoined
import GoSem.ClaimMapViews
import Derived.JoinedTies
import Derived.KernelRfl
namespace Go.Proofs.YtmdalkjhlhkloaaDoor
/- THE CELL 'sum', in the pinned program and in every row, IS THE sha256 OF THE DUMP (.gsa) THAT YtmdalkjhlhkloaaDoorProg.lean LOADS. Nothing in Lean hashes anything: it is a label: what it is worth is what the hold of that sum in a sandbox is worth. -/
noncomputable def Tryd.pinned : Pinned := { name := "ytmdalkjhlhkloaadoor", sum := "71cfdba8e7c27461dba8f3d02d7fab6e7425b5961b7f3386e30f2c0d2c1b86a8", checked := Tryd.checked }
namespace Rows
def none {H : Type} : Left H := { results := [], args := [] }

/- WHAT THE LISTED PACKAGE-LEVEL VARIABLES READ AS WHEN THE CALL BEGINS. Each datum BY PROGRAM (the guide's laid-datum.mjs) off the statement by which the dump's own 'gosem.cut.vars' lays the variable. In a bare row this is a premise. The card (YtmdalkjhlhkloaaDoorCards.lean) ties it to the program's text. -/
def laid_errors_errorType {H : Type} : DataW H := .iface "internal/reflectlite.rtype" (.agg [.ptr (.lit (.string [101, 114, 114, 111, 114]))])
def laid_unicode_utf8_acceptRanges {H : Type} : DataW H := .agg [.agg [.lit (.int .u8 128), .lit (.int .u8 191)], .agg [.lit (.int .u8 160), .lit (.int .u8 191)], .agg [.lit (.int .u8 128), .lit (.int .u8 159)], .agg [.lit (.int .u8 144), .lit (.int .u8 191)], .agg [.lit (.int .u8 128), .lit (.int .u8 143)], .agg [.lit (.int .u8 0), .lit (.int .u8 0)], .agg [.lit (.int .u8 0), .lit (.int .u8 0)], .agg [.lit (.int .u8 0), .lit (.int .u8 0)], .agg [.lit (.int .u8 0), .lit (.int .u8 0)], .agg [.lit (.int .u8 0), .lit (.int .u8 0)], .agg [.lit (.int .u8 0), .lit (.int .u8 0)], .agg [.lit (.int .u8 0), .lit (.int .u8 0)], .agg [.lit (.int .u8 0), .lit (.int .u8 0)], .agg [.lit (.int .u8 0), .lit (.int .u8 0)], .agg [.lit (.int .u8 0), .lit (.int .u8 0)], .agg [.lit (.int .u8 0), .lit (.int .u8 0)]]
def laid_waybill_scan_words {H : Type} : DataW H := .agg [.agg [.lit (.string [116, 114, 117, 101]), .lit (.int .i64 9)], .agg [.lit (.string [102, 97, 108, 115, 101]), .lit (.int .i64 10)], .agg [.lit (.string [110, 117, 108, 108]), .lit (.int .i64 11)]]
/-- One of Go's own tables, pinned by name: the form's constant. -/
def laid_unicode_utf8_first : DataW Unit := Go.Pinned.utf8First

/-- 'waybilllaw05.ArenaPlays': WHATEVER THE INPUT: true; the input reads as it did. -/
def arenaPlaysSpec : ChangeSpec := { name := "arenaPlays", fn := fun _ => fun
  | [d1, d2, d3] => { results := [.lit (.bool true)], args := [d1, d2, d3] }
  | _ => none }
def arenaPlaysRow : OpenClaim := { program := "ytmdalkjhlhkloaadoor", sum := "71cfdba8e7c27461dba8f3d02d7fab6e7425b5961b7f3386e30f2c0d2c1b86a8", func := "waybill/waybilllaw05.ArenaPlays", spec := "arenaPlays", inPlace := ["internal/reflectlite.ValueOf", "(internal/reflectlite.Value).Type", "(internal/reflectlite.Value).IsNil", "internal/reflectlite.TypeOf", "(internal/reflectlite.Value).Elem", "(internal/reflectlite.Value).Set"], unfollowed := true, recurses := true, named := ["errors.errorType"], apart := false, laid := [("errors.errorType", laid_errors_errorType)] }
def ArenaPlaysSaid : Prop := arenaPlaysRow.holds Tryd.pinned (OpenSpec.ofChange arenaPlaysSpec)

/-- ITS FALSE NEIGHBOUR: 'it returns false'. Refute it at one input. -/
def arenaPlaysWrong : ChangeSpec := { name := "arenaPlays", fn := fun _ => fun
  | [d1, d2, d3] => { results := [.lit (.bool false)], args := [d1, d2, d3] }
  | _ => none }
def ArenaPlaysWrongFalsely : Prop := arenaPlaysRow.holds Tryd.pinned (OpenSpec.ofChange arenaPlaysWrong)

/-- 'waybilllaw06.ScanNumbers': WHATEVER THE INPUT: true; the input reads as it did. -/
def scanNumbersSpec : ChangeSpec := { name := "scanNumbers", fn := fun _ => fun
  | [d1, d2, d3, d4] => { results := [.lit (.bool true)], args := [d1, d2, d3, d4] }
  | _ => none }
def scanNumbersRow : OpenClaim := { program := "ytmdalkjhlhkloaadoor", sum := "71cfdba8e7c27461dba8f3d02d7fab6e7425b5961b7f3386e30f2c0d2c1b86a8", func := "waybill/waybilllaw06.ScanNumbers", spec := "scanNumbers", inPlace := ["internal/bytealg.IndexByteString", "math/bits.Add64", "internal/reflectlite.TypeOf"], unfollowed := true, recurses := true, named := ["waybill/scan.words", "unicode/utf8.first", "unicode/utf8.acceptRanges"], apart := false, laid := [("unicode/utf8.acceptRanges", laid_unicode_utf8_acceptRanges), ("waybill/scan.words", laid_waybill_scan_words), ("unicode/utf8.first", laid_unicode_utf8_first)] }
def ScanNumbersSaid : Prop := scanNumbersRow.holds Tryd.pinned (OpenSpec.ofChange scanNumbersSpec)

/-- ITS FALSE NEIGHBOUR: 'it returns false'. Refute it at one input. -/
def scanNumbersWrong : ChangeSpec := { name := "scanNumbers", fn := fun _ => fun
  | [d1, d2, d3, d4] => { results := [.lit (.bool false)], args := [d1, d2, d3, d4] }
  | _ => none }
def ScanNumbersWrongFalsely : Prop := scanNumbersRow.holds Tryd.pinned (OpenSpec.ofChange scanNumbersWrong)

/-- 'waybilllaw04.IdentPrints': WHATEVER THE INPUT: true; the input reads as it did. -/
def identPrintsSpec : ChangeSpec := { name := "identPrints", fn := fun _ => fun
  | [d] => { results := [.lit (.bool true)], args := [d] }
  | _ => none }
def identPrintsRow : OpenClaim := { program := "ytmdalkjhlhkloaadoor", sum := "71cfdba8e7c27461dba8f3d02d7fab6e7425b5961b7f3386e30f2c0d2c1b86a8", func := "waybill/waybilllaw04.IdentPrints", spec := "identPrints", inPlace := ["internal/reflectlite.TypeOf", "internal/reflectlite.ValueOf", "(internal/reflectlite.Value).Type", "(internal/reflectlite.Value).IsNil", "(internal/reflectlite.Value).Elem", "(internal/reflectlite.Value).Set", "internal/abi.NoEscape", "internal/bytealg.MakeNoZero", "math/bits.Add64"], unfollowed := true, recurses := true, named := ["errors.errorType"], apart := false, laid := [("errors.errorType", laid_errors_errorType)] }
def IdentPrintsSaid : Prop := identPrintsRow.holds Tryd.pinned (OpenSpec.ofChange identPrintsSpec)

/-- ITS FALSE NEIGHBOUR: 'it returns false'. Refute it at one input. -/
def identPrintsWrong : ChangeSpec := { name := "identPrints", fn := fun _ => fun
  | [d] => { results := [.lit (.bool false)], args := [d] }
  | _ => none }
def IdentPrintsWrongFalsely : Prop := identPrintsRow.holds Tryd.pinned (OpenSpec.ofChange identPrintsWrong)

/-- 'waybilllaw06.ScanNext': WHATEVER THE INPUT: true; the input reads as it did. -/
def scanNextSpec : ChangeSpec := { name := "scanNext", fn := fun _ => fun
  | [d1, d2] => { results := [.lit (.bool true)], args := [d1, d2] }
  | _ => none }
def scanNextRow : OpenClaim := { program := "ytmdalkjhlhkloaadoor", sum := "71cfdba8e7c27461dba8f3d02d7fab6e7425b5961b7f3386e30f2c0d2c1b86a8", func := "waybill/waybilllaw06.ScanNext", spec := "scanNext", inPlace := ["internal/bytealg.IndexByteString", "math/bits.Add64", "internal/reflectlite.TypeOf", "internal/reflectlite.ValueOf", "(internal/reflectlite.Value).Type", "(internal/reflectlite.Value).IsNil", "(internal/reflectlite.Value).Elem", "(internal/reflectlite.Value).Set"], unfollowed := true, recurses := true, named := ["waybill/scan.words", "unicode/utf8.first", "unicode/utf8.acceptRanges", "errors.errorType"], apart := false, laid := [("unicode/utf8.acceptRanges", laid_unicode_utf8_acceptRanges), ("errors.errorType", laid_errors_errorType), ("waybill/scan.words", laid_waybill_scan_words), ("unicode/utf8.first", laid_unicode_utf8_first)] }
def ScanNextSaid : Prop := scanNextRow.holds Tryd.pinned (OpenSpec.ofChange scanNextSpec)

/-- ITS FALSE NEIGHBOUR: 'it returns false'. Refute it at one input. -/
def scanNextWrong : ChangeSpec := { name := "scanNext", fn := fun _ => fun
  | [d1, d2] => { results := [.lit (.bool false)], args := [d1, d2] }
  | _ => none }
def ScanNextWrongFalsely : Prop := scanNextRow.holds Tryd.pinned (OpenSpec.ofChange scanNextWrong)

/-- 'waybilllaw06.ScanBlanks': WHATEVER THE INPUT: true; the input reads as it did. -/
def scanBlanksSpec : ChangeSpec := { name := "scanBlanks", fn := fun _ => fun
  | [d1, d2] => { results := [.lit (.bool true)], args := [d1, d2] }
  | _ => none }
def scanBlanksRow : OpenClaim := { program := "ytmdalkjhlhkloaadoor", sum := "71cfdba8e7c27461dba8f3d02d7fab6e7425b5961b7f3386e30f2c0d2c1b86a8", func := "waybill/waybilllaw06.ScanBlanks", spec := "scanBlanks", inPlace := ["internal/bytealg.IndexByteString", "math/bits.Add64", "internal/reflectlite.TypeOf", "internal/reflectlite.ValueOf", "(internal/reflectlite.Value).Type", "(internal/reflectlite.Value).IsNil", "(internal/reflectlite.Value).Elem", "(internal/reflectlite.Value).Set"], unfollowed := true, recurses := true, named := ["waybill/scan.words", "unicode/utf8.first", "unicode/utf8.acceptRanges", "errors.errorType"], apart := false, laid := [("unicode/utf8.acceptRanges", laid_unicode_utf8_acceptRanges), ("errors.errorType", laid_errors_errorType), ("waybill/scan.words", laid_waybill_scan_words), ("unicode/utf8.first", laid_unicode_utf8_first)] }
def ScanBlanksSaid : Prop := scanBlanksRow.holds Tryd.pinned (OpenSpec.ofChange scanBlanksSpec)

/-- ITS FALSE NEIGHBOUR: 'it returns false'. Refute it at one input. -/
def scanBlanksWrong : ChangeSpec := { name := "scanBlanks", fn := fun _ => fun
  | [d1, d2] => { results := [.lit (.bool false)], args := [d1, d2] }
  | _ => none }
def ScanBlanksWrongFalsely : Prop := scanBlanksRow.holds Tryd.pinned (OpenSpec.ofChange scanBlanksWrong)

/-- 'waybilllaw06.ScanAll': WHATEVER THE INPUT: true; the input reads as it did. -/
def scanAllSpec : ChangeSpec := { name := "scanAll", fn := fun _ => fun
  | [d] => { results := [.lit (.bool true)], args := [d] }
  | _ => none }
def scanAllRow : OpenClaim := { program := "ytmdalkjhlhkloaadoor", sum := "71cfdba8e7c27461dba8f3d02d7fab6e7425b5961b7f3386e30f2c0d2c1b86a8", func := "waybill/waybilllaw06.ScanAll", spec := "scanAll", inPlace := ["internal/bytealg.IndexByteString", "math/bits.Add64", "internal/reflectlite.TypeOf", "internal/reflectlite.ValueOf", "(internal/reflectlite.Value).Type", "(internal/reflectlite.Value).IsNil", "(internal/reflectlite.Value).Elem", "(internal/reflectlite.Value).Set"], unfollowed := true, recurses := true, named := ["waybill/scan.words", "unicode/utf8.first", "unicode/utf8.acceptRanges", "errors.errorType"], apart := false, laid := [("unicode/utf8.acceptRanges", laid_unicode_utf8_acceptRanges), ("errors.errorType", laid_errors_errorType), ("waybill/scan.words", laid_waybill_scan_words), ("unicode/utf8.first", laid_unicode_utf8_first)] }
def ScanAllSaid : Prop := scanAllRow.holds Tryd.pinned (OpenSpec.ofChange scanAllSpec)

/-- ITS FALSE NEIGHBOUR: 'it returns false'. Refute it at one input. -/
def scanAllWrong : ChangeSpec := { name := "scanAll", fn := fun _ => fun
  | [d] => { results := [.lit (.bool false)], args := [d] }
  | _ => none }
def ScanAllWrongFalsely : Prop := scanAllRow.holds Tryd.pinned (OpenSpec.ofChange scanAllWrong)

/-- 'waybilllaw06.ScanTexts': WHATEVER THE INPUT: true; the input reads as it did. -/
def scanTextsSpec : ChangeSpec := { name := "scanTexts", fn := fun _ => fun
  | [d1, d2] => { results := [.lit (.bool true)], args := [d1, d2] }
  | _ => none }
def scanTextsRow : OpenClaim := { program := "ytmdalkjhlhkloaadoor", sum := "71cfdba8e7c27461dba8f3d02d7fab6e7425b5961b7f3386e30f2c0d2c1b86a8", func := "waybill/waybilllaw06.ScanTexts", spec := "scanTexts", inPlace := ["internal/bytealg.IndexByteString", "math/bits.Add64", "internal/reflectlite.TypeOf", "internal/reflectlite.ValueOf", "(internal/reflectlite.Value).Type", "(internal/reflectlite.Value).IsNil", "(internal/reflectlite.Value).Elem", "(internal/reflectlite.Value).Set"], unfollowed := true, recurses := true, named := ["waybill/scan.words", "unicode/utf8.first", "unicode/utf8.acceptRanges", "errors.errorType"], apart := false, laid := [("unicode/utf8.acceptRanges", laid_unicode_utf8_acceptRanges), ("errors.errorType", laid_errors_errorType), ("waybill/scan.words", laid_waybill_scan_words), ("unicode/utf8.first", laid_unicode_utf8_first)] }
def ScanTextsSaid : Prop := scanTextsRow.holds Tryd.pinned (OpenSpec.ofChange scanTextsSpec)

/-- ITS FALSE NEIGHBOUR: 'it returns false'. Refute it at one input. -/
def scanTextsWrong : ChangeSpec := { name := "scanTexts", fn := fun _ => fun
  | [d1, d2] => { results := [.lit (.bool false)], args := [d1, d2] }
  | _ => none }
def ScanTextsWrongFalsely : Prop := scanTextsRow.holds Tryd.pinned (OpenSpec.ofChange scanTextsWrong)

/-- 'waybilllaw04.IdentLists': WHATEVER THE INPUT: true; the input reads as it did. -/
def identListsSpec : ChangeSpec := { name := "identLists", fn := fun _ => fun
  | [d1, d2] => { results := [.lit (.bool true)], args := [d1, d2] }
  | _ => none }
def identListsRow : OpenClaim := { program := "ytmdalkjhlhkloaadoor", sum := "71cfdba8e7c27461dba8f3d02d7fab6e7425b5961b7f3386e30f2c0d2c1b86a8", func := "waybill/waybilllaw04.IdentLists", spec := "identLists", inPlace := ["internal/reflectlite.TypeOf", "internal/reflectlite.ValueOf", "(internal/reflectlite.Value).Type", "(internal/reflectlite.Value).IsNil", "(internal/reflectlite.Value).Elem", "(internal/reflectlite.Value).Set", "internal/bytealg.Compare"], unfollowed := true, recurses := true, named := ["errors.errorType"], apart := false, laid := [("errors.errorType", laid_errors_errorType)] }
def IdentListsSaid : Prop := identListsRow.holds Tryd.pinned (OpenSpec.ofChange identListsSpec)

/-- ITS FALSE NEIGHBOUR: 'it returns false'. Refute it at one input. -/
def identListsWrong : ChangeSpec := { name := "identLists", fn := fun _ => fun
  | [d1, d2] => { results := [.lit (.bool false)], args := [d1, d2] }
  | _ => none }
def IdentListsWrongFalsely : Prop := identListsRow.holds Tryd.pinned (OpenSpec.ofChange identListsWrong)

/-- 'waybilllaw06.ScanQuotes': WHATEVER THE INPUT: true; the input reads as it did. -/
def scanQuotesSpec : ChangeSpec := { name := "scanQuotes", fn := fun _ => fun
  | [d] => { results := [.lit (.bool true)], args := [d] }
  | _ => none }
def scanQuotesRow : OpenClaim := { program := "ytmdalkjhlhkloaadoor", sum := "71cfdba8e7c27461dba8f3d02d7fab6e7425b5961b7f3386e30f2c0d2c1b86a8", func := "waybill/waybilllaw06.ScanQuotes", spec := "scanQuotes", inPlace := ["internal/bytealg.IndexByteString", "math/bits.Add64", "internal/reflectlite.TypeOf", "internal/abi.NoEscape", "internal/reflectlite.ValueOf", "(internal/reflectlite.Value).Type", "(internal/reflectlite.Value).IsNil", "(internal/reflectlite.Value).Elem", "(internal/reflectlite.Value).Set"], unfollowed := true, recurses := true, named := ["waybill/scan.words", "unicode/utf8.first", "unicode/utf8.acceptRanges", "errors.errorType"], apart := false, laid := [("unicode/utf8.acceptRanges", laid_unicode_utf8_acceptRanges), ("errors.errorType", laid_errors_errorType), ("waybill/scan.words", laid_waybill_scan_words), ("unicode/utf8.first", laid_unicode_utf8_first)] }
def ScanQuotesSaid : Prop := scanQuotesRow.holds Tryd.pinned (OpenSpec.ofChange scanQuotesSpec)

/-- ITS FALSE NEIGHBOUR: 'it returns false'. Refute it at one input. -/
def scanQuotesWrong : ChangeSpec := { name := "scanQuotes", fn := fun _ => fun
  | [d] => { results := [.lit (.bool false)], args := [d] }
  | _ => none }
def ScanQuotesWrongFalsely : Prop := scanQuotesRow.holds Tryd.pinned (OpenSpec.ofChange scanQuotesWrong)

/-- 'waybilllaw07.JsonpBlanks': WHATEVER THE INPUT: true; the input reads as it did. -/
def jsonpBlanksSpec : ChangeSpec := { name := "jsonpBlanks", fn := fun _ => fun
  | [d1, d2] => { results := [.lit (.bool true)], args := [d1, d2] }
  | _ => none }
def jsonpBlanksRow : OpenClaim := { program := "ytmdalkjhlhkloaadoor", sum := "71cfdba8e7c27461dba8f3d02d7fab6e7425b5961b7f3386e30f2c0d2c1b86a8", func := "waybill/waybilllaw07.JsonpBlanks", spec := "jsonpBlanks", inPlace := ["internal/bytealg.IndexByteString", "math/bits.Add64", "internal/reflectlite.TypeOf", "internal/reflectlite.ValueOf", "(internal/reflectlite.Value).Type", "(internal/reflectlite.Value).IsNil", "(internal/reflectlite.Value).Elem", "(internal/reflectlite.Value).Set"], unfollowed := true, recurses := true, named := ["waybill/scan.words", "unicode/utf8.first", "unicode/utf8.acceptRanges", "errors.errorType"], apart := false, laid := [("unicode/utf8.acceptRanges", laid_unicode_utf8_acceptRanges), ("errors.errorType", laid_errors_errorType), ("waybill/scan.words", laid_waybill_scan_words), ("unicode/utf8.first", laid_unicode_utf8_first)] }
def JsonpBlanksSaid : Prop := jsonpBlanksRow.holds Tryd.pinned (OpenSpec.ofChange jsonpBlanksSpec)

/-- ITS FALSE NEIGHBOUR: 'it returns false'. Refute it at one input. -/
def jsonpBlanksWrong : ChangeSpec := { name := "jsonpBlanks", fn := fun _ => fun
  | [d1, d2] => { results := [.lit (.bool false)], args := [d1, d2] }
  | _ => none }
def JsonpBlanksWrongFalsely : Prop := jsonpBlanksRow.holds Tryd.pinned (OpenSpec.ofChange jsonpBlanksWrong)

/-- 'waybilllaw07.JsonpNests': WHATEVER THE INPUT: true; the input reads as it did. -/
def jsonpNestsSpec : ChangeSpec := { name := "jsonpNests", fn := fun _ => fun
  | [d1, d2] => { results := [.lit (.bool true)], args := [d1, d2] }
  | _ => none }
def jsonpNestsRow : OpenClaim := { program := "ytmdalkjhlhkloaadoor", sum := "71cfdba8e7c27461dba8f3d02d7fab6e7425b5961b7f3386e30f2c0d2c1b86a8", func := "waybill/waybilllaw07.JsonpNests", spec := "jsonpNests", inPlace := ["internal/bytealg.IndexByteString", "math/bits.Add64", "internal/reflectlite.TypeOf", "internal/reflectlite.ValueOf", "(internal/reflectlite.Value).Type", "(internal/reflectlite.Value).IsNil", "(internal/reflectlite.Value).Elem", "(internal/reflectlite.Value).Set"], unfollowed := true, recurses := true, named := ["waybill/scan.words", "unicode/utf8.first", "unicode/utf8.acceptRanges", "errors.errorType"], apart := false, laid := [("unicode/utf8.acceptRanges", laid_unicode_utf8_acceptRanges), ("errors.errorType", laid_errors_errorType), ("waybill/scan.words", laid_waybill_scan_words), ("unicode/utf8.first", laid_unicode_utf8_first)] }
def JsonpNestsSaid : Prop := jsonpNestsRow.holds Tryd.pinned (OpenSpec.ofChange jsonpNestsSpec)

/-- ITS FALSE NEIGHBOUR: 'it returns false'. Refute it at one input. -/
def jsonpNestsWrong : ChangeSpec := { name := "jsonpNests", fn := fun _ => fun
  | [d1, d2] => { results := [.lit (.bool false)], args := [d1, d2] }
  | _ => none }
def JsonpNestsWrongFalsely : Prop := jsonpNestsRow.holds Tryd.pinned (OpenSpec.ofChange jsonpNestsWrong)

/- THE SECOND FORM. 'bulk': how many values and letters a reading holds, each counted each time it is reached (what is shared counts as often as it is met; a slice's spare places count too). A statement '..UptoSaid' is the law's where the arguments, and the package variables that the reading takes, are together of bulk at most 1048576: NARROWER than '..Said'. Prove '..Said' where nothing that the law and all that it calls make is longer than what came in: it says more and counts as full. Else prove '..UptoSaid'. A law counts once. -/
mutual
def uptoBulk {H : Type} : DataW H → Nat
  | .lit (.string bytes) => bytes.length + 1
  | .lit _ => 1
  | .nil => 1
  | .ptr d => uptoBulk d + 1
  | .slice elems spare => uptoBulkAll elems + uptoBulkAll spare + 1
  | .agg parts => uptoBulkAll parts + 1
  | .iface _ d => uptoBulk d + 1
  | .map entries => uptoBulkEntries entries + 1
  | .held _ => 1
def uptoBulkAll {H : Type} : List (DataW H) → Nat
  | [] => 0
  | d :: r => uptoBulk d + uptoBulkAll r
def uptoBulkEntries {H : Type} : List (Lit × DataW H) → Nat
  | [] => 0
  | x :: r => uptoBulkEntry x + uptoBulkEntries r
def uptoBulkEntry {H : Type} : Lit × DataW H → Nat
  | (.string bytes, d) => bytes.length + uptoBulk d + 1
  | (_, d) => uptoBulk d + 1
 end
def uptoSmall : (H : Type) → List (DataW H) → Bool := fun _ ds => decide (uptoBulkAll ds ≤ 1048576)
def OpenSpec.upto (s : _root_.Go.ChangeSpec) : _root_.Go.OpenSpec := { _root_.Go.OpenSpec.ofChange s with cond := some uptoSmall }

/-- 'waybilllaw05.ArenaPlays', WHERE WHAT IT READS IS OF BULK AT MOST 1048576: true; the input reads as it did. -/
def arenaPlaysUptoRow : OpenClaim := { program := "ytmdalkjhlhkloaadoor", sum := "71cfdba8e7c27461dba8f3d02d7fab6e7425b5961b7f3386e30f2c0d2c1b86a8", func := "waybill/waybilllaw05.ArenaPlays", spec := "arenaPlays", inPlace := ["internal/reflectlite.ValueOf", "(internal/reflectlite.Value).Type", "(internal/reflectlite.Value).IsNil", "internal/reflectlite.TypeOf", "(internal/reflectlite.Value).Elem", "(internal/reflectlite.Value).Set"], unfollowed := true, recurses := true, named := ["errors.errorType"], apart := false, laid := [("errors.errorType", laid_errors_errorType)], narrowed := true }
def ArenaPlaysUptoSaid : Prop := arenaPlaysUptoRow.holds Tryd.pinned (OpenSpec.upto arenaPlaysSpec)

/-- 'waybilllaw06.ScanNumbers', WHERE WHAT IT READS IS OF BULK AT MOST 1048576: true; the input reads as it did. -/
def scanNumbersUptoRow : OpenClaim := { program := "ytmdalkjhlhkloaadoor", sum := "71cfdba8e7c27461dba8f3d02d7fab6e7425b5961b7f3386e30f2c0d2c1b86a8", func := "waybill/waybilllaw06.ScanNumbers", spec := "scanNumbers", inPlace := ["internal/bytealg.IndexByteString", "math/bits.Add64", "internal/reflectlite.TypeOf"], unfollowed := true, recurses := true, named := ["waybill/scan.words", "unicode/utf8.first", "unicode/utf8.acceptRanges"], apart := false, laid := [("unicode/utf8.acceptRanges", laid_unicode_utf8_acceptRanges), ("waybill/scan.words", laid_waybill_scan_words), ("unicode/utf8.first", laid_unicode_utf8_first)], narrowed := true }
def ScanNumbersUptoSaid : Prop := scanNumbersUptoRow.holds Tryd.pinned (OpenSpec.upto scanNumbersSpec)

/-- 'waybilllaw04.IdentPrints', WHERE WHAT IT READS IS OF BULK AT MOST 1048576: true; the input reads as it did. -/
def identPrintsUptoRow : OpenClaim := { program := "ytmdalkjhlhkloaadoor", sum := "71cfdba8e7c27461dba8f3d02d7fab6e7425b5961b7f3386e30f2c0d2c1b86a8", func := "waybill/waybilllaw04.IdentPrints", spec := "identPrints", inPlace := ["internal/reflectlite.TypeOf", "internal/reflectlite.ValueOf", "(internal/reflectlite.Value).Type", "(internal/reflectlite.Value).IsNil", "(internal/reflectlite.Value).Elem", "(internal/reflectlite.Value).Set", "internal/abi.NoEscape", "internal/bytealg.MakeNoZero", "math/bits.Add64"], unfollowed := true, recurses := true, named := ["errors.errorType"], apart := false, laid := [("errors.errorType", laid_errors_errorType)], narrowed := true }
def IdentPrintsUptoSaid : Prop := identPrintsUptoRow.holds Tryd.pinned (OpenSpec.upto identPrintsSpec)

/-- 'waybilllaw06.ScanNext', WHERE WHAT IT READS IS OF BULK AT MOST 1048576: true; the input reads as it did. -/
def scanNextUptoRow : OpenClaim := { program := "ytmdalkjhlhkloaadoor", sum := "71cfdba8e7c27461dba8f3d02d7fab6e7425b5961b7f3386e30f2c0d2c1b86a8", func := "waybill/waybilllaw06.ScanNext", spec := "scanNext", inPlace := ["internal/bytealg.IndexByteString", "math/bits.Add64", "internal/reflectlite.TypeOf", "internal/reflectlite.ValueOf", "(internal/reflectlite.Value).Type", "(internal/reflectlite.Value).IsNil", "(internal/reflectlite.Value).Elem", "(internal/reflectlite.Value).Set"], unfollowed := true, recurses := true, named := ["waybill/scan.words", "unicode/utf8.first", "unicode/utf8.acceptRanges", "errors.errorType"], apart := false, laid := [("unicode/utf8.acceptRanges", laid_unicode_utf8_acceptRanges), ("errors.errorType", laid_errors_errorType), ("waybill/scan.words", laid_waybill_scan_words), ("unicode/utf8.first", laid_unicode_utf8_first)], narrowed := true }
def ScanNextUptoSaid : Prop := scanNextUptoRow.holds Tryd.pinned (OpenSpec.upto scanNextSpec)

/-- 'waybilllaw06.ScanBlanks', WHERE WHAT IT READS IS OF BULK AT MOST 1048576: true; the input reads as it did. -/
def scanBlanksUptoRow : OpenClaim := { program := "ytmdalkjhlhkloaadoor", sum := "71cfdba8e7c27461dba8f3d02d7fab6e7425b5961b7f3386e30f2c0d2c1b86a8", func := "waybill/waybilllaw06.ScanBlanks", spec := "scanBlanks", inPlace := ["internal/bytealg.IndexByteString", "math/bits.Add64", "internal/reflectlite.TypeOf", "internal/reflectlite.ValueOf", "(internal/reflectlite.Value).Type", "(internal/reflectlite.Value).IsNil", "(internal/reflectlite.Value).Elem", "(internal/reflectlite.Value).Set"], unfollowed := true, recurses := true, named := ["waybill/scan.words", "unicode/utf8.first", "unicode/utf8.acceptRanges", "errors.errorType"], apart := false, laid := [("unicode/utf8.acceptRanges", laid_unicode_utf8_acceptRanges), ("errors.errorType", laid_errors_errorType), ("waybill/scan.words", laid_waybill_scan_words), ("unicode/utf8.first", laid_unicode_utf8_first)], narrowed := true }
def ScanBlanksUptoSaid : Prop := scanBlanksUptoRow.holds Tryd.pinned (OpenSpec.upto scanBlanksSpec)

/-- 'waybilllaw06.ScanAll', WHERE WHAT IT READS IS OF BULK AT MOST 1048576: true; the input reads as it did. -/
def scanAllUptoRow : OpenClaim := { program := "ytmdalkjhlhkloaadoor", sum := "71cfdba8e7c27461dba8f3d02d7fab6e7425b5961b7f3386e30f2c0d2c1b86a8", func := "waybill/waybilllaw06.ScanAll", spec := "scanAll", inPlace := ["internal/bytealg.IndexByteString", "math/bits.Add64", "internal/reflectlite.TypeOf", "internal/reflectlite.ValueOf", "(internal/reflectlite.Value).Type", "(internal/reflectlite.Value).IsNil", "(internal/reflectlite.Value).Elem", "(internal/reflectlite.Value).Set"], unfollowed := true, recurses := true, named := ["waybill/scan.words", "unicode/utf8.first", "unicode/utf8.acceptRanges", "errors.errorType"], apart := false, laid := [("unicode/utf8.acceptRanges", laid_unicode_utf8_acceptRanges), ("errors.errorType", laid_errors_errorType), ("waybill/scan.words", laid_waybill_scan_words), ("unicode/utf8.first", laid_unicode_utf8_first)], narrowed := true }
def ScanAllUptoSaid : Prop := scanAllUptoRow.holds Tryd.pinned (OpenSpec.upto scanAllSpec)

/-- 'waybilllaw06.ScanTexts', WHERE WHAT IT READS IS OF BULK AT MOST 1048576: true; the input reads as it did. -/
def scanTextsUptoRow : OpenClaim := { program := "ytmdalkjhlhkloaadoor", sum := "71cfdba8e7c27461dba8f3d02d7fab6e7425b5961b7f3386e30f2c0d2c1b86a8", func := "waybill/waybilllaw06.ScanTexts", spec := "scanTexts", inPlace := ["internal/bytealg.IndexByteString", "math/bits.Add64", "internal/reflectlite.TypeOf", "internal/reflectlite.ValueOf", "(internal/reflectlite.Value).Type", "(internal/reflectlite.Value).IsNil", "(internal/reflectlite.Value).Elem", "(internal/reflectlite.Value).Set"], unfollowed := true, recurses := true, named := ["waybill/scan.words", "unicode/utf8.first", "unicode/utf8.acceptRanges", "errors.errorType"], apart := false, laid := [("unicode/utf8.acceptRanges", laid_unicode_utf8_acceptRanges), ("errors.errorType", laid_errors_errorType), ("waybill/scan.words", laid_waybill_scan_words), ("unicode/utf8.first", laid_unicode_utf8_first)], narrowed := true }
def ScanTextsUptoSaid : Prop := scanTextsUptoRow.holds Tryd.pinned (OpenSpec.upto scanTextsSpec)

/-- 'waybilllaw04.IdentLists', WHERE WHAT IT READS IS OF BULK AT MOST 1048576: true; the input reads as it did. -/
def identListsUptoRow : OpenClaim := { program := "ytmdalkjhlhkloaadoor", sum := "71cfdba8e7c27461dba8f3d02d7fab6e7425b5961b7f3386e30f2c0d2c1b86a8", func := "waybill/waybilllaw04.IdentLists", spec := "identLists", inPlace := ["internal/reflectlite.TypeOf", "internal/reflectlite.ValueOf", "(internal/reflectlite.Value).Type", "(internal/reflectlite.Value).IsNil", "(internal/reflectlite.Value).Elem", "(internal/reflectlite.Value).Set", "internal/bytealg.Compare"], unfollowed := true, recurses := true, named := ["errors.errorType"], apart := false, laid := [("errors.errorType", laid_errors_errorType)], narrowed := true }
def IdentListsUptoSaid : Prop := identListsUptoRow.holds Tryd.pinned (OpenSpec.upto identListsSpec)

/-- 'waybilllaw06.ScanQuotes', WHERE WHAT IT READS IS OF BULK AT MOST 1048576: true; the input reads as it did. -/
def scanQuotesUptoRow : OpenClaim := { program := "ytmdalkjhlhkloaadoor", sum := "71cfdba8e7c27461dba8f3d02d7fab6e7425b5961b7f3386e30f2c0d2c1b86a8", func := "waybill/waybilllaw06.ScanQuotes", spec := "scanQuotes", inPlace := ["internal/bytealg.IndexByteString", "math/bits.Add64", "internal/reflectlite.TypeOf", "internal/abi.NoEscape", "internal/reflectlite.ValueOf", "(internal/reflectlite.Value).Type", "(internal/reflectlite.Value).IsNil", "(internal/reflectlite.Value).Elem", "(internal/reflectlite.Value).Set"], unfollowed := true, recurses := true, named := ["waybill/scan.words", "unicode/utf8.first", "unicode/utf8.acceptRanges", "errors.errorType"], apart := false, laid := [("unicode/utf8.acceptRanges", laid_unicode_utf8_acceptRanges), ("errors.errorType", laid_errors_errorType), ("waybill/scan.words", laid_waybill_scan_words), ("unicode/utf8.first", laid_unicode_utf8_first)], narrowed := true }
def ScanQuotesUptoSaid : Prop := scanQuotesUptoRow.holds Tryd.pinned (OpenSpec.upto scanQuotesSpec)

/-- 'waybilllaw07.JsonpBlanks', WHERE WHAT IT READS IS OF BULK AT MOST 1048576: true; the input reads as it did. -/
def jsonpBlanksUptoRow : OpenClaim := { program := "ytmdalkjhlhkloaadoor", sum := "71cfdba8e7c27461dba8f3d02d7fab6e7425b5961b7f3386e30f2c0d2c1b86a8", func := "waybill/waybilllaw07.JsonpBlanks", spec := "jsonpBlanks", inPlace := ["internal/bytealg.IndexByteString", "math/bits.Add64", "internal/reflectlite.TypeOf", "internal/reflectlite.ValueOf", "(internal/reflectlite.Value).Type", "(internal/reflectlite.Value).IsNil", "(internal/reflectlite.Value).Elem", "(internal/reflectlite.Value).Set"], unfollowed := true, recurses := true, named := ["waybill/scan.words", "unicode/utf8.first", "unicode/utf8.acceptRanges", "errors.errorType"], apart := false, laid := [("unicode/utf8.acceptRanges", laid_unicode_utf8_acceptRanges), ("errors.errorType", laid_errors_errorType), ("waybill/scan.words", laid_waybill_scan_words), ("unicode/utf8.first", laid_unicode_utf8_first)], narrowed := true }
def JsonpBlanksUptoSaid : Prop := jsonpBlanksUptoRow.holds Tryd.pinned (OpenSpec.upto jsonpBlanksSpec)

/-- 'waybilllaw07.JsonpNests', WHERE WHAT IT READS IS OF BULK AT MOST 1048576: true; the input reads as it did. -/
def jsonpNestsUptoRow : OpenClaim := { program := "ytmdalkjhlhkloaadoor", sum := "71cfdba8e7c27461dba8f3d02d7fab6e7425b5961b7f3386e30f2c0d2c1b86a8", func := "waybill/waybilllaw07.JsonpNests", spec := "jsonpNests", inPlace := ["internal/bytealg.IndexByteString", "math/bits.Add64", "internal/reflectlite.TypeOf", "internal/reflectlite.ValueOf", "(internal/reflectlite.Value).Type", "(internal/reflectlite.Value).IsNil", "(internal/reflectlite.Value).Elem", "(internal/reflectlite.Value).Set"], unfollowed := true, recurses := true, named := ["waybill/scan.words", "unicode/utf8.first", "unicode/utf8.acceptRanges", "errors.errorType"], apart := false, laid := [("unicode/utf8.acceptRanges", laid_unicode_utf8_acceptRanges), ("errors.errorType", laid_errors_errorType), ("waybill/scan.words", laid_waybill_scan_words), ("unicode/utf8.first", laid_unicode_utf8_first)], narrowed := true }
def JsonpNestsUptoSaid : Prop := jsonpNestsUptoRow.holds Tryd.pinned (OpenSpec.upto jsonpNestsSpec)

end Rows
end Go.Proofs.YtmdalkjhlhkloaaDoor
