/-
  NARROWER THAN 'FOR EVERY INPUT', by the rows' own cells (each row's printed sentence says how): IdentPrints: laid · IdentLists: laid · ScanQuotes: laid · JsonpBlanks: laid · JsonpNests: laid.
  DERIVED. THE GIVEN ROWS OF THIS SEAT. 5 by the template 'for every input the law returns true; each argument reads behind the call as it read before'; 0 by the template 'total and deterministic' (their statements: YtmhfbdeeebbloaaDoorTotals.lean).
  GIVEN WITH THE SEED: the statements are not yours to turn. If you find one false, say at which input.
  Laid BY PROGRAM, IN A SANDBOX (cutbox-rows.mjs): the forced cells as the released guide's own fill.sh prints them over the translation dfcf13922e19f9a2… (all of the seat's roots in one cut). By AI agents, Wed Nov 11 2026. No macro, syntax, notation, axiom, sorry.
-/
import Derived.Test.YtmhfbdeeebbloaaDoorChecked
import GoSem.PinnedTables
import GoSem.Claim
import GoSem.ClaimJoined
import GoSem.ClaimMapViews
import Derived.JoinedTies
import Derived.KernelRfl
namespace Go.Proofs.YtmhfbdeeebbloaaDoor
/- THE CELL 'sum', in the pinned program and in every row, IS THE sha256 OF THE DUMP (.gsa) THAT YtmhfbdeeebbloaaDoorProg.lean LOADS. Nothing in Lean hashes anything: it is a label: what it is worth is what the hold of that sum in a sandbox is worth. -/
noncomputable def Tryd.pinned : Pinned := { name := "ytmhfbdeeebbloaadoor", sum := "dfcf13922e19f9a218b6e86273327f1132860720c96c34f9b466ee61b4a81437", checked := Tryd.checked }
namespace Rows
def none {H : Type} : Left H := { results := [], args := [] }

/- WHAT THE LISTED PACKAGE-LEVEL VARIABLES READ AS WHEN THE CALL BEGINS. Each datum BY PROGRAM (the guide's laid-datum.mjs) off the statement by which the dump's own 'gosem.cut.vars' lays the variable. In a bare row this is a premise. The card (YtmhfbdeeebbloaaDoorCards.lean) ties it to the program's text. -/
def laid_errors_errorType {H : Type} : DataW H := .iface "internal/reflectlite.rtype" (.agg [.ptr (.lit (.string [101, 114, 114, 111, 114]))])
def laid_unicode_utf8_acceptRanges {H : Type} : DataW H := .agg [.agg [.lit (.int .u8 128), .lit (.int .u8 191)], .agg [.lit (.int .u8 160), .lit (.int .u8 191)], .agg [.lit (.int .u8 128), .lit (.int .u8 159)], .agg [.lit (.int .u8 144), .lit (.int .u8 191)], .agg [.lit (.int .u8 128), .lit (.int .u8 143)], .agg [.lit (.int .u8 0), .lit (.int .u8 0)], .agg [.lit (.int .u8 0), .lit (.int .u8 0)], .agg [.lit (.int .u8 0), .lit (.int .u8 0)], .agg [.lit (.int .u8 0), .lit (.int .u8 0)], .agg [.lit (.int .u8 0), .lit (.int .u8 0)], .agg [.lit (.int .u8 0), .lit (.int .u8 0)], .agg [.lit (.int .u8 0), .lit (.int .u8 0)], .agg [.lit (.int .u8 0), .lit (.int .u8 0)], .agg [.lit (.int .u8 0), .lit (.int .u8 0)], .agg [.lit (.int .u8 0), .lit (.int .u8 0)], .agg [.lit (.int .u8 0), .lit (.int .u8 0)]]
def laid_waybill_scan_words {H : Type} : DataW H := .agg [.agg [.lit (.string [116, 114, 117, 101]), .lit (.int .i64 9)], .agg [.lit (.string [102, 97, 108, 115, 101]), .lit (.int .i64 10)], .agg [.lit (.string [110, 117, 108, 108]), .lit (.int .i64 11)]]
/-- One of Go's own tables, pinned by name: the form's constant. -/
def laid_unicode_utf8_first : DataW Unit := Go.Pinned.utf8First

/-- 'waybilllaw04.IdentPrints': WHATEVER THE INPUT: true; the input reads as it did. -/
def identPrintsSpec : ChangeSpec := { name := "identPrints", fn := fun _ => fun
  | [d] => { results := [.lit (.bool true)], args := [d] }
  | _ => none }
def identPrintsRow : OpenClaim := { program := "ytmhfbdeeebbloaadoor", sum := "dfcf13922e19f9a218b6e86273327f1132860720c96c34f9b466ee61b4a81437", func := "waybill/waybilllaw04.IdentPrints", spec := "identPrints", inPlace := ["internal/reflectlite.TypeOf", "internal/reflectlite.ValueOf", "(internal/reflectlite.Value).Type", "(internal/reflectlite.Value).IsNil", "(internal/reflectlite.Value).Elem", "(internal/reflectlite.Value).Set", "internal/abi.NoEscape", "internal/bytealg.MakeNoZero", "math/bits.Add64"], unfollowed := true, recurses := true, named := ["errors.errorType"], apart := false, laid := [("errors.errorType", laid_errors_errorType)] }
def IdentPrintsSaid : Prop := identPrintsRow.holds Tryd.pinned (OpenSpec.ofChange identPrintsSpec)

/-- ITS FALSE NEIGHBOUR: 'it returns false'. Refute it at one input. -/
def identPrintsWrong : ChangeSpec := { name := "identPrints", fn := fun _ => fun
  | [d] => { results := [.lit (.bool false)], args := [d] }
  | _ => none }
def IdentPrintsWrongFalsely : Prop := identPrintsRow.holds Tryd.pinned (OpenSpec.ofChange identPrintsWrong)

/-- 'waybilllaw04.IdentLists': WHATEVER THE INPUT: true; the input reads as it did. -/
def identListsSpec : ChangeSpec := { name := "identLists", fn := fun _ => fun
  | [d1, d2] => { results := [.lit (.bool true)], args := [d1, d2] }
  | _ => none }
def identListsRow : OpenClaim := { program := "ytmhfbdeeebbloaadoor", sum := "dfcf13922e19f9a218b6e86273327f1132860720c96c34f9b466ee61b4a81437", func := "waybill/waybilllaw04.IdentLists", spec := "identLists", inPlace := ["internal/reflectlite.TypeOf", "internal/reflectlite.ValueOf", "(internal/reflectlite.Value).Type", "(internal/reflectlite.Value).IsNil", "(internal/reflectlite.Value).Elem", "(internal/reflectlite.Value).Set", "internal/bytealg.Compare"], unfollowed := true, recurses := true, named := ["errors.errorType"], apart := false, laid := [("errors.errorType", laid_errors_errorType)] }
def IdentListsSaid : Prop := identListsRow.holds Tryd.pinned (OpenSpec.ofChange identListsSpec)

/-- ITS FALSE NEIGHBOUR: 'it returns false'. Refute it at one input. -/
def identListsWrong : ChangeSpec := { name := "identLists", fn := fun _ => fun
  | [d1, d2] => { results := [.lit (.bool false)], args := [d1, d2] }
  | _ => none }
def IdentListsWrongFalsely : Prop := identListsRow.holds Tryd.pinned (OpenSpec.ofChange identListsWrong)

/-- 'waybilllaw06.ScanQuotes': WHATEVER THE INPUT: true; the input reads as it did. -/
def scanQuotesSpec : ChangeSpec := { name := "scanQuotes", fn := fun _ => fun
  | [d] => { results := [.lit (.bool true)], args := [d] }
  | _ => none }
def scanQuotesRow : OpenClaim := { program := "ytmhfbdeeebbloaadoor", sum := "dfcf13922e19f9a218b6e86273327f1132860720c96c34f9b466ee61b4a81437", func := "waybill/waybilllaw06.ScanQuotes", spec := "scanQuotes", inPlace := ["internal/bytealg.IndexByteString", "math/bits.Add64", "internal/reflectlite.TypeOf", "internal/abi.NoEscape", "internal/reflectlite.ValueOf", "(internal/reflectlite.Value).Type", "(internal/reflectlite.Value).IsNil", "(internal/reflectlite.Value).Elem", "(internal/reflectlite.Value).Set"], unfollowed := true, recurses := true, named := ["waybill/scan.words", "unicode/utf8.first", "unicode/utf8.acceptRanges", "errors.errorType"], apart := false, laid := [("unicode/utf8.acceptRanges", laid_unicode_utf8_acceptRanges), ("errors.errorType", laid_errors_errorType), ("waybill/scan.words", laid_waybill_scan_words), ("unicode/utf8.first", laid_unicode_utf8_first)] }
def ScanQuotesSaid : Prop := scanQuotesRow.holds Tryd.pinned (OpenSpec.ofChange scanQuotesSpec)

/-- ITS FALSE NEIGHBOUR: 'it returns false'. Refute it at one input. -/
def scanQuotesWrong : ChangeSpec := { name := "scanQuotes", fn := fun _ => fun
  | [d] => { results := [.lit (.bool false)], args := [d] }
  | _ => none }
def ScanQuotesWrongFalsely : Prop := scanQuotesRow.holds Tryd.pinned (OpenSpec.ofChange scanQuotesWrong)

/-- 'waybilllaw07.JsonpBlanks': WHATEVER THE INPUT: true; the input reads as it did. -/
def jsonpBlanksSpec : ChangeSpec := { name := "jsonpBlanks", fn := fun _ => fun
  | [d1, d2] => { results := [.lit (.bool true)], args := [d1, d2] }
  | _ => none }
def jsonpBlanksRow : OpenClaim := { program := "ytmhfbdeeebbloaadoor", sum := "dfcf13922e19f9a218b6e86273327f1132860720c96c34f9b466ee61b4a81437", func := "waybill/waybilllaw07.JsonpBlanks", spec := "jsonpBlanks", inPlace := ["internal/bytealg.IndexByteString", "math/bits.Add64", "internal/reflectlite.TypeOf", "internal/reflectlite.ValueOf", "(internal/reflectlite.Value).Type", "(internal/reflectlite.Value).IsNil", "(internal/reflectlite.Value).Elem", "(internal/reflectlite.Value).Set"], unfollowed := true, recurses := true, named := ["waybill/scan.words", "unicode/utf8.first", "unicode/utf8.acceptRanges", "errors.errorType"], apart := false, laid := [("unicode/utf8.acceptRanges", laid_unicode_utf8_acceptRanges), ("errors.errorType", laid_errors_errorType), ("waybill/scan.words", laid_waybill_scan_words), ("unicode/utf8.first", laid_unicode_utf8_first)] }
def JsonpBlanksSaid : Prop := jsonpBlanksRow.holds Tryd.pinned (OpenSpec.ofChange jsonpBlanksSpec)

/-- ITS FALSE NEIGHBOUR: 'it returns false'. Refute it at one input. -/
def jsonpBlanksWrong : ChangeSpec := { name := "jsonpBlanks", fn := fun _ => fun
  | [d1, d2] => { results := [.lit (.bool false)], args := [d1, d2] }
  | _ => none }
def JsonpBlanksWrongFalsely : Prop := jsonpBlanksRow.holds Tryd.pinned (OpenSpec.ofChange jsonpBlanksWrong)

/-- 'waybilllaw07.JsonpNests': WHATEVER THE INPUT: true; the input reads as it did. -/
def jsonpNestsSpec : ChangeSpec := { name := "jsonpNests", fn := fun _ => fun
  | [d1, d2] => { results := [.lit (.bool true)], args := [d1, d2] }
  | _ => none }
def jsonpNestsRow : OpenClaim := { program := "ytmhfbdeeebbloaadoor", sum := "dfcf13922e19f9a218b6e86273327f1132860720c96c34f9b466ee61b4a81437", func := "waybill/waybilllaw07.JsonpNests", spec := "jsonpNests", inPlace := ["internal/bytealg.IndexByteString", "math/bits.Add64", "internal/reflectlite.TypeOf", "internal/reflectlite.ValueOf", "(internal/reflectlite.Value).Type", "(internal/reflectlite.Value).IsNil", "(internal/reflectlite.Value).Elem", "(internal/reflectlite.Value).Set"], unfollowed := true, recurses := true, named := ["waybill/scan.words", "unicode/utf8.first", "unicode/utf8.acceptRanges", "errors.errorType"], apart := false, laid := [("unicode/utf8.acceptRanges", laid_unicode_utf8_acceptRanges), ("errors.errorType", laid_errors_errorType), ("waybill/scan.words", laid_waybill_scan_words), ("unicode/utf8.first", laid_unicode_utf8_first)] }
def JsonpNestsSaid : Prop := jsonpNestsRow.holds Tryd.pinned (OpenSpec.ofChange jsonpNestsSpec)

/-- ITS FALSE NEIGHBOUR: 'it returns false'. Refute it at one input. -/
def jsonpNestsWrong : ChangeSpec := { name := "jsonpNests", fn := fun _ => fun
  | [d1, d2] => { results := [.lit (.bool false)], args := [d1, d2] }
  | _ => none }
def JsonpNestsWrongFalsely : Prop := jsonpNestsRow.holds Tryd.pinned (OpenSpec.ofChange jsonpNestsWrong)

/- THE SECOND FORM. 'bulk': how many values and letters a reading holds, each counted each time it is reached (what is shared counts as often as it is met; a slice's spare places count too). A statement '..UptoSaid' is the law's where the arguments, and the package variables that the reading takes, are together of bulk at most 1048576: NARROWER than '..Said'. Prove '..Said' where nothing that the law and all that it calls make is longer than what came in: it says more and counts as full. Else prove '..UptoSaid'. A law counts once. -/
mutual
def uptoBulk {H : Type} : DataW H → Nat
  | .lit (.string bytes) => bytes.length + 1
  | .lit _ => 1
  | .nil => 1
  | .ptr d => uptoBulk d + 1
  | .slice elems spare => uptoBulkAll elems + uptoBulkAll spare + 1
  | .agg parts => uptoBulkAll parts + 1
  | .iface _ d => uptoBulk d + 1
  | .map entries => uptoBulkEntries entries + 1
  | .held _ => 1
def uptoBulkAll {H : Type} : List (DataW H) → Nat
  | [] => 0
  | d :: r => uptoBulk d + uptoBulkAll r
def uptoBulkEntries {H : Type} : List (Lit × DataW H) → Nat
  | [] => 0
  | x :: r => uptoBulkEntry x + uptoBulkEntries r
def uptoBulkEntry {H : Type} : Lit × DataW H → Nat
  | (.string bytes, d) => bytes.length + uptoBulk d + 1
  | (_, d) => uptoBulk d + 1
 end
def uptoSmall : (H : Type) → List (DataW H) → Bool := fun _ ds => decide (uptoBulkAll ds ≤ 1048576)
def OpenSpec.upto (s : _root_.Go.ChangeSpec) : _root_.Go.OpenSpec := { _root_.Go.OpenSpec.ofChange s with cond := some uptoSmall }

/-- 'waybilllaw04.IdentPrints', WHERE WHAT IT READS IS OF BULK AT MOST 1048576: true; the input reads as it did. -/
def identPrintsUptoRow : OpenClaim := { program := "ytmhfbdeeebbloaadoor", sum := "dfcf13922e19f9a218b6e86273327f1132860720c96c34f9b466ee61b4a81437", func := "waybill/waybilllaw04.IdentPrints", spec := "identPrints", inPlace := ["internal/reflectlite.TypeOf", "internal/reflectlite.ValueOf", "(internal/reflectlite.Value).Type", "(internal/reflectlite.Value).IsNil", "(internal/reflectlite.Value).Elem", "(internal/reflectlite.Value).Set", "internal/abi.NoEscape", "internal/bytealg.MakeNoZero", "math/bits.Add64"], unfollowed := true, recurses := true, named := ["errors.errorType"], apart := false, laid := [("errors.errorType", laid_errors_errorType)], narrowed := true }
def IdentPrintsUptoSaid : Prop := identPrintsUptoRow.holds Tryd.pinned (OpenSpec.upto identPrintsSpec)

/-- 'waybilllaw04.IdentLists', WHERE WHAT IT READS IS OF BULK AT MOST 1048576: true; the input reads as it did. -/
def identListsUptoRow : OpenClaim := { program := "ytmhfbdeeebbloaadoor", sum := "dfcf13922e19f9a218b6e86273327f1132860720c96c34f9b466ee61b4a81437", func := "waybill/waybilllaw04.IdentLists", spec := "identLists", inPlace := ["internal/reflectlite.TypeOf", "internal/reflectlite.ValueOf", "(internal/reflectlite.Value).Type", "(internal/reflectlite.Value).IsNil", "(internal/reflectlite.Value).Elem", "(internal/reflectlite.Value).Set", "internal/bytealg.Compare"], unfollowed := true, recurses := true, named := ["errors.errorType"], apart := false, laid := [("errors.errorType", laid_errors_errorType)], narrowed := true }
def IdentListsUptoSaid : Prop := identListsUptoRow.holds Tryd.pinned (OpenSpec.upto identListsSpec)

/-- 'waybilllaw06.ScanQuotes', WHERE WHAT IT READS IS OF BULK AT MOST 1048576: true; the input reads as it did. -/
def scanQuotesUptoRow : OpenClaim := { program := "ytmhfbdeeebbloaadoor", sum := "dfcf13922e19f9a218b6e86273327f1132860720c96c34f9b466ee61b4a81437", func := "waybill/waybilllaw06.ScanQuotes", spec := "scanQuotes", inPlace := ["internal/bytealg.IndexByteString", "math/bits.Add64", "internal/reflectlite.TypeOf", "internal/abi.NoEscape", "internal/reflectlite.ValueOf", "(internal/reflectlite.Value).Type", "(internal/reflectlite.Value).IsNil", "(internal/reflectlite.Value).Elem", "(internal/reflectlite.Value).Set"], unfollowed := true, recurses := true, named := ["waybill/scan.words", "unicode/utf8.first", "unicode/utf8.acceptRanges", "errors.errorType"], apart := false, laid := [("unicode/utf8.acceptRanges", laid_unicode_utf8_acceptRanges), ("errors.errorType", laid_errors_errorType), ("waybill/scan.words", laid_waybill_scan_words), ("unicode/utf8.first", laid_unicode_utf8_first)], narrowed := true }
def ScanQuotesUptoSaid : Prop := scanQuotesUptoRow.holds Tryd.pinned (OpenSpec.upto scanQuotesSpec)

/-- 'waybilllaw07.JsonpBlanks', WHERE WHAT IT READS IS OF BULK AT MOST 1048576: true; the input reads as it did. -/
def jsonpBlanksUptoRow : OpenClaim := { program := "ytmhfbdeeebbloaadoor", sum := "dfcf13922e19f9a218b6e86273327f1132860720c96c34f9b466ee61b4a81437", func := "waybill/waybilllaw07.JsonpBlanks", spec := "jsonpBlanks", inPlace := ["internal/bytealg.IndexByteString", "math/bits.Add64", "internal/reflectlite.TypeOf", "internal/reflectlite.ValueOf", "(internal/reflectlite.Value).Type", "(internal/reflectlite.Value).IsNil", "(internal/reflectlite.Value).Elem", "(internal/reflectlite.Value).Set"], unfollowed := true, recurses := true, named := ["waybill/scan.words", "unicode/utf8.first", "unicode/utf8.acceptRanges", "errors.errorType"], apart := false, laid := [("unicode/utf8.acceptRanges", laid_unicode_utf8_acceptRanges), ("errors.errorType", laid_errors_errorType), ("waybill/scan.words", laid_waybill_scan_words), ("unicode/utf8.first", laid_unicode_utf8_first)], narrowed := true }
def JsonpBlanksUptoSaid : Prop := jsonpBlanksUptoRow.holds Tryd.pinned (OpenSpec.upto jsonpBlanksSpec)

/-- 'waybilllaw07.JsonpNests', WHERE WHAT IT READS IS OF BULK AT MOST 1048576: true; the input reads as it did. -/
def jsonpNestsUptoRow : OpenClaim := { program := "ytmhfbdeeebbloaadoor", sum := "dfcf13922e19f9a218b6e86273327f1132860720c96c34f9b466ee61b4a81437", func := "waybill/waybilllaw07.JsonpNests", spec := "jsonpNests", inPlace := ["internal/bytealg.IndexByteString", "math/bits.Add64", "internal/reflectlite.TypeOf", "internal/reflectlite.ValueOf", "(internal/reflectlite.Value).Type", "(internal/reflectlite.Value).IsNil", "(internal/reflectlite.Value).Elem", "(internal/reflectlite.Value).Set"], unfollowed := true, recurses := true, named := ["waybill/scan.words", "unicode/utf8.first", "unicode/utf8.acceptRanges", "errors.errorType"], apart := false, laid := [("unicode/utf8.acceptRanges", laid_unicode_utf8_acceptRanges), ("errors.errorType", laid_errors_errorType), ("waybill/scan.words", laid_waybill_scan_words), ("unicode/utf8.first", laid_unicode_utf8_first)], narrowed := true }
def JsonpNestsUptoSaid : Prop := jsonpNestsUptoRow.holds Tryd.pinned (OpenSpec.upto jsonpNestsSpec)

end Rows
end Go.Proofs.YtmhfbdeeebbloaaDoor
