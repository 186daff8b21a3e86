/-
  NARROWER THAN 'FOR EVERY INPUT', by the rows' own cells (each row's printed sentence says how): CanonSame: laid · CanonWalks: laid · CanonPaths: laid · CanonWrites: laid · CanonOrder: laid · CanonTexts: laid.
  DERIVED. THE GIVEN ROWS OF THIS SEAT. 6 by the template 'for every input the law returns true; each argument reads behind the call as it read before'; 0 by the template 'total and deterministic' (their statements: YtheoaijheijojaaGreatDoorTotals.lean).
  GIVEN WITH THE SEED: the statements are not yours to turn. If you find one false, say at which input.
  Laid BY PROGRAM, IN A SANDBOX (cutbox-rows.mjs): the forced cells as the released guide's own fill.sh prints them over the translation 5b2d9873c22cc06a… (all of the seat's roots in one cut). By AI agents, Wed Nov 11 2026. No macro, syntax, notation, axiom, sorry.
-/
import Derived.Test.YtheoaijheijojaaGreatDoorChecked
import GoSem.PinnedTables
import GoSem.Claim
import GoSem.ClaimJoined
import GoSem.ClaimMapViews
import Derived.JoinedTies
import Derived.KernelRfl
namespace Go.Proofs.YtheoaijheijojaaGreatDoor
/- THE CELL 'sum', in the pinned program and in every row, IS THE sha256 OF THE DUMP (.gsa) THAT YtheoaijheijojaaGreatDoorProg.lean LOADS. Nothing in Lean hashes anything: it is a label: what it is worth is what the hold of that sum in a sandbox is worth. -/
noncomputable def Tryz.pinned : Pinned := { name := "ytheoaijheijojaagreatdoor", sum := "5b2d9873c22cc06a3c7f86ec236945fbb0024562831f892dcfcbd1df89b7f42a", checked := Tryz.checked }
namespace Rows
def none {H : Type} : Left H := { results := [], args := [] }

/- WHAT THE LISTED PACKAGE-LEVEL VARIABLES READ AS WHEN THE CALL BEGINS. Each datum BY PROGRAM (the guide's laid-datum.mjs) off the statement by which the dump's own 'gosem.cut.vars' lays the variable. In a bare row this is a premise. The card (YtheoaijheijojaaGreatDoorCards.lean) ties it to the program's text. -/
def laid_unicode_utf8_acceptRanges {H : Type} : DataW H := .agg [.agg [.lit (.int .u8 128), .lit (.int .u8 191)], .agg [.lit (.int .u8 160), .lit (.int .u8 191)], .agg [.lit (.int .u8 128), .lit (.int .u8 159)], .agg [.lit (.int .u8 144), .lit (.int .u8 191)], .agg [.lit (.int .u8 128), .lit (.int .u8 143)], .agg [.lit (.int .u8 0), .lit (.int .u8 0)], .agg [.lit (.int .u8 0), .lit (.int .u8 0)], .agg [.lit (.int .u8 0), .lit (.int .u8 0)], .agg [.lit (.int .u8 0), .lit (.int .u8 0)], .agg [.lit (.int .u8 0), .lit (.int .u8 0)], .agg [.lit (.int .u8 0), .lit (.int .u8 0)], .agg [.lit (.int .u8 0), .lit (.int .u8 0)], .agg [.lit (.int .u8 0), .lit (.int .u8 0)], .agg [.lit (.int .u8 0), .lit (.int .u8 0)], .agg [.lit (.int .u8 0), .lit (.int .u8 0)], .agg [.lit (.int .u8 0), .lit (.int .u8 0)]]
def laid_waybill_scan_words {H : Type} : DataW H := .agg [.agg [.lit (.string [116, 114, 117, 101]), .lit (.int .i64 9)], .agg [.lit (.string [102, 97, 108, 115, 101]), .lit (.int .i64 10)], .agg [.lit (.string [110, 117, 108, 108]), .lit (.int .i64 11)]]
/-- One of Go's own tables, pinned by name: the form's constant. -/
def laid_unicode_utf8_first : DataW Unit := Go.Pinned.utf8First
def laid_errors_errorType {H : Type} : DataW H := .iface "internal/reflectlite.rtype" (.agg [.ptr (.lit (.string [101, 114, 114, 111, 114]))])

/-- 'waybilllaw08.CanonSame': WHATEVER THE INPUT: true; the input reads as it did. -/
def canonSameSpec : ChangeSpec := { name := "canonSame", fn := fun _ => fun
  | [d1, d2, d3, d4] => { results := [.lit (.bool true)], args := [d1, d2, d3, d4] }
  | _ => none }
def canonSameRow : OpenClaim := { program := "ytheoaijheijojaagreatdoor", sum := "5b2d9873c22cc06a3c7f86ec236945fbb0024562831f892dcfcbd1df89b7f42a", func := "waybill/waybilllaw08.CanonSame", spec := "canonSame", inPlace := ["internal/bytealg.IndexByteString", "math/bits.Add64", "internal/reflectlite.TypeOf", "internal/abi.NoEscape", "internal/bytealg.abigen_runtime_cmpstring", "internal/bytealg.MakeNoZero", "internal/bytealg.CountString", "internal/bytealg.IndexString"], unfollowed := true, recurses := true, named := ["waybill/scan.words", "unicode/utf8.first", "unicode/utf8.acceptRanges", "internal/bytealg.MaxLen"], apart := false, laid := [("unicode/utf8.acceptRanges", laid_unicode_utf8_acceptRanges), ("waybill/scan.words", laid_waybill_scan_words), ("unicode/utf8.first", laid_unicode_utf8_first)] }
def CanonSameSaid : Prop := canonSameRow.holds Tryz.pinned (OpenSpec.ofChange canonSameSpec)

/-- ITS FALSE NEIGHBOUR: 'it returns false'. Refute it at one input. -/
def canonSameWrong : ChangeSpec := { name := "canonSame", fn := fun _ => fun
  | [d1, d2, d3, d4] => { results := [.lit (.bool false)], args := [d1, d2, d3, d4] }
  | _ => none }
def CanonSameWrongFalsely : Prop := canonSameRow.holds Tryz.pinned (OpenSpec.ofChange canonSameWrong)

/-- 'waybilllaw08.CanonWalks': WHATEVER THE INPUT: true; the input reads as it did. -/
def canonWalksSpec : ChangeSpec := { name := "canonWalks", fn := fun _ => fun
  | [d1, d2] => { results := [.lit (.bool true)], args := [d1, d2] }
  | _ => none }
def canonWalksRow : OpenClaim := { program := "ytheoaijheijojaagreatdoor", sum := "5b2d9873c22cc06a3c7f86ec236945fbb0024562831f892dcfcbd1df89b7f42a", func := "waybill/waybilllaw08.CanonWalks", spec := "canonWalks", inPlace := ["internal/bytealg.IndexByteString", "math/bits.Add64", "internal/reflectlite.TypeOf", "internal/abi.NoEscape", "internal/bytealg.abigen_runtime_cmpstring", "internal/bytealg.MakeNoZero", "internal/bytealg.CountString", "internal/bytealg.IndexString"], unfollowed := true, recurses := true, named := ["waybill/scan.words", "unicode/utf8.first", "unicode/utf8.acceptRanges", "internal/bytealg.MaxLen"], apart := false, laid := [("unicode/utf8.acceptRanges", laid_unicode_utf8_acceptRanges), ("waybill/scan.words", laid_waybill_scan_words), ("unicode/utf8.first", laid_unicode_utf8_first)] }
def CanonWalksSaid : Prop := canonWalksRow.holds Tryz.pinned (OpenSpec.ofChange canonWalksSpec)

/-- ITS FALSE NEIGHBOUR: 'it returns false'. Refute it at one input. -/
def canonWalksWrong : ChangeSpec := { name := "canonWalks", fn := fun _ => fun
  | [d1, d2] => { results := [.lit (.bool false)], args := [d1, d2] }
  | _ => none }
def CanonWalksWrongFalsely : Prop := canonWalksRow.holds Tryz.pinned (OpenSpec.ofChange canonWalksWrong)

/-- 'waybilllaw08.CanonPaths': WHATEVER THE INPUT: true; the input reads as it did. -/
def canonPathsSpec : ChangeSpec := { name := "canonPaths", fn := fun _ => fun
  | [d1, d2, d3] => { results := [.lit (.bool true)], args := [d1, d2, d3] }
  | _ => none }
def canonPathsRow : OpenClaim := { program := "ytheoaijheijojaagreatdoor", sum := "5b2d9873c22cc06a3c7f86ec236945fbb0024562831f892dcfcbd1df89b7f42a", func := "waybill/waybilllaw08.CanonPaths", spec := "canonPaths", inPlace := ["internal/bytealg.IndexByteString", "math/bits.Add64", "internal/reflectlite.TypeOf", "internal/abi.NoEscape", "internal/bytealg.abigen_runtime_cmpstring", "internal/bytealg.MakeNoZero", "internal/bytealg.CountString", "internal/bytealg.IndexString", "internal/reflectlite.ValueOf", "(internal/reflectlite.Value).Type", "(internal/reflectlite.Value).IsNil", "(internal/reflectlite.Value).Elem", "(internal/reflectlite.Value).Set"], unfollowed := true, recurses := true, named := ["waybill/scan.words", "unicode/utf8.first", "unicode/utf8.acceptRanges", "internal/bytealg.MaxLen", "errors.errorType"], apart := false, laid := [("unicode/utf8.acceptRanges", laid_unicode_utf8_acceptRanges), ("errors.errorType", laid_errors_errorType), ("waybill/scan.words", laid_waybill_scan_words), ("unicode/utf8.first", laid_unicode_utf8_first)] }
def CanonPathsSaid : Prop := canonPathsRow.holds Tryz.pinned (OpenSpec.ofChange canonPathsSpec)

/-- ITS FALSE NEIGHBOUR: 'it returns false'. Refute it at one input. -/
def canonPathsWrong : ChangeSpec := { name := "canonPaths", fn := fun _ => fun
  | [d1, d2, d3] => { results := [.lit (.bool false)], args := [d1, d2, d3] }
  | _ => none }
def CanonPathsWrongFalsely : Prop := canonPathsRow.holds Tryz.pinned (OpenSpec.ofChange canonPathsWrong)

/-- 'waybilllaw08.CanonWrites': WHATEVER THE INPUT: true; the input reads as it did. -/
def canonWritesSpec : ChangeSpec := { name := "canonWrites", fn := fun _ => fun
  | [d1, d2] => { results := [.lit (.bool true)], args := [d1, d2] }
  | _ => none }
def canonWritesRow : OpenClaim := { program := "ytheoaijheijojaagreatdoor", sum := "5b2d9873c22cc06a3c7f86ec236945fbb0024562831f892dcfcbd1df89b7f42a", func := "waybill/waybilllaw08.CanonWrites", spec := "canonWrites", inPlace := ["internal/bytealg.IndexByteString", "math/bits.Add64", "internal/reflectlite.TypeOf", "internal/abi.NoEscape", "internal/bytealg.abigen_runtime_cmpstring", "internal/bytealg.MakeNoZero", "internal/bytealg.CountString", "internal/bytealg.IndexString", "internal/reflectlite.ValueOf", "(internal/reflectlite.Value).Type", "(internal/reflectlite.Value).IsNil", "(internal/reflectlite.Value).Elem", "(internal/reflectlite.Value).Set"], unfollowed := true, recurses := true, named := ["waybill/scan.words", "unicode/utf8.first", "unicode/utf8.acceptRanges", "internal/bytealg.MaxLen", "errors.errorType"], apart := false, laid := [("unicode/utf8.acceptRanges", laid_unicode_utf8_acceptRanges), ("errors.errorType", laid_errors_errorType), ("waybill/scan.words", laid_waybill_scan_words), ("unicode/utf8.first", laid_unicode_utf8_first)] }
def CanonWritesSaid : Prop := canonWritesRow.holds Tryz.pinned (OpenSpec.ofChange canonWritesSpec)

/-- ITS FALSE NEIGHBOUR: 'it returns false'. Refute it at one input. -/
def canonWritesWrong : ChangeSpec := { name := "canonWrites", fn := fun _ => fun
  | [d1, d2] => { results := [.lit (.bool false)], args := [d1, d2] }
  | _ => none }
def CanonWritesWrongFalsely : Prop := canonWritesRow.holds Tryz.pinned (OpenSpec.ofChange canonWritesWrong)

/-- 'waybilllaw08.CanonOrder': WHATEVER THE INPUT: true; the input reads as it did. -/
def canonOrderSpec : ChangeSpec := { name := "canonOrder", fn := fun _ => fun
  | [d1, d2, d3] => { results := [.lit (.bool true)], args := [d1, d2, d3] }
  | _ => none }
def canonOrderRow : OpenClaim := { program := "ytheoaijheijojaagreatdoor", sum := "5b2d9873c22cc06a3c7f86ec236945fbb0024562831f892dcfcbd1df89b7f42a", func := "waybill/waybilllaw08.CanonOrder", spec := "canonOrder", inPlace := ["internal/bytealg.IndexByteString", "math/bits.Add64", "internal/reflectlite.TypeOf", "internal/abi.NoEscape", "internal/bytealg.abigen_runtime_cmpstring", "internal/bytealg.MakeNoZero", "internal/bytealg.CountString", "internal/bytealg.IndexString", "internal/reflectlite.ValueOf", "(internal/reflectlite.Value).Type", "(internal/reflectlite.Value).IsNil", "(internal/reflectlite.Value).Elem", "(internal/reflectlite.Value).Set"], unfollowed := true, recurses := true, named := ["waybill/scan.words", "unicode/utf8.first", "unicode/utf8.acceptRanges", "internal/bytealg.MaxLen", "errors.errorType"], apart := false, laid := [("unicode/utf8.acceptRanges", laid_unicode_utf8_acceptRanges), ("errors.errorType", laid_errors_errorType), ("waybill/scan.words", laid_waybill_scan_words), ("unicode/utf8.first", laid_unicode_utf8_first)] }
def CanonOrderSaid : Prop := canonOrderRow.holds Tryz.pinned (OpenSpec.ofChange canonOrderSpec)

/-- ITS FALSE NEIGHBOUR: 'it returns false'. Refute it at one input. -/
def canonOrderWrong : ChangeSpec := { name := "canonOrder", fn := fun _ => fun
  | [d1, d2, d3] => { results := [.lit (.bool false)], args := [d1, d2, d3] }
  | _ => none }
def CanonOrderWrongFalsely : Prop := canonOrderRow.holds Tryz.pinned (OpenSpec.ofChange canonOrderWrong)

/-- 'waybilllaw08.CanonTexts': WHATEVER THE INPUT: true; the input reads as it did. -/
def canonTextsSpec : ChangeSpec := { name := "canonTexts", fn := fun _ => fun
  | [d1, d2] => { results := [.lit (.bool true)], args := [d1, d2] }
  | _ => none }
def canonTextsRow : OpenClaim := { program := "ytheoaijheijojaagreatdoor", sum := "5b2d9873c22cc06a3c7f86ec236945fbb0024562831f892dcfcbd1df89b7f42a", func := "waybill/waybilllaw08.CanonTexts", spec := "canonTexts", inPlace := ["internal/bytealg.IndexByteString", "math/bits.Add64", "internal/reflectlite.TypeOf", "internal/abi.NoEscape", "internal/bytealg.abigen_runtime_cmpstring", "internal/bytealg.MakeNoZero", "internal/bytealg.CountString", "internal/bytealg.IndexString", "internal/reflectlite.ValueOf", "(internal/reflectlite.Value).Type", "(internal/reflectlite.Value).IsNil", "(internal/reflectlite.Value).Elem", "(internal/reflectlite.Value).Set"], unfollowed := true, recurses := true, named := ["waybill/scan.words", "unicode/utf8.first", "unicode/utf8.acceptRanges", "internal/bytealg.MaxLen", "errors.errorType"], apart := false, laid := [("unicode/utf8.acceptRanges", laid_unicode_utf8_acceptRanges), ("errors.errorType", laid_errors_errorType), ("waybill/scan.words", laid_waybill_scan_words), ("unicode/utf8.first", laid_unicode_utf8_first)] }
def CanonTextsSaid : Prop := canonTextsRow.holds Tryz.pinned (OpenSpec.ofChange canonTextsSpec)

/-- ITS FALSE NEIGHBOUR: 'it returns false'. Refute it at one input. -/
def canonTextsWrong : ChangeSpec := { name := "canonTexts", fn := fun _ => fun
  | [d1, d2] => { results := [.lit (.bool false)], args := [d1, d2] }
  | _ => none }
def CanonTextsWrongFalsely : Prop := canonTextsRow.holds Tryz.pinned (OpenSpec.ofChange canonTextsWrong)

/- THE SECOND FORM. 'bulk': how many values and letters a reading holds, each counted each time it is reached (what is shared counts as often as it is met; a slice's spare places count too). A statement '..UptoSaid' is the law's where the arguments, and the package variables that the reading takes, are together of bulk at most 1048576: NARROWER than '..Said'. Prove '..Said' where nothing that the law and all that it calls make is longer than what came in: it says more and counts as full. Else prove '..UptoSaid'. A law counts once. -/
mutual
def uptoBulk {H : Type} : DataW H → Nat
  | .lit (.string bytes) => bytes.length + 1
  | .lit _ => 1
  | .nil => 1
  | .ptr d => uptoBulk d + 1
  | .slice elems spare => uptoBulkAll elems + uptoBulkAll spare + 1
  | .agg parts => uptoBulkAll parts + 1
  | .iface _ d => uptoBulk d + 1
  | .map entries => uptoBulkEntries entries + 1
  | .held _ => 1
def uptoBulkAll {H : Type} : List (DataW H) → Nat
  | [] => 0
  | d :: r => uptoBulk d + uptoBulkAll r
def uptoBulkEntries {H : Type} : List (Lit × DataW H) → Nat
  | [] => 0
  | x :: r => uptoBulkEntry x + uptoBulkEntries r
def uptoBulkEntry {H : Type} : Lit × DataW H → Nat
  | (.string bytes, d) => bytes.length + uptoBulk d + 1
  | (_, d) => uptoBulk d + 1
 end
def uptoSmall : (H : Type) → List (DataW H) → Bool := fun _ ds => decide (uptoBulkAll ds ≤ 1048576)
def OpenSpec.upto (s : _root_.Go.ChangeSpec) : _root_.Go.OpenSpec := { _root_.Go.OpenSpec.ofChange s with cond := some uptoSmall }

/-- 'waybilllaw08.CanonSame', WHERE WHAT IT READS IS OF BULK AT MOST 1048576: true; the input reads as it did. -/
def canonSameUptoRow : OpenClaim := { program := "ytheoaijheijojaagreatdoor", sum := "5b2d9873c22cc06a3c7f86ec236945fbb0024562831f892dcfcbd1df89b7f42a", func := "waybill/waybilllaw08.CanonSame", spec := "canonSame", inPlace := ["internal/bytealg.IndexByteString", "math/bits.Add64", "internal/reflectlite.TypeOf", "internal/abi.NoEscape", "internal/bytealg.abigen_runtime_cmpstring", "internal/bytealg.MakeNoZero", "internal/bytealg.CountString", "internal/bytealg.IndexString"], unfollowed := true, recurses := true, named := ["waybill/scan.words", "unicode/utf8.first", "unicode/utf8.acceptRanges", "internal/bytealg.MaxLen"], apart := false, laid := [("unicode/utf8.acceptRanges", laid_unicode_utf8_acceptRanges), ("waybill/scan.words", laid_waybill_scan_words), ("unicode/utf8.first", laid_unicode_utf8_first)], narrowed := true }
def CanonSameUptoSaid : Prop := canonSameUptoRow.holds Tryz.pinned (OpenSpec.upto canonSameSpec)

/-- 'waybilllaw08.CanonWalks', WHERE WHAT IT READS IS OF BULK AT MOST 1048576: true; the input reads as it did. -/
def canonWalksUptoRow : OpenClaim := { program := "ytheoaijheijojaagreatdoor", sum := "5b2d9873c22cc06a3c7f86ec236945fbb0024562831f892dcfcbd1df89b7f42a", func := "waybill/waybilllaw08.CanonWalks", spec := "canonWalks", inPlace := ["internal/bytealg.IndexByteString", "math/bits.Add64", "internal/reflectlite.TypeOf", "internal/abi.NoEscape", "internal/bytealg.abigen_runtime_cmpstring", "internal/bytealg.MakeNoZero", "internal/bytealg.CountString", "internal/bytealg.IndexString"], unfollowed := true, recurses := true, named := ["waybill/scan.words", "unicode/utf8.first", "unicode/utf8.acceptRanges", "internal/bytealg.MaxLen"], apart := false, laid := [("unicode/utf8.acceptRanges", laid_unicode_utf8_acceptRanges), ("waybill/scan.words", laid_waybill_scan_words), ("unicode/utf8.first", laid_unicode_utf8_first)], narrowed := true }
def CanonWalksUptoSaid : Prop := canonWalksUptoRow.holds Tryz.pinned (OpenSpec.upto canonWalksSpec)

/-- 'waybilllaw08.CanonPaths', WHERE WHAT IT READS IS OF BULK AT MOST 1048576: true; the input reads as it did. -/
def canonPathsUptoRow : OpenClaim := { program := "ytheoaijheijojaagreatdoor", sum := "5b2d9873c22cc06a3c7f86ec236945fbb0024562831f892dcfcbd1df89b7f42a", func := "waybill/waybilllaw08.CanonPaths", spec := "canonPaths", inPlace := ["internal/bytealg.IndexByteString", "math/bits.Add64", "internal/reflectlite.TypeOf", "internal/abi.NoEscape", "internal/bytealg.abigen_runtime_cmpstring", "internal/bytealg.MakeNoZero", "internal/bytealg.CountString", "internal/bytealg.IndexString", "internal/reflectlite.ValueOf", "(internal/reflectlite.Value).Type", "(internal/reflectlite.Value).IsNil", "(internal/reflectlite.Value).Elem", "(internal/reflectlite.Value).Set"], unfollowed := true, recurses := true, named := ["waybill/scan.words", "unicode/utf8.first", "unicode/utf8.acceptRanges", "internal/bytealg.MaxLen", "errors.errorType"], apart := false, laid := [("unicode/utf8.acceptRanges", laid_unicode_utf8_acceptRanges), ("errors.errorType", laid_errors_errorType), ("waybill/scan.words", laid_waybill_scan_words), ("unicode/utf8.first", laid_unicode_utf8_first)], narrowed := true }
def CanonPathsUptoSaid : Prop := canonPathsUptoRow.holds Tryz.pinned (OpenSpec.upto canonPathsSpec)

/-- 'waybilllaw08.CanonWrites', WHERE WHAT IT READS IS OF BULK AT MOST 1048576: true; the input reads as it did. -/
def canonWritesUptoRow : OpenClaim := { program := "ytheoaijheijojaagreatdoor", sum := "5b2d9873c22cc06a3c7f86ec236945fbb0024562831f892dcfcbd1df89b7f42a", func := "waybill/waybilllaw08.CanonWrites", spec := "canonWrites", inPlace := ["internal/bytealg.IndexByteString", "math/bits.Add64", "internal/reflectlite.TypeOf", "internal/abi.NoEscape", "internal/bytealg.abigen_runtime_cmpstring", "internal/bytealg.MakeNoZero", "internal/bytealg.CountString", "internal/bytealg.IndexString", "internal/reflectlite.ValueOf", "(internal/reflectlite.Value).Type", "(internal/reflectlite.Value).IsNil", "(internal/reflectlite.Value).Elem", "(internal/reflectlite.Value).Set"], unfollowed := true, recurses := true, named := ["waybill/scan.words", "unicode/utf8.first", "unicode/utf8.acceptRanges", "internal/bytealg.MaxLen", "errors.errorType"], apart := false, laid := [("unicode/utf8.acceptRanges", laid_unicode_utf8_acceptRanges), ("errors.errorType", laid_errors_errorType), ("waybill/scan.words", laid_waybill_scan_words), ("unicode/utf8.first", laid_unicode_utf8_first)], narrowed := true }
def CanonWritesUptoSaid : Prop := canonWritesUptoRow.holds Tryz.pinned (OpenSpec.upto canonWritesSpec)

/-- 'waybilllaw08.CanonOrder', WHERE WHAT IT READS IS OF BULK AT MOST 1048576: true; the input reads as it did. -/
def canonOrderUptoRow : OpenClaim := { program := "ytheoaijheijojaagreatdoor", sum := "5b2d9873c22cc06a3c7f86ec236945fbb0024562831f892dcfcbd1df89b7f42a", func := "waybill/waybilllaw08.CanonOrder", spec := "canonOrder", inPlace := ["internal/bytealg.IndexByteString", "math/bits.Add64", "internal/reflectlite.TypeOf", "internal/abi.NoEscape", "internal/bytealg.abigen_runtime_cmpstring", "internal/bytealg.MakeNoZero", "internal/bytealg.CountString", "internal/bytealg.IndexString", "internal/reflectlite.ValueOf", "(internal/reflectlite.Value).Type", "(internal/reflectlite.Value).IsNil", "(internal/reflectlite.Value).Elem", "(internal/reflectlite.Value).Set"], unfollowed := true, recurses := true, named := ["waybill/scan.words", "unicode/utf8.first", "unicode/utf8.acceptRanges", "internal/bytealg.MaxLen", "errors.errorType"], apart := false, laid := [("unicode/utf8.acceptRanges", laid_unicode_utf8_acceptRanges), ("errors.errorType", laid_errors_errorType), ("waybill/scan.words", laid_waybill_scan_words), ("unicode/utf8.first", laid_unicode_utf8_first)], narrowed := true }
def CanonOrderUptoSaid : Prop := canonOrderUptoRow.holds Tryz.pinned (OpenSpec.upto canonOrderSpec)

/-- 'waybilllaw08.CanonTexts', WHERE WHAT IT READS IS OF BULK AT MOST 1048576: true; the input reads as it did. -/
def canonTextsUptoRow : OpenClaim := { program := "ytheoaijheijojaagreatdoor", sum := "5b2d9873c22cc06a3c7f86ec236945fbb0024562831f892dcfcbd1df89b7f42a", func := "waybill/waybilllaw08.CanonTexts", spec := "canonTexts", inPlace := ["internal/bytealg.IndexByteString", "math/bits.Add64", "internal/reflectlite.TypeOf", "internal/abi.NoEscape", "internal/bytealg.abigen_runtime_cmpstring", "internal/bytealg.MakeNoZero", "internal/bytealg.CountString", "internal/bytealg.IndexString", "internal/reflectlite.ValueOf", "(internal/reflectlite.Value).Type", "(internal/reflectlite.Value).IsNil", "(internal/reflectlite.Value).Elem", "(internal/reflectlite.Value).Set"], unfollowed := true, recurses := true, named := ["waybill/scan.words", "unicode/utf8.first", "unicode/utf8.acceptRanges", "internal/bytealg.MaxLen", "errors.errorType"], apart := false, laid := [("unicode/utf8.acceptRanges", laid_unicode_utf8_acceptRanges), ("errors.errorType", laid_errors_errorType), ("waybill/scan.words", laid_waybill_scan_words), ("unicode/utf8.first", laid_unicode_utf8_first)], narrowed := true }
def CanonTextsUptoSaid : Prop := canonTextsUptoRow.holds Tryz.pinned (OpenSpec.upto canonTextsSpec)

end Rows
end Go.Proofs.YtheoaijheijojaaGreatDoor
