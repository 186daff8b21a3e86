/-
  NARROWER THAN 'FOR EVERY INPUT', by the rows' own cells (each row's printed sentence says how): AasaOrder: laid · AasaApps: laid · AasaLegacy: laid · AasaBack: laid · AasaWrites: laid.
  DERIVED. THE GIVEN ROWS OF THIS SEAT. 5 by the template 'for every input the law returns true; each argument reads behind the call as it read before'; 0 by the template 'total and deterministic' (their statements: YtcaiibkgajhohaaGreatDoorTotals.lean).
  GIVEN WITH THE SEED: the statements are not yours to turn. If you find one false, say at which input.
  Laid BY PROGRAM, IN A SANDBOX (cutbox-rows.mjs): the forced cells as the released guide's own fill.sh prints them over the translation fc9e24475cb576ef… (all of the seat's roots in one cut). By AI agents, Wed Nov 11 2026. No macro, syntax, notation, axiom, sorry.
-/
import Derived.Test.YtcaiibkgajhohaaGreatDoorChecked
import GoSem.PinnedTables
import GoSem.Claim
import GoSem.ClaimJoined
import GoSem.ClaimMapViews
import Derived.JoinedTies
import Derived.KernelRfl
namespace Go.Proofs.YtcaiibkgajhohaaGreatDoor
/- THE CELL 'sum', in the pinned program and in every row, IS THE sha256 OF THE DUMP (.gsa) THAT YtcaiibkgajhohaaGreatDoorProg.lean LOADS. Nothing in Lean hashes anything: it is a label: what it is worth is what the hold of that sum in a sandbox is worth. -/
noncomputable def Tryz.pinned : Pinned := { name := "ytcaiibkgajhohaagreatdoor", sum := "fc9e24475cb576ef1b6daf6618d7b69006d9b382539ec3af25a513c5035587f1", checked := Tryz.checked }
namespace Rows
def none {H : Type} : Left H := { results := [], args := [] }

/- WHAT THE LISTED PACKAGE-LEVEL VARIABLES READ AS WHEN THE CALL BEGINS. Each datum BY PROGRAM (the guide's laid-datum.mjs) off the statement by which the dump's own 'gosem.cut.vars' lays the variable. In a bare row this is a premise. The card (YtcaiibkgajhohaaGreatDoorCards.lean) ties it to the program's text. -/
def laid_unicode_utf8_acceptRanges {H : Type} : DataW H := .agg [.agg [.lit (.int .u8 128), .lit (.int .u8 191)], .agg [.lit (.int .u8 160), .lit (.int .u8 191)], .agg [.lit (.int .u8 128), .lit (.int .u8 159)], .agg [.lit (.int .u8 144), .lit (.int .u8 191)], .agg [.lit (.int .u8 128), .lit (.int .u8 143)], .agg [.lit (.int .u8 0), .lit (.int .u8 0)], .agg [.lit (.int .u8 0), .lit (.int .u8 0)], .agg [.lit (.int .u8 0), .lit (.int .u8 0)], .agg [.lit (.int .u8 0), .lit (.int .u8 0)], .agg [.lit (.int .u8 0), .lit (.int .u8 0)], .agg [.lit (.int .u8 0), .lit (.int .u8 0)], .agg [.lit (.int .u8 0), .lit (.int .u8 0)], .agg [.lit (.int .u8 0), .lit (.int .u8 0)], .agg [.lit (.int .u8 0), .lit (.int .u8 0)], .agg [.lit (.int .u8 0), .lit (.int .u8 0)], .agg [.lit (.int .u8 0), .lit (.int .u8 0)]]
def laid_waybill_scan_words {H : Type} : DataW H := .agg [.agg [.lit (.string [116, 114, 117, 101]), .lit (.int .i64 9)], .agg [.lit (.string [102, 97, 108, 115, 101]), .lit (.int .i64 10)], .agg [.lit (.string [110, 117, 108, 108]), .lit (.int .i64 11)]]
def laid_waybill_subst_classes {H : Type} : DataW H := .agg [.agg [.lit (.string [97, 108, 112, 104, 97]), .lit (.string [97, 98, 99, 100, 101, 102, 103, 104, 105, 106, 107, 108, 109, 110, 111, 112, 113, 114, 115, 116, 117, 118, 119, 120, 121, 122, 65, 66, 67, 68, 69, 70, 71, 72, 73, 74, 75, 76, 77, 78, 79, 80, 81, 82, 83, 84, 85, 86, 87, 88, 89, 90]), .lit (.int .i64 1)], .agg [.lit (.string [117, 112, 112, 101, 114]), .lit (.string [65, 66, 67, 68, 69, 70, 71, 72, 73, 74, 75, 76, 77, 78, 79, 80, 81, 82, 83, 84, 85, 86, 87, 88, 89, 90]), .lit (.int .i64 1)], .agg [.lit (.string [108, 111, 119, 101, 114]), .lit (.string [97, 98, 99, 100, 101, 102, 103, 104, 105, 106, 107, 108, 109, 110, 111, 112, 113, 114, 115, 116, 117, 118, 119, 120, 121, 122]), .lit (.int .i64 1)], .agg [.lit (.string [100, 105, 103, 105, 116]), .lit (.string [48, 49, 50, 51, 52, 53, 54, 55, 56, 57]), .lit (.int .i64 1)], .agg [.lit (.string [97, 108, 110, 117, 109]), .lit (.string [97, 98, 99, 100, 101, 102, 103, 104, 105, 106, 107, 108, 109, 110, 111, 112, 113, 114, 115, 116, 117, 118, 119, 120, 121, 122, 65, 66, 67, 68, 69, 70, 71, 72, 73, 74, 75, 76, 77, 78, 79, 80, 81, 82, 83, 84, 85, 86, 87, 88, 89, 90, 48, 49, 50, 51, 52, 53, 54, 55, 56, 57]), .lit (.int .i64 1)], .agg [.lit (.string [120, 100, 105, 103, 105, 116]), .lit (.string [48, 49, 50, 51, 52, 53, 54, 55, 56, 57, 97, 98, 99, 100, 101, 102, 65, 66, 67, 68, 69, 70]), .lit (.int .i64 1)], .agg [.lit (.string [114, 101, 103, 105, 111, 110]), .lit (.string [65, 66, 67, 68, 69, 70, 71, 72, 73, 74, 75, 76, 77, 78, 79, 80, 81, 82, 83, 84, 85, 86, 87, 88, 89, 90]), .lit (.int .i64 2)], .agg [.lit (.string [108, 97, 110, 103]), .lit (.string [97, 98, 99, 100, 101, 102, 103, 104, 105, 106, 107, 108, 109, 110, 111, 112, 113, 114, 115, 116, 117, 118, 119, 120, 121, 122]), .lit (.int .i64 2)]]
/-- One of Go's own tables, pinned by name: the form's constant. -/
def laid_unicode_utf8_first : DataW Unit := Go.Pinned.utf8First
def laid_errors_errorType {H : Type} : DataW H := .iface "internal/reflectlite.rtype" (.agg [.ptr (.lit (.string [101, 114, 114, 111, 114]))])

/-- 'waybilllaw20.AasaOrder': WHATEVER THE INPUT: true; the input reads as it did. -/
def aasaOrderSpec : ChangeSpec := { name := "aasaOrder", fn := fun _ => fun
  | [d] => { results := [.lit (.bool true)], args := [d] }
  | _ => none }
def aasaOrderRow : OpenClaim := { program := "ytcaiibkgajhohaagreatdoor", sum := "fc9e24475cb576ef1b6daf6618d7b69006d9b382539ec3af25a513c5035587f1", func := "waybill/waybilllaw20.AasaOrder", spec := "aasaOrder", inPlace := ["internal/bytealg.IndexByteString", "math/bits.Add64", "internal/reflectlite.TypeOf", "internal/bytealg.IndexString"], unfollowed := true, recurses := true, named := ["waybill/scan.words", "unicode/utf8.first", "unicode/utf8.acceptRanges", "waybill/subst.classes", "internal/bytealg.MaxLen"], apart := false, laid := [("unicode/utf8.acceptRanges", laid_unicode_utf8_acceptRanges), ("waybill/scan.words", laid_waybill_scan_words), ("waybill/subst.classes", laid_waybill_subst_classes), ("unicode/utf8.first", laid_unicode_utf8_first)] }
def AasaOrderSaid : Prop := aasaOrderRow.holds Tryz.pinned (OpenSpec.ofChange aasaOrderSpec)

/-- ITS FALSE NEIGHBOUR: 'it returns false'. Refute it at one input. -/
def aasaOrderWrong : ChangeSpec := { name := "aasaOrder", fn := fun _ => fun
  | [d] => { results := [.lit (.bool false)], args := [d] }
  | _ => none }
def AasaOrderWrongFalsely : Prop := aasaOrderRow.holds Tryz.pinned (OpenSpec.ofChange aasaOrderWrong)

/-- 'waybilllaw20.AasaApps': WHATEVER THE INPUT: true; the input reads as it did. -/
def aasaAppsSpec : ChangeSpec := { name := "aasaApps", fn := fun _ => fun
  | [d] => { results := [.lit (.bool true)], args := [d] }
  | _ => none }
def aasaAppsRow : OpenClaim := { program := "ytcaiibkgajhohaagreatdoor", sum := "fc9e24475cb576ef1b6daf6618d7b69006d9b382539ec3af25a513c5035587f1", func := "waybill/waybilllaw20.AasaApps", spec := "aasaApps", inPlace := ["internal/bytealg.IndexByteString", "math/bits.Add64", "internal/reflectlite.TypeOf", "internal/bytealg.IndexString"], unfollowed := true, recurses := true, named := ["waybill/scan.words", "unicode/utf8.first", "unicode/utf8.acceptRanges", "waybill/subst.classes", "internal/bytealg.MaxLen"], apart := false, laid := [("unicode/utf8.acceptRanges", laid_unicode_utf8_acceptRanges), ("waybill/scan.words", laid_waybill_scan_words), ("waybill/subst.classes", laid_waybill_subst_classes), ("unicode/utf8.first", laid_unicode_utf8_first)] }
def AasaAppsSaid : Prop := aasaAppsRow.holds Tryz.pinned (OpenSpec.ofChange aasaAppsSpec)

/-- ITS FALSE NEIGHBOUR: 'it returns false'. Refute it at one input. -/
def aasaAppsWrong : ChangeSpec := { name := "aasaApps", fn := fun _ => fun
  | [d] => { results := [.lit (.bool false)], args := [d] }
  | _ => none }
def AasaAppsWrongFalsely : Prop := aasaAppsRow.holds Tryz.pinned (OpenSpec.ofChange aasaAppsWrong)

/-- 'waybilllaw20.AasaLegacy': WHATEVER THE INPUT: true; the input reads as it did. -/
def aasaLegacySpec : ChangeSpec := { name := "aasaLegacy", fn := fun _ => fun
  | [d] => { results := [.lit (.bool true)], args := [d] }
  | _ => none }
def aasaLegacyRow : OpenClaim := { program := "ytcaiibkgajhohaagreatdoor", sum := "fc9e24475cb576ef1b6daf6618d7b69006d9b382539ec3af25a513c5035587f1", func := "waybill/waybilllaw20.AasaLegacy", spec := "aasaLegacy", inPlace := ["internal/bytealg.IndexByteString", "math/bits.Add64", "internal/reflectlite.TypeOf", "internal/bytealg.IndexString", "internal/reflectlite.ValueOf", "(internal/reflectlite.Value).Type", "(internal/reflectlite.Value).IsNil", "(internal/reflectlite.Value).Elem", "(internal/reflectlite.Value).Set"], unfollowed := true, recurses := true, named := ["waybill/scan.words", "unicode/utf8.first", "unicode/utf8.acceptRanges", "waybill/subst.classes", "internal/bytealg.MaxLen", "errors.errorType"], apart := false, laid := [("unicode/utf8.acceptRanges", laid_unicode_utf8_acceptRanges), ("errors.errorType", laid_errors_errorType), ("waybill/scan.words", laid_waybill_scan_words), ("waybill/subst.classes", laid_waybill_subst_classes), ("unicode/utf8.first", laid_unicode_utf8_first)] }
def AasaLegacySaid : Prop := aasaLegacyRow.holds Tryz.pinned (OpenSpec.ofChange aasaLegacySpec)

/-- ITS FALSE NEIGHBOUR: 'it returns false'. Refute it at one input. -/
def aasaLegacyWrong : ChangeSpec := { name := "aasaLegacy", fn := fun _ => fun
  | [d] => { results := [.lit (.bool false)], args := [d] }
  | _ => none }
def AasaLegacyWrongFalsely : Prop := aasaLegacyRow.holds Tryz.pinned (OpenSpec.ofChange aasaLegacyWrong)

/-- 'waybilllaw20.AasaBack': WHATEVER THE INPUT: true; the input reads as it did. -/
def aasaBackSpec : ChangeSpec := { name := "aasaBack", fn := fun _ => fun
  | [d] => { results := [.lit (.bool true)], args := [d] }
  | _ => none }
def aasaBackRow : OpenClaim := { program := "ytcaiibkgajhohaagreatdoor", sum := "fc9e24475cb576ef1b6daf6618d7b69006d9b382539ec3af25a513c5035587f1", func := "waybill/waybilllaw20.AasaBack", spec := "aasaBack", inPlace := ["internal/bytealg.IndexByteString", "math/bits.Add64", "internal/reflectlite.TypeOf", "internal/bytealg.IndexString", "internal/abi.NoEscape", "internal/bytealg.abigen_runtime_cmpstring", "internal/bytealg.MakeNoZero"], unfollowed := true, recurses := true, named := ["waybill/scan.words", "unicode/utf8.first", "unicode/utf8.acceptRanges", "waybill/subst.classes", "internal/bytealg.MaxLen"], apart := false, laid := [("unicode/utf8.acceptRanges", laid_unicode_utf8_acceptRanges), ("waybill/scan.words", laid_waybill_scan_words), ("waybill/subst.classes", laid_waybill_subst_classes), ("unicode/utf8.first", laid_unicode_utf8_first)] }
def AasaBackSaid : Prop := aasaBackRow.holds Tryz.pinned (OpenSpec.ofChange aasaBackSpec)

/-- ITS FALSE NEIGHBOUR: 'it returns false'. Refute it at one input. -/
def aasaBackWrong : ChangeSpec := { name := "aasaBack", fn := fun _ => fun
  | [d] => { results := [.lit (.bool false)], args := [d] }
  | _ => none }
def AasaBackWrongFalsely : Prop := aasaBackRow.holds Tryz.pinned (OpenSpec.ofChange aasaBackWrong)

/-- 'waybilllaw20.AasaWrites': WHATEVER THE INPUT: true; the input reads as it did. -/
def aasaWritesSpec : ChangeSpec := { name := "aasaWrites", fn := fun _ => fun
  | [d] => { results := [.lit (.bool true)], args := [d] }
  | _ => none }
def aasaWritesRow : OpenClaim := { program := "ytcaiibkgajhohaagreatdoor", sum := "fc9e24475cb576ef1b6daf6618d7b69006d9b382539ec3af25a513c5035587f1", func := "waybill/waybilllaw20.AasaWrites", spec := "aasaWrites", inPlace := ["internal/bytealg.IndexByteString", "math/bits.Add64", "internal/reflectlite.TypeOf", "internal/bytealg.IndexString", "internal/abi.NoEscape", "internal/bytealg.abigen_runtime_cmpstring", "internal/bytealg.MakeNoZero", "internal/reflectlite.ValueOf", "(internal/reflectlite.Value).Type", "(internal/reflectlite.Value).IsNil", "(internal/reflectlite.Value).Elem", "(internal/reflectlite.Value).Set"], unfollowed := true, recurses := true, named := ["waybill/scan.words", "unicode/utf8.first", "unicode/utf8.acceptRanges", "waybill/subst.classes", "internal/bytealg.MaxLen", "errors.errorType"], apart := false, laid := [("unicode/utf8.acceptRanges", laid_unicode_utf8_acceptRanges), ("errors.errorType", laid_errors_errorType), ("waybill/scan.words", laid_waybill_scan_words), ("waybill/subst.classes", laid_waybill_subst_classes), ("unicode/utf8.first", laid_unicode_utf8_first)] }
def AasaWritesSaid : Prop := aasaWritesRow.holds Tryz.pinned (OpenSpec.ofChange aasaWritesSpec)

/-- ITS FALSE NEIGHBOUR: 'it returns false'. Refute it at one input. -/
def aasaWritesWrong : ChangeSpec := { name := "aasaWrites", fn := fun _ => fun
  | [d] => { results := [.lit (.bool false)], args := [d] }
  | _ => none }
def AasaWritesWrongFalsely : Prop := aasaWritesRow.holds Tryz.pinned (OpenSpec.ofChange aasaWritesWrong)

/- THE SECOND FORM. 'bulk': how many values and letters a reading holds, each counted each time it is reached (what is shared counts as often as it is met; a slice's spare places count too). A statement '..UptoSaid' is the law's where the arguments, and the package variables that the reading takes, are together of bulk at most 1048576: NARROWER than '..Said'. Prove '..Said' where nothing that the law and all that it calls make is longer than what came in: it says more and counts as full. Else prove '..UptoSaid'. A law counts once. -/
mutual
def uptoBulk {H : Type} : DataW H → Nat
  | .lit (.string bytes) => bytes.length + 1
  | .lit _ => 1
  | .nil => 1
  | .ptr d => uptoBulk d + 1
  | .slice elems spare => uptoBulkAll elems + uptoBulkAll spare + 1
  | .agg parts => uptoBulkAll parts + 1
  | .iface _ d => uptoBulk d + 1
  | .map entries => uptoBulkEntries entries + 1
  | .held _ => 1
def uptoBulkAll {H : Type} : List (DataW H) → Nat
  | [] => 0
  | d :: r => uptoBulk d + uptoBulkAll r
def uptoBulkEntries {H : Type} : List (Lit × DataW H) → Nat
  | [] => 0
  | x :: r => uptoBulkEntry x + uptoBulkEntries r
def uptoBulkEntry {H : Type} : Lit × DataW H → Nat
  | (.string bytes, d) => bytes.length + uptoBulk d + 1
  | (_, d) => uptoBulk d + 1
 end
def uptoSmall : (H : Type) → List (DataW H) → Bool := fun _ ds => decide (uptoBulkAll ds ≤ 1048576)
def OpenSpec.upto (s : _root_.Go.ChangeSpec) : _root_.Go.OpenSpec := { _root_.Go.OpenSpec.ofChange s with cond := some uptoSmall }

/-- 'waybilllaw20.AasaOrder', WHERE WHAT IT READS IS OF BULK AT MOST 1048576: true; the input reads as it did. -/
def aasaOrderUptoRow : OpenClaim := { program := "ytcaiibkgajhohaagreatdoor", sum := "fc9e24475cb576ef1b6daf6618d7b69006d9b382539ec3af25a513c5035587f1", func := "waybill/waybilllaw20.AasaOrder", spec := "aasaOrder", inPlace := ["internal/bytealg.IndexByteString", "math/bits.Add64", "internal/reflectlite.TypeOf", "internal/bytealg.IndexString"], unfollowed := true, recurses := true, named := ["waybill/scan.words", "unicode/utf8.first", "unicode/utf8.acceptRanges", "waybill/subst.classes", "internal/bytealg.MaxLen"], apart := false, laid := [("unicode/utf8.acceptRanges", laid_unicode_utf8_acceptRanges), ("waybill/scan.words", laid_waybill_scan_words), ("waybill/subst.classes", laid_waybill_subst_classes), ("unicode/utf8.first", laid_unicode_utf8_first)], narrowed := true }
def AasaOrderUptoSaid : Prop := aasaOrderUptoRow.holds Tryz.pinned (OpenSpec.upto aasaOrderSpec)

/-- 'waybilllaw20.AasaApps', WHERE WHAT IT READS IS OF BULK AT MOST 1048576: true; the input reads as it did. -/
def aasaAppsUptoRow : OpenClaim := { program := "ytcaiibkgajhohaagreatdoor", sum := "fc9e24475cb576ef1b6daf6618d7b69006d9b382539ec3af25a513c5035587f1", func := "waybill/waybilllaw20.AasaApps", spec := "aasaApps", inPlace := ["internal/bytealg.IndexByteString", "math/bits.Add64", "internal/reflectlite.TypeOf", "internal/bytealg.IndexString"], unfollowed := true, recurses := true, named := ["waybill/scan.words", "unicode/utf8.first", "unicode/utf8.acceptRanges", "waybill/subst.classes", "internal/bytealg.MaxLen"], apart := false, laid := [("unicode/utf8.acceptRanges", laid_unicode_utf8_acceptRanges), ("waybill/scan.words", laid_waybill_scan_words), ("waybill/subst.classes", laid_waybill_subst_classes), ("unicode/utf8.first", laid_unicode_utf8_first)], narrowed := true }
def AasaAppsUptoSaid : Prop := aasaAppsUptoRow.holds Tryz.pinned (OpenSpec.upto aasaAppsSpec)

/-- 'waybilllaw20.AasaLegacy', WHERE WHAT IT READS IS OF BULK AT MOST 1048576: true; the input reads as it did. -/
def aasaLegacyUptoRow : OpenClaim := { program := "ytcaiibkgajhohaagreatdoor", sum := "fc9e24475cb576ef1b6daf6618d7b69006d9b382539ec3af25a513c5035587f1", func := "waybill/waybilllaw20.AasaLegacy", spec := "aasaLegacy", inPlace := ["internal/bytealg.IndexByteString", "math/bits.Add64", "internal/reflectlite.TypeOf", "internal/bytealg.IndexString", "internal/reflectlite.ValueOf", "(internal/reflectlite.Value).Type", "(internal/reflectlite.Value).IsNil", "(internal/reflectlite.Value).Elem", "(internal/reflectlite.Value).Set"], unfollowed := true, recurses := true, named := ["waybill/scan.words", "unicode/utf8.first", "unicode/utf8.acceptRanges", "waybill/subst.classes", "internal/bytealg.MaxLen", "errors.errorType"], apart := false, laid := [("unicode/utf8.acceptRanges", laid_unicode_utf8_acceptRanges), ("errors.errorType", laid_errors_errorType), ("waybill/scan.words", laid_waybill_scan_words), ("waybill/subst.classes", laid_waybill_subst_classes), ("unicode/utf8.first", laid_unicode_utf8_first)], narrowed := true }
def AasaLegacyUptoSaid : Prop := aasaLegacyUptoRow.holds Tryz.pinned (OpenSpec.upto aasaLegacySpec)

/-- 'waybilllaw20.AasaBack', WHERE WHAT IT READS IS OF BULK AT MOST 1048576: true; the input reads as it did. -/
def aasaBackUptoRow : OpenClaim := { program := "ytcaiibkgajhohaagreatdoor", sum := "fc9e24475cb576ef1b6daf6618d7b69006d9b382539ec3af25a513c5035587f1", func := "waybill/waybilllaw20.AasaBack", spec := "aasaBack", inPlace := ["internal/bytealg.IndexByteString", "math/bits.Add64", "internal/reflectlite.TypeOf", "internal/bytealg.IndexString", "internal/abi.NoEscape", "internal/bytealg.abigen_runtime_cmpstring", "internal/bytealg.MakeNoZero"], unfollowed := true, recurses := true, named := ["waybill/scan.words", "unicode/utf8.first", "unicode/utf8.acceptRanges", "waybill/subst.classes", "internal/bytealg.MaxLen"], apart := false, laid := [("unicode/utf8.acceptRanges", laid_unicode_utf8_acceptRanges), ("waybill/scan.words", laid_waybill_scan_words), ("waybill/subst.classes", laid_waybill_subst_classes), ("unicode/utf8.first", laid_unicode_utf8_first)], narrowed := true }
def AasaBackUptoSaid : Prop := aasaBackUptoRow.holds Tryz.pinned (OpenSpec.upto aasaBackSpec)

/-- 'waybilllaw20.AasaWrites', WHERE WHAT IT READS IS OF BULK AT MOST 1048576: true; the input reads as it did. -/
def aasaWritesUptoRow : OpenClaim := { program := "ytcaiibkgajhohaagreatdoor", sum := "fc9e24475cb576ef1b6daf6618d7b69006d9b382539ec3af25a513c5035587f1", func := "waybill/waybilllaw20.AasaWrites", spec := "aasaWrites", inPlace := ["internal/bytealg.IndexByteString", "math/bits.Add64", "internal/reflectlite.TypeOf", "internal/bytealg.IndexString", "internal/abi.NoEscape", "internal/bytealg.abigen_runtime_cmpstring", "internal/bytealg.MakeNoZero", "internal/reflectlite.ValueOf", "(internal/reflectlite.Value).Type", "(internal/reflectlite.Value).IsNil", "(internal/reflectlite.Value).Elem", "(internal/reflectlite.Value).Set"], unfollowed := true, recurses := true, named := ["waybill/scan.words", "unicode/utf8.first", "unicode/utf8.acceptRanges", "waybill/subst.classes", "internal/bytealg.MaxLen", "errors.errorType"], apart := false, laid := [("unicode/utf8.acceptRanges", laid_unicode_utf8_acceptRanges), ("errors.errorType", laid_errors_errorType), ("waybill/scan.words", laid_waybill_scan_words), ("waybill/subst.classes", laid_waybill_subst_classes), ("unicode/utf8.first", laid_unicode_utf8_first)], narrowed := true }
def AasaWritesUptoSaid : Prop := aasaWritesUptoRow.holds Tryz.pinned (OpenSpec.upto aasaWritesSpec)

end Rows
end Go.Proofs.YtcaiibkgajhohaaGreatDoor
