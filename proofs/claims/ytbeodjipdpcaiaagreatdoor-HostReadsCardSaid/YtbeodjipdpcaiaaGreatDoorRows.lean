/-
  NARROWER THAN 'FOR EVERY INPUT', by the rows' own cells (each row's printed sentence says how): HostCases: laid · HostNarrows: laid · HostShown: laid · HostReads: laid · HostPatterns: laid · UrlReads: laid · UrlParts: laid · UrlCases: laid · UrlBack: laid · UrlTexts: laid · UrlJoins: laid.
  DERIVED. THE GIVEN ROWS OF THIS SEAT. 11 by the template 'for every input the law returns true; each argument reads behind the call as it read before'; 0 by the template 'total and deterministic' (their statements: YtbeodjipdpcaiaaGreatDoorTotals.lean).
  GIVEN WITH THE SEED: the statements are not yours to turn. If you find one false, say at which input.
  Laid BY PROGRAM, IN A SANDBOX (cutbox-rows.mjs): the forced cells as the released guide's own fill.sh prints them over the translation 7f98b1c0fa2c10d0… (all of the seat's roots in one cut). By AI agents, Wed Nov 11 2026. No macro, syntax, notation, axiom, sorry.
-/
import Derived.Test.YtbeodjipdpcaiaaGreatDoorChecked
import GoSem.PinnedTables
import GoSem.Claim
import GoSem.ClaimJoined
import GoSem.ClaimMapViews
import Derived.JoinedTies
import Derived.KernelRfl
namespace Go.Proofs.YtbeodjipdpcaiaaGreatDoor
/- THE CELL 'sum', in the pinned program and in every row, IS THE sha256 OF THE DUMP (.gsa) THAT YtbeodjipdpcaiaaGreatDoorProg.lean LOADS. Nothing in Lean hashes anything: it is a label: what it is worth is what the hold of that sum in a sandbox is worth. -/
noncomputable def Tryz.pinned : Pinned := { name := "ytbeodjipdpcaiaagreatdoor", sum := "7f98b1c0fa2c10d0e3b78ac6610c7c372dad7ee12caf2dc46cc399b7164ec405", checked := Tryz.checked }
namespace Rows
def none {H : Type} : Left H := { results := [], args := [] }

/- WHAT THE LISTED PACKAGE-LEVEL VARIABLES READ AS WHEN THE CALL BEGINS. Each datum BY PROGRAM (the guide's laid-datum.mjs) off the statement by which the dump's own 'gosem.cut.vars' lays the variable. In a bare row this is a premise. The card (YtbeodjipdpcaiaaGreatDoorCards.lean) ties it to the program's text. -/
def laid_unicode_utf8_acceptRanges {H : Type} : DataW H := .agg [.agg [.lit (.int .u8 128), .lit (.int .u8 191)], .agg [.lit (.int .u8 160), .lit (.int .u8 191)], .agg [.lit (.int .u8 128), .lit (.int .u8 159)], .agg [.lit (.int .u8 144), .lit (.int .u8 191)], .agg [.lit (.int .u8 128), .lit (.int .u8 143)], .agg [.lit (.int .u8 0), .lit (.int .u8 0)], .agg [.lit (.int .u8 0), .lit (.int .u8 0)], .agg [.lit (.int .u8 0), .lit (.int .u8 0)], .agg [.lit (.int .u8 0), .lit (.int .u8 0)], .agg [.lit (.int .u8 0), .lit (.int .u8 0)], .agg [.lit (.int .u8 0), .lit (.int .u8 0)], .agg [.lit (.int .u8 0), .lit (.int .u8 0)], .agg [.lit (.int .u8 0), .lit (.int .u8 0)], .agg [.lit (.int .u8 0), .lit (.int .u8 0)], .agg [.lit (.int .u8 0), .lit (.int .u8 0)], .agg [.lit (.int .u8 0), .lit (.int .u8 0)]]
def laid_errors_errorType {H : Type} : DataW H := .iface "internal/reflectlite.rtype" (.agg [.ptr (.lit (.string [101, 114, 114, 111, 114]))])
def laid_waybill_label_allowed {H : Type} : DataW H := .agg [.agg [.lit (.int .i64 223), .lit (.int .i64 246)], .agg [.lit (.int .i64 248), .lit (.int .i64 8191)], .agg [.lit (.int .i64 11264), .lit (.int .i64 12287)], .agg [.lit (.int .i64 12293), .lit (.int .i64 55295)], .agg [.lit (.int .i64 63744), .lit (.int .i64 64975)], .agg [.lit (.int .i64 65008), .lit (.int .i64 65023)], .agg [.lit (.int .i64 65536), .lit (.int .i64 262143)]]
/-- One of Go's own tables, pinned by name: the form's constant. -/
def laid_unicode_utf8_first : DataW Unit := Go.Pinned.utf8First

/-- 'waybilllaw13.HostCases': WHATEVER THE INPUT: true; the input reads as it did. -/
def hostCasesSpec : ChangeSpec := { name := "hostCases", fn := fun _ => fun
  | [d1, d2] => { results := [.lit (.bool true)], args := [d1, d2] }
  | _ => none }
def hostCasesRow : OpenClaim := { program := "ytbeodjipdpcaiaagreatdoor", sum := "7f98b1c0fa2c10d0e3b78ac6610c7c372dad7ee12caf2dc46cc399b7164ec405", func := "waybill/waybilllaw13.HostCases", spec := "hostCases", inPlace := ["internal/bytealg.IndexByteString", "internal/bytealg.IndexString", "internal/bytealg.CountString", "math/bits.Add64", "internal/reflectlite.ValueOf", "(internal/reflectlite.Value).Type", "(internal/reflectlite.Value).IsNil", "internal/reflectlite.TypeOf", "(internal/reflectlite.Value).Elem", "(internal/reflectlite.Value).Set", "internal/abi.NoEscape", "internal/bytealg.MakeNoZero", "slices.overlaps[int]"], unfollowed := true, recurses := true, named := ["internal/bytealg.MaxLen", "unicode/utf8.first", "unicode/utf8.acceptRanges", "errors.errorType", "waybill/label.allowed"], apart := false, laid := [("unicode/utf8.acceptRanges", laid_unicode_utf8_acceptRanges), ("errors.errorType", laid_errors_errorType), ("waybill/label.allowed", laid_waybill_label_allowed), ("unicode/utf8.first", laid_unicode_utf8_first)] }
def HostCasesSaid : Prop := hostCasesRow.holds Tryz.pinned (OpenSpec.ofChange hostCasesSpec)

/-- ITS FALSE NEIGHBOUR: 'it returns false'. Refute it at one input. -/
def hostCasesWrong : ChangeSpec := { name := "hostCases", fn := fun _ => fun
  | [d1, d2] => { results := [.lit (.bool false)], args := [d1, d2] }
  | _ => none }
def HostCasesWrongFalsely : Prop := hostCasesRow.holds Tryz.pinned (OpenSpec.ofChange hostCasesWrong)

/-- 'waybilllaw13.HostNarrows': WHATEVER THE INPUT: true; the input reads as it did. -/
def hostNarrowsSpec : ChangeSpec := { name := "hostNarrows", fn := fun _ => fun
  | [d1, d2, d3] => { results := [.lit (.bool true)], args := [d1, d2, d3] }
  | _ => none }
def hostNarrowsRow : OpenClaim := { program := "ytbeodjipdpcaiaagreatdoor", sum := "7f98b1c0fa2c10d0e3b78ac6610c7c372dad7ee12caf2dc46cc399b7164ec405", func := "waybill/waybilllaw13.HostNarrows", spec := "hostNarrows", inPlace := ["internal/bytealg.IndexByteString", "internal/bytealg.IndexString", "internal/bytealg.CountString", "math/bits.Add64", "internal/reflectlite.ValueOf", "(internal/reflectlite.Value).Type", "(internal/reflectlite.Value).IsNil", "internal/reflectlite.TypeOf", "(internal/reflectlite.Value).Elem", "(internal/reflectlite.Value).Set", "internal/abi.NoEscape", "internal/bytealg.MakeNoZero", "slices.overlaps[int]"], unfollowed := true, recurses := true, named := ["internal/bytealg.MaxLen", "unicode/utf8.first", "unicode/utf8.acceptRanges", "errors.errorType", "waybill/label.allowed"], apart := false, laid := [("unicode/utf8.acceptRanges", laid_unicode_utf8_acceptRanges), ("errors.errorType", laid_errors_errorType), ("waybill/label.allowed", laid_waybill_label_allowed), ("unicode/utf8.first", laid_unicode_utf8_first)] }
def HostNarrowsSaid : Prop := hostNarrowsRow.holds Tryz.pinned (OpenSpec.ofChange hostNarrowsSpec)

/-- ITS FALSE NEIGHBOUR: 'it returns false'. Refute it at one input. -/
def hostNarrowsWrong : ChangeSpec := { name := "hostNarrows", fn := fun _ => fun
  | [d1, d2, d3] => { results := [.lit (.bool false)], args := [d1, d2, d3] }
  | _ => none }
def HostNarrowsWrongFalsely : Prop := hostNarrowsRow.holds Tryz.pinned (OpenSpec.ofChange hostNarrowsWrong)

/-- 'waybilllaw13.HostShown': WHATEVER THE INPUT: true; the input reads as it did. -/
def hostShownSpec : ChangeSpec := { name := "hostShown", fn := fun _ => fun
  | [d1, d2] => { results := [.lit (.bool true)], args := [d1, d2] }
  | _ => none }
def hostShownRow : OpenClaim := { program := "ytbeodjipdpcaiaagreatdoor", sum := "7f98b1c0fa2c10d0e3b78ac6610c7c372dad7ee12caf2dc46cc399b7164ec405", func := "waybill/waybilllaw13.HostShown", spec := "hostShown", inPlace := ["internal/bytealg.IndexByteString", "internal/bytealg.IndexString", "internal/bytealg.CountString", "math/bits.Add64", "internal/reflectlite.ValueOf", "(internal/reflectlite.Value).Type", "(internal/reflectlite.Value).IsNil", "internal/reflectlite.TypeOf", "(internal/reflectlite.Value).Elem", "(internal/reflectlite.Value).Set", "internal/abi.NoEscape", "internal/bytealg.MakeNoZero", "slices.overlaps[int]"], unfollowed := true, recurses := true, named := ["internal/bytealg.MaxLen", "unicode/utf8.first", "unicode/utf8.acceptRanges", "errors.errorType", "waybill/label.allowed"], apart := false, laid := [("unicode/utf8.acceptRanges", laid_unicode_utf8_acceptRanges), ("errors.errorType", laid_errors_errorType), ("waybill/label.allowed", laid_waybill_label_allowed), ("unicode/utf8.first", laid_unicode_utf8_first)] }
def HostShownSaid : Prop := hostShownRow.holds Tryz.pinned (OpenSpec.ofChange hostShownSpec)

/-- ITS FALSE NEIGHBOUR: 'it returns false'. Refute it at one input. -/
def hostShownWrong : ChangeSpec := { name := "hostShown", fn := fun _ => fun
  | [d1, d2] => { results := [.lit (.bool false)], args := [d1, d2] }
  | _ => none }
def HostShownWrongFalsely : Prop := hostShownRow.holds Tryz.pinned (OpenSpec.ofChange hostShownWrong)

/-- 'waybilllaw13.HostReads': WHATEVER THE INPUT: true; the input reads as it did. -/
def hostReadsSpec : ChangeSpec := { name := "hostReads", fn := fun _ => fun
  | [d] => { results := [.lit (.bool true)], args := [d] }
  | _ => none }
def hostReadsRow : OpenClaim := { program := "ytbeodjipdpcaiaagreatdoor", sum := "7f98b1c0fa2c10d0e3b78ac6610c7c372dad7ee12caf2dc46cc399b7164ec405", func := "waybill/waybilllaw13.HostReads", spec := "hostReads", inPlace := ["internal/bytealg.IndexByteString", "internal/bytealg.IndexString", "internal/bytealg.CountString", "math/bits.Add64", "internal/reflectlite.ValueOf", "(internal/reflectlite.Value).Type", "(internal/reflectlite.Value).IsNil", "internal/reflectlite.TypeOf", "(internal/reflectlite.Value).Elem", "(internal/reflectlite.Value).Set", "internal/abi.NoEscape", "internal/bytealg.MakeNoZero", "slices.overlaps[int]"], unfollowed := true, recurses := true, named := ["internal/bytealg.MaxLen", "unicode/utf8.first", "unicode/utf8.acceptRanges", "errors.errorType", "waybill/label.allowed"], apart := false, laid := [("unicode/utf8.acceptRanges", laid_unicode_utf8_acceptRanges), ("errors.errorType", laid_errors_errorType), ("waybill/label.allowed", laid_waybill_label_allowed), ("unicode/utf8.first", laid_unicode_utf8_first)] }
def HostReadsSaid : Prop := hostReadsRow.holds Tryz.pinned (OpenSpec.ofChange hostReadsSpec)

/-- ITS FALSE NEIGHBOUR: 'it returns false'. Refute it at one input. -/
def hostReadsWrong : ChangeSpec := { name := "hostReads", fn := fun _ => fun
  | [d] => { results := [.lit (.bool false)], args := [d] }
  | _ => none }
def HostReadsWrongFalsely : Prop := hostReadsRow.holds Tryz.pinned (OpenSpec.ofChange hostReadsWrong)

/-- 'waybilllaw13.HostPatterns': WHATEVER THE INPUT: true; the input reads as it did. -/
def hostPatternsSpec : ChangeSpec := { name := "hostPatterns", fn := fun _ => fun
  | [d1, d2] => { results := [.lit (.bool true)], args := [d1, d2] }
  | _ => none }
def hostPatternsRow : OpenClaim := { program := "ytbeodjipdpcaiaagreatdoor", sum := "7f98b1c0fa2c10d0e3b78ac6610c7c372dad7ee12caf2dc46cc399b7164ec405", func := "waybill/waybilllaw13.HostPatterns", spec := "hostPatterns", inPlace := ["internal/bytealg.IndexByteString", "internal/bytealg.IndexString", "internal/bytealg.CountString", "math/bits.Add64", "internal/reflectlite.ValueOf", "(internal/reflectlite.Value).Type", "(internal/reflectlite.Value).IsNil", "internal/reflectlite.TypeOf", "(internal/reflectlite.Value).Elem", "(internal/reflectlite.Value).Set", "internal/abi.NoEscape", "internal/bytealg.MakeNoZero", "slices.overlaps[int]"], unfollowed := true, recurses := true, named := ["internal/bytealg.MaxLen", "unicode/utf8.first", "unicode/utf8.acceptRanges", "errors.errorType", "waybill/label.allowed"], apart := false, laid := [("unicode/utf8.acceptRanges", laid_unicode_utf8_acceptRanges), ("errors.errorType", laid_errors_errorType), ("waybill/label.allowed", laid_waybill_label_allowed), ("unicode/utf8.first", laid_unicode_utf8_first)] }
def HostPatternsSaid : Prop := hostPatternsRow.holds Tryz.pinned (OpenSpec.ofChange hostPatternsSpec)

/-- ITS FALSE NEIGHBOUR: 'it returns false'. Refute it at one input. -/
def hostPatternsWrong : ChangeSpec := { name := "hostPatterns", fn := fun _ => fun
  | [d1, d2] => { results := [.lit (.bool false)], args := [d1, d2] }
  | _ => none }
def HostPatternsWrongFalsely : Prop := hostPatternsRow.holds Tryz.pinned (OpenSpec.ofChange hostPatternsWrong)

/-- 'waybilllaw14.UrlReads': WHATEVER THE INPUT: true; the input reads as it did. -/
def urlReadsSpec : ChangeSpec := { name := "urlReads", fn := fun _ => fun
  | [d] => { results := [.lit (.bool true)], args := [d] }
  | _ => none }
def urlReadsRow : OpenClaim := { program := "ytbeodjipdpcaiaagreatdoor", sum := "7f98b1c0fa2c10d0e3b78ac6610c7c372dad7ee12caf2dc46cc399b7164ec405", func := "waybill/waybilllaw14.UrlReads", spec := "urlReads", inPlace := ["internal/bytealg.IndexByteString", "internal/bytealg.IndexString", "internal/reflectlite.ValueOf", "(internal/reflectlite.Value).Type", "(internal/reflectlite.Value).IsNil", "internal/reflectlite.TypeOf", "(internal/reflectlite.Value).Elem", "(internal/reflectlite.Value).Set", "internal/bytealg.CountString", "math/bits.Add64", "internal/abi.NoEscape", "internal/bytealg.MakeNoZero", "slices.overlaps[int]"], unfollowed := true, recurses := true, named := ["unicode/utf8.first", "unicode/utf8.acceptRanges", "internal/bytealg.MaxLen", "errors.errorType", "waybill/label.allowed"], apart := false, laid := [("unicode/utf8.acceptRanges", laid_unicode_utf8_acceptRanges), ("errors.errorType", laid_errors_errorType), ("waybill/label.allowed", laid_waybill_label_allowed), ("unicode/utf8.first", laid_unicode_utf8_first)] }
def UrlReadsSaid : Prop := urlReadsRow.holds Tryz.pinned (OpenSpec.ofChange urlReadsSpec)

/-- ITS FALSE NEIGHBOUR: 'it returns false'. Refute it at one input. -/
def urlReadsWrong : ChangeSpec := { name := "urlReads", fn := fun _ => fun
  | [d] => { results := [.lit (.bool false)], args := [d] }
  | _ => none }
def UrlReadsWrongFalsely : Prop := urlReadsRow.holds Tryz.pinned (OpenSpec.ofChange urlReadsWrong)

/-- 'waybilllaw14.UrlParts': WHATEVER THE INPUT: true; the input reads as it did. -/
def urlPartsSpec : ChangeSpec := { name := "urlParts", fn := fun _ => fun
  | [d1, d2, d3, d4, d5] => { results := [.lit (.bool true)], args := [d1, d2, d3, d4, d5] }
  | _ => none }
def urlPartsRow : OpenClaim := { program := "ytbeodjipdpcaiaagreatdoor", sum := "7f98b1c0fa2c10d0e3b78ac6610c7c372dad7ee12caf2dc46cc399b7164ec405", func := "waybill/waybilllaw14.UrlParts", spec := "urlParts", inPlace := ["internal/bytealg.IndexByteString", "internal/bytealg.IndexString", "internal/reflectlite.ValueOf", "(internal/reflectlite.Value).Type", "(internal/reflectlite.Value).IsNil", "internal/reflectlite.TypeOf", "(internal/reflectlite.Value).Elem", "(internal/reflectlite.Value).Set", "internal/bytealg.CountString", "math/bits.Add64", "internal/abi.NoEscape", "internal/bytealg.MakeNoZero", "slices.overlaps[int]"], unfollowed := true, recurses := true, named := ["unicode/utf8.first", "unicode/utf8.acceptRanges", "internal/bytealg.MaxLen", "errors.errorType", "waybill/label.allowed"], apart := false, laid := [("unicode/utf8.acceptRanges", laid_unicode_utf8_acceptRanges), ("errors.errorType", laid_errors_errorType), ("waybill/label.allowed", laid_waybill_label_allowed), ("unicode/utf8.first", laid_unicode_utf8_first)] }
def UrlPartsSaid : Prop := urlPartsRow.holds Tryz.pinned (OpenSpec.ofChange urlPartsSpec)

/-- ITS FALSE NEIGHBOUR: 'it returns false'. Refute it at one input. -/
def urlPartsWrong : ChangeSpec := { name := "urlParts", fn := fun _ => fun
  | [d1, d2, d3, d4, d5] => { results := [.lit (.bool false)], args := [d1, d2, d3, d4, d5] }
  | _ => none }
def UrlPartsWrongFalsely : Prop := urlPartsRow.holds Tryz.pinned (OpenSpec.ofChange urlPartsWrong)

/-- 'waybilllaw14.UrlCases': WHATEVER THE INPUT: true; the input reads as it did. -/
def urlCasesSpec : ChangeSpec := { name := "urlCases", fn := fun _ => fun
  | [d1, d2, d3] => { results := [.lit (.bool true)], args := [d1, d2, d3] }
  | _ => none }
def urlCasesRow : OpenClaim := { program := "ytbeodjipdpcaiaagreatdoor", sum := "7f98b1c0fa2c10d0e3b78ac6610c7c372dad7ee12caf2dc46cc399b7164ec405", func := "waybill/waybilllaw14.UrlCases", spec := "urlCases", inPlace := ["internal/bytealg.IndexByteString", "internal/bytealg.IndexString", "internal/reflectlite.ValueOf", "(internal/reflectlite.Value).Type", "(internal/reflectlite.Value).IsNil", "internal/reflectlite.TypeOf", "(internal/reflectlite.Value).Elem", "(internal/reflectlite.Value).Set", "internal/bytealg.CountString", "math/bits.Add64", "internal/abi.NoEscape", "internal/bytealg.MakeNoZero", "slices.overlaps[int]"], unfollowed := true, recurses := true, named := ["unicode/utf8.first", "unicode/utf8.acceptRanges", "internal/bytealg.MaxLen", "errors.errorType", "waybill/label.allowed"], apart := false, laid := [("unicode/utf8.acceptRanges", laid_unicode_utf8_acceptRanges), ("errors.errorType", laid_errors_errorType), ("waybill/label.allowed", laid_waybill_label_allowed), ("unicode/utf8.first", laid_unicode_utf8_first)] }
def UrlCasesSaid : Prop := urlCasesRow.holds Tryz.pinned (OpenSpec.ofChange urlCasesSpec)

/-- ITS FALSE NEIGHBOUR: 'it returns false'. Refute it at one input. -/
def urlCasesWrong : ChangeSpec := { name := "urlCases", fn := fun _ => fun
  | [d1, d2, d3] => { results := [.lit (.bool false)], args := [d1, d2, d3] }
  | _ => none }
def UrlCasesWrongFalsely : Prop := urlCasesRow.holds Tryz.pinned (OpenSpec.ofChange urlCasesWrong)

/-- 'waybilllaw14.UrlBack': WHATEVER THE INPUT: true; the input reads as it did. -/
def urlBackSpec : ChangeSpec := { name := "urlBack", fn := fun _ => fun
  | [d] => { results := [.lit (.bool true)], args := [d] }
  | _ => none }
def urlBackRow : OpenClaim := { program := "ytbeodjipdpcaiaagreatdoor", sum := "7f98b1c0fa2c10d0e3b78ac6610c7c372dad7ee12caf2dc46cc399b7164ec405", func := "waybill/waybilllaw14.UrlBack", spec := "urlBack", inPlace := ["internal/bytealg.IndexByteString", "internal/bytealg.IndexString", "internal/reflectlite.ValueOf", "(internal/reflectlite.Value).Type", "(internal/reflectlite.Value).IsNil", "internal/reflectlite.TypeOf", "(internal/reflectlite.Value).Elem", "(internal/reflectlite.Value).Set", "internal/bytealg.CountString", "math/bits.Add64", "internal/abi.NoEscape", "internal/bytealg.MakeNoZero", "slices.overlaps[int]"], unfollowed := true, recurses := true, named := ["unicode/utf8.first", "unicode/utf8.acceptRanges", "internal/bytealg.MaxLen", "errors.errorType", "waybill/label.allowed"], apart := false, laid := [("unicode/utf8.acceptRanges", laid_unicode_utf8_acceptRanges), ("errors.errorType", laid_errors_errorType), ("waybill/label.allowed", laid_waybill_label_allowed), ("unicode/utf8.first", laid_unicode_utf8_first)] }
def UrlBackSaid : Prop := urlBackRow.holds Tryz.pinned (OpenSpec.ofChange urlBackSpec)

/-- ITS FALSE NEIGHBOUR: 'it returns false'. Refute it at one input. -/
def urlBackWrong : ChangeSpec := { name := "urlBack", fn := fun _ => fun
  | [d] => { results := [.lit (.bool false)], args := [d] }
  | _ => none }
def UrlBackWrongFalsely : Prop := urlBackRow.holds Tryz.pinned (OpenSpec.ofChange urlBackWrong)

/-- 'waybilllaw14.UrlTexts': WHATEVER THE INPUT: true; the input reads as it did. -/
def urlTextsSpec : ChangeSpec := { name := "urlTexts", fn := fun _ => fun
  | [d] => { results := [.lit (.bool true)], args := [d] }
  | _ => none }
def urlTextsRow : OpenClaim := { program := "ytbeodjipdpcaiaagreatdoor", sum := "7f98b1c0fa2c10d0e3b78ac6610c7c372dad7ee12caf2dc46cc399b7164ec405", func := "waybill/waybilllaw14.UrlTexts", spec := "urlTexts", inPlace := ["internal/bytealg.IndexByteString", "internal/bytealg.IndexString", "internal/reflectlite.ValueOf", "(internal/reflectlite.Value).Type", "(internal/reflectlite.Value).IsNil", "internal/reflectlite.TypeOf", "(internal/reflectlite.Value).Elem", "(internal/reflectlite.Value).Set", "internal/bytealg.CountString", "math/bits.Add64", "internal/abi.NoEscape", "internal/bytealg.MakeNoZero", "slices.overlaps[int]"], unfollowed := true, recurses := true, named := ["unicode/utf8.first", "unicode/utf8.acceptRanges", "internal/bytealg.MaxLen", "errors.errorType", "waybill/label.allowed"], apart := false, laid := [("unicode/utf8.acceptRanges", laid_unicode_utf8_acceptRanges), ("errors.errorType", laid_errors_errorType), ("waybill/label.allowed", laid_waybill_label_allowed), ("unicode/utf8.first", laid_unicode_utf8_first)] }
def UrlTextsSaid : Prop := urlTextsRow.holds Tryz.pinned (OpenSpec.ofChange urlTextsSpec)

/-- ITS FALSE NEIGHBOUR: 'it returns false'. Refute it at one input. -/
def urlTextsWrong : ChangeSpec := { name := "urlTexts", fn := fun _ => fun
  | [d] => { results := [.lit (.bool false)], args := [d] }
  | _ => none }
def UrlTextsWrongFalsely : Prop := urlTextsRow.holds Tryz.pinned (OpenSpec.ofChange urlTextsWrong)

/-- 'waybilllaw14.UrlJoins': WHATEVER THE INPUT: true; the input reads as it did. -/
def urlJoinsSpec : ChangeSpec := { name := "urlJoins", fn := fun _ => fun
  | [d1, d2] => { results := [.lit (.bool true)], args := [d1, d2] }
  | _ => none }
def urlJoinsRow : OpenClaim := { program := "ytbeodjipdpcaiaagreatdoor", sum := "7f98b1c0fa2c10d0e3b78ac6610c7c372dad7ee12caf2dc46cc399b7164ec405", func := "waybill/waybilllaw14.UrlJoins", spec := "urlJoins", inPlace := ["internal/bytealg.IndexByteString", "internal/bytealg.IndexString", "internal/reflectlite.ValueOf", "(internal/reflectlite.Value).Type", "(internal/reflectlite.Value).IsNil", "internal/reflectlite.TypeOf", "(internal/reflectlite.Value).Elem", "(internal/reflectlite.Value).Set", "internal/bytealg.CountString", "math/bits.Add64", "internal/abi.NoEscape", "internal/bytealg.MakeNoZero", "slices.overlaps[int]"], unfollowed := true, recurses := true, named := ["unicode/utf8.first", "unicode/utf8.acceptRanges", "internal/bytealg.MaxLen", "errors.errorType", "waybill/label.allowed"], apart := false, laid := [("unicode/utf8.acceptRanges", laid_unicode_utf8_acceptRanges), ("errors.errorType", laid_errors_errorType), ("waybill/label.allowed", laid_waybill_label_allowed), ("unicode/utf8.first", laid_unicode_utf8_first)] }
def UrlJoinsSaid : Prop := urlJoinsRow.holds Tryz.pinned (OpenSpec.ofChange urlJoinsSpec)

/-- ITS FALSE NEIGHBOUR: 'it returns false'. Refute it at one input. -/
def urlJoinsWrong : ChangeSpec := { name := "urlJoins", fn := fun _ => fun
  | [d1, d2] => { results := [.lit (.bool false)], args := [d1, d2] }
  | _ => none }
def UrlJoinsWrongFalsely : Prop := urlJoinsRow.holds Tryz.pinned (OpenSpec.ofChange urlJoinsWrong)

/- THE SECOND FORM. 'bulk': how many values and letters a reading holds, each counted each time it is reached (what is shared counts as often as it is met; a slice's spare places count too). A statement '..UptoSaid' is the law's where the arguments, and the package variables that the reading takes, are together of bulk at most 1048576: NARROWER than '..Said'. Prove '..Said' where nothing that the law and all that it calls make is longer than what came in: it says more and counts as full. Else prove '..UptoSaid'. A law counts once. -/
mutual
def uptoBulk {H : Type} : DataW H → Nat
  | .lit (.string bytes) => bytes.length + 1
  | .lit _ => 1
  | .nil => 1
  | .ptr d => uptoBulk d + 1
  | .slice elems spare => uptoBulkAll elems + uptoBulkAll spare + 1
  | .agg parts => uptoBulkAll parts + 1
  | .iface _ d => uptoBulk d + 1
  | .map entries => uptoBulkEntries entries + 1
  | .held _ => 1
def uptoBulkAll {H : Type} : List (DataW H) → Nat
  | [] => 0
  | d :: r => uptoBulk d + uptoBulkAll r
def uptoBulkEntries {H : Type} : List (Lit × DataW H) → Nat
  | [] => 0
  | x :: r => uptoBulkEntry x + uptoBulkEntries r
def uptoBulkEntry {H : Type} : Lit × DataW H → Nat
  | (.string bytes, d) => bytes.length + uptoBulk d + 1
  | (_, d) => uptoBulk d + 1
 end
def uptoSmall : (H : Type) → List (DataW H) → Bool := fun _ ds => decide (uptoBulkAll ds ≤ 1048576)
def OpenSpec.upto (s : _root_.Go.ChangeSpec) : _root_.Go.OpenSpec := { _root_.Go.OpenSpec.ofChange s with cond := some uptoSmall }

/-- 'waybilllaw13.HostCases', WHERE WHAT IT READS IS OF BULK AT MOST 1048576: true; the input reads as it did. -/
def hostCasesUptoRow : OpenClaim := { program := "ytbeodjipdpcaiaagreatdoor", sum := "7f98b1c0fa2c10d0e3b78ac6610c7c372dad7ee12caf2dc46cc399b7164ec405", func := "waybill/waybilllaw13.HostCases", spec := "hostCases", inPlace := ["internal/bytealg.IndexByteString", "internal/bytealg.IndexString", "internal/bytealg.CountString", "math/bits.Add64", "internal/reflectlite.ValueOf", "(internal/reflectlite.Value).Type", "(internal/reflectlite.Value).IsNil", "internal/reflectlite.TypeOf", "(internal/reflectlite.Value).Elem", "(internal/reflectlite.Value).Set", "internal/abi.NoEscape", "internal/bytealg.MakeNoZero", "slices.overlaps[int]"], unfollowed := true, recurses := true, named := ["internal/bytealg.MaxLen", "unicode/utf8.first", "unicode/utf8.acceptRanges", "errors.errorType", "waybill/label.allowed"], apart := false, laid := [("unicode/utf8.acceptRanges", laid_unicode_utf8_acceptRanges), ("errors.errorType", laid_errors_errorType), ("waybill/label.allowed", laid_waybill_label_allowed), ("unicode/utf8.first", laid_unicode_utf8_first)], narrowed := true }
def HostCasesUptoSaid : Prop := hostCasesUptoRow.holds Tryz.pinned (OpenSpec.upto hostCasesSpec)

/-- 'waybilllaw13.HostNarrows', WHERE WHAT IT READS IS OF BULK AT MOST 1048576: true; the input reads as it did. -/
def hostNarrowsUptoRow : OpenClaim := { program := "ytbeodjipdpcaiaagreatdoor", sum := "7f98b1c0fa2c10d0e3b78ac6610c7c372dad7ee12caf2dc46cc399b7164ec405", func := "waybill/waybilllaw13.HostNarrows", spec := "hostNarrows", inPlace := ["internal/bytealg.IndexByteString", "internal/bytealg.IndexString", "internal/bytealg.CountString", "math/bits.Add64", "internal/reflectlite.ValueOf", "(internal/reflectlite.Value).Type", "(internal/reflectlite.Value).IsNil", "internal/reflectlite.TypeOf", "(internal/reflectlite.Value).Elem", "(internal/reflectlite.Value).Set", "internal/abi.NoEscape", "internal/bytealg.MakeNoZero", "slices.overlaps[int]"], unfollowed := true, recurses := true, named := ["internal/bytealg.MaxLen", "unicode/utf8.first", "unicode/utf8.acceptRanges", "errors.errorType", "waybill/label.allowed"], apart := false, laid := [("unicode/utf8.acceptRanges", laid_unicode_utf8_acceptRanges), ("errors.errorType", laid_errors_errorType), ("waybill/label.allowed", laid_waybill_label_allowed), ("unicode/utf8.first", laid_unicode_utf8_first)], narrowed := true }
def HostNarrowsUptoSaid : Prop := hostNarrowsUptoRow.holds Tryz.pinned (OpenSpec.upto hostNarrowsSpec)

/-- 'waybilllaw13.HostShown', WHERE WHAT IT READS IS OF BULK AT MOST 1048576: true; the input reads as it did. -/
def hostShownUptoRow : OpenClaim := { program := "ytbeodjipdpcaiaagreatdoor", sum := "7f98b1c0fa2c10d0e3b78ac6610c7c372dad7ee12caf2dc46cc399b7164ec405", func := "waybill/waybilllaw13.HostShown", spec := "hostShown", inPlace := ["internal/bytealg.IndexByteString", "internal/bytealg.IndexString", "internal/bytealg.CountString", "math/bits.Add64", "internal/reflectlite.ValueOf", "(internal/reflectlite.Value).Type", "(internal/reflectlite.Value).IsNil", "internal/reflectlite.TypeOf", "(internal/reflectlite.Value).Elem", "(internal/reflectlite.Value).Set", "internal/abi.NoEscape", "internal/bytealg.MakeNoZero", "slices.overlaps[int]"], unfollowed := true, recurses := true, named := ["internal/bytealg.MaxLen", "unicode/utf8.first", "unicode/utf8.acceptRanges", "errors.errorType", "waybill/label.allowed"], apart := false, laid := [("unicode/utf8.acceptRanges", laid_unicode_utf8_acceptRanges), ("errors.errorType", laid_errors_errorType), ("waybill/label.allowed", laid_waybill_label_allowed), ("unicode/utf8.first", laid_unicode_utf8_first)], narrowed := true }
def HostShownUptoSaid : Prop := hostShownUptoRow.holds Tryz.pinned (OpenSpec.upto hostShownSpec)

/-- 'waybilllaw13.HostReads', WHERE WHAT IT READS IS OF BULK AT MOST 1048576: true; the input reads as it did. -/
def hostReadsUptoRow : OpenClaim := { program := "ytbeodjipdpcaiaagreatdoor", sum := "7f98b1c0fa2c10d0e3b78ac6610c7c372dad7ee12caf2dc46cc399b7164ec405", func := "waybill/waybilllaw13.HostReads", spec := "hostReads", inPlace := ["internal/bytealg.IndexByteString", "internal/bytealg.IndexString", "internal/bytealg.CountString", "math/bits.Add64", "internal/reflectlite.ValueOf", "(internal/reflectlite.Value).Type", "(internal/reflectlite.Value).IsNil", "internal/reflectlite.TypeOf", "(internal/reflectlite.Value).Elem", "(internal/reflectlite.Value).Set", "internal/abi.NoEscape", "internal/bytealg.MakeNoZero", "slices.overlaps[int]"], unfollowed := true, recurses := true, named := ["internal/bytealg.MaxLen", "unicode/utf8.first", "unicode/utf8.acceptRanges", "errors.errorType", "waybill/label.allowed"], apart := false, laid := [("unicode/utf8.acceptRanges", laid_unicode_utf8_acceptRanges), ("errors.errorType", laid_errors_errorType), ("waybill/label.allowed", laid_waybill_label_allowed), ("unicode/utf8.first", laid_unicode_utf8_first)], narrowed := true }
def HostReadsUptoSaid : Prop := hostReadsUptoRow.holds Tryz.pinned (OpenSpec.upto hostReadsSpec)

/-- 'waybilllaw13.HostPatterns', WHERE WHAT IT READS IS OF BULK AT MOST 1048576: true; the input reads as it did. -/
def hostPatternsUptoRow : OpenClaim := { program := "ytbeodjipdpcaiaagreatdoor", sum := "7f98b1c0fa2c10d0e3b78ac6610c7c372dad7ee12caf2dc46cc399b7164ec405", func := "waybill/waybilllaw13.HostPatterns", spec := "hostPatterns", inPlace := ["internal/bytealg.IndexByteString", "internal/bytealg.IndexString", "internal/bytealg.CountString", "math/bits.Add64", "internal/reflectlite.ValueOf", "(internal/reflectlite.Value).Type", "(internal/reflectlite.Value).IsNil", "internal/reflectlite.TypeOf", "(internal/reflectlite.Value).Elem", "(internal/reflectlite.Value).Set", "internal/abi.NoEscape", "internal/bytealg.MakeNoZero", "slices.overlaps[int]"], unfollowed := true, recurses := true, named := ["internal/bytealg.MaxLen", "unicode/utf8.first", "unicode/utf8.acceptRanges", "errors.errorType", "waybill/label.allowed"], apart := false, laid := [("unicode/utf8.acceptRanges", laid_unicode_utf8_acceptRanges), ("errors.errorType", laid_errors_errorType), ("waybill/label.allowed", laid_waybill_label_allowed), ("unicode/utf8.first", laid_unicode_utf8_first)], narrowed := true }
def HostPatternsUptoSaid : Prop := hostPatternsUptoRow.holds Tryz.pinned (OpenSpec.upto hostPatternsSpec)

/-- 'waybilllaw14.UrlReads', WHERE WHAT IT READS IS OF BULK AT MOST 1048576: true; the input reads as it did. -/
def urlReadsUptoRow : OpenClaim := { program := "ytbeodjipdpcaiaagreatdoor", sum := "7f98b1c0fa2c10d0e3b78ac6610c7c372dad7ee12caf2dc46cc399b7164ec405", func := "waybill/waybilllaw14.UrlReads", spec := "urlReads", inPlace := ["internal/bytealg.IndexByteString", "internal/bytealg.IndexString", "internal/reflectlite.ValueOf", "(internal/reflectlite.Value).Type", "(internal/reflectlite.Value).IsNil", "internal/reflectlite.TypeOf", "(internal/reflectlite.Value).Elem", "(internal/reflectlite.Value).Set", "internal/bytealg.CountString", "math/bits.Add64", "internal/abi.NoEscape", "internal/bytealg.MakeNoZero", "slices.overlaps[int]"], unfollowed := true, recurses := true, named := ["unicode/utf8.first", "unicode/utf8.acceptRanges", "internal/bytealg.MaxLen", "errors.errorType", "waybill/label.allowed"], apart := false, laid := [("unicode/utf8.acceptRanges", laid_unicode_utf8_acceptRanges), ("errors.errorType", laid_errors_errorType), ("waybill/label.allowed", laid_waybill_label_allowed), ("unicode/utf8.first", laid_unicode_utf8_first)], narrowed := true }
def UrlReadsUptoSaid : Prop := urlReadsUptoRow.holds Tryz.pinned (OpenSpec.upto urlReadsSpec)

/-- 'waybilllaw14.UrlParts', WHERE WHAT IT READS IS OF BULK AT MOST 1048576: true; the input reads as it did. -/
def urlPartsUptoRow : OpenClaim := { program := "ytbeodjipdpcaiaagreatdoor", sum := "7f98b1c0fa2c10d0e3b78ac6610c7c372dad7ee12caf2dc46cc399b7164ec405", func := "waybill/waybilllaw14.UrlParts", spec := "urlParts", inPlace := ["internal/bytealg.IndexByteString", "internal/bytealg.IndexString", "internal/reflectlite.ValueOf", "(internal/reflectlite.Value).Type", "(internal/reflectlite.Value).IsNil", "internal/reflectlite.TypeOf", "(internal/reflectlite.Value).Elem", "(internal/reflectlite.Value).Set", "internal/bytealg.CountString", "math/bits.Add64", "internal/abi.NoEscape", "internal/bytealg.MakeNoZero", "slices.overlaps[int]"], unfollowed := true, recurses := true, named := ["unicode/utf8.first", "unicode/utf8.acceptRanges", "internal/bytealg.MaxLen", "errors.errorType", "waybill/label.allowed"], apart := false, laid := [("unicode/utf8.acceptRanges", laid_unicode_utf8_acceptRanges), ("errors.errorType", laid_errors_errorType), ("waybill/label.allowed", laid_waybill_label_allowed), ("unicode/utf8.first", laid_unicode_utf8_first)], narrowed := true }
def UrlPartsUptoSaid : Prop := urlPartsUptoRow.holds Tryz.pinned (OpenSpec.upto urlPartsSpec)

/-- 'waybilllaw14.UrlCases', WHERE WHAT IT READS IS OF BULK AT MOST 1048576: true; the input reads as it did. -/
def urlCasesUptoRow : OpenClaim := { program := "ytbeodjipdpcaiaagreatdoor", sum := "7f98b1c0fa2c10d0e3b78ac6610c7c372dad7ee12caf2dc46cc399b7164ec405", func := "waybill/waybilllaw14.UrlCases", spec := "urlCases", inPlace := ["internal/bytealg.IndexByteString", "internal/bytealg.IndexString", "internal/reflectlite.ValueOf", "(internal/reflectlite.Value).Type", "(internal/reflectlite.Value).IsNil", "internal/reflectlite.TypeOf", "(internal/reflectlite.Value).Elem", "(internal/reflectlite.Value).Set", "internal/bytealg.CountString", "math/bits.Add64", "internal/abi.NoEscape", "internal/bytealg.MakeNoZero", "slices.overlaps[int]"], unfollowed := true, recurses := true, named := ["unicode/utf8.first", "unicode/utf8.acceptRanges", "internal/bytealg.MaxLen", "errors.errorType", "waybill/label.allowed"], apart := false, laid := [("unicode/utf8.acceptRanges", laid_unicode_utf8_acceptRanges), ("errors.errorType", laid_errors_errorType), ("waybill/label.allowed", laid_waybill_label_allowed), ("unicode/utf8.first", laid_unicode_utf8_first)], narrowed := true }
def UrlCasesUptoSaid : Prop := urlCasesUptoRow.holds Tryz.pinned (OpenSpec.upto urlCasesSpec)

/-- 'waybilllaw14.UrlBack', WHERE WHAT IT READS IS OF BULK AT MOST 1048576: true; the input reads as it did. -/
def urlBackUptoRow : OpenClaim := { program := "ytbeodjipdpcaiaagreatdoor", sum := "7f98b1c0fa2c10d0e3b78ac6610c7c372dad7ee12caf2dc46cc399b7164ec405", func := "waybill/waybilllaw14.UrlBack", spec := "urlBack", inPlace := ["internal/bytealg.IndexByteString", "internal/bytealg.IndexString", "internal/reflectlite.ValueOf", "(internal/reflectlite.Value).Type", "(internal/reflectlite.Value).IsNil", "internal/reflectlite.TypeOf", "(internal/reflectlite.Value).Elem", "(internal/reflectlite.Value).Set", "internal/bytealg.CountString", "math/bits.Add64", "internal/abi.NoEscape", "internal/bytealg.MakeNoZero", "slices.overlaps[int]"], unfollowed := true, recurses := true, named := ["unicode/utf8.first", "unicode/utf8.acceptRanges", "internal/bytealg.MaxLen", "errors.errorType", "waybill/label.allowed"], apart := false, laid := [("unicode/utf8.acceptRanges", laid_unicode_utf8_acceptRanges), ("errors.errorType", laid_errors_errorType), ("waybill/label.allowed", laid_waybill_label_allowed), ("unicode/utf8.first", laid_unicode_utf8_first)], narrowed := true }
def UrlBackUptoSaid : Prop := urlBackUptoRow.holds Tryz.pinned (OpenSpec.upto urlBackSpec)

/-- 'waybilllaw14.UrlTexts', WHERE WHAT IT READS IS OF BULK AT MOST 1048576: true; the input reads as it did. -/
def urlTextsUptoRow : OpenClaim := { program := "ytbeodjipdpcaiaagreatdoor", sum := "7f98b1c0fa2c10d0e3b78ac6610c7c372dad7ee12caf2dc46cc399b7164ec405", func := "waybill/waybilllaw14.UrlTexts", spec := "urlTexts", inPlace := ["internal/bytealg.IndexByteString", "internal/bytealg.IndexString", "internal/reflectlite.ValueOf", "(internal/reflectlite.Value).Type", "(internal/reflectlite.Value).IsNil", "internal/reflectlite.TypeOf", "(internal/reflectlite.Value).Elem", "(internal/reflectlite.Value).Set", "internal/bytealg.CountString", "math/bits.Add64", "internal/abi.NoEscape", "internal/bytealg.MakeNoZero", "slices.overlaps[int]"], unfollowed := true, recurses := true, named := ["unicode/utf8.first", "unicode/utf8.acceptRanges", "internal/bytealg.MaxLen", "errors.errorType", "waybill/label.allowed"], apart := false, laid := [("unicode/utf8.acceptRanges", laid_unicode_utf8_acceptRanges), ("errors.errorType", laid_errors_errorType), ("waybill/label.allowed", laid_waybill_label_allowed), ("unicode/utf8.first", laid_unicode_utf8_first)], narrowed := true }
def UrlTextsUptoSaid : Prop := urlTextsUptoRow.holds Tryz.pinned (OpenSpec.upto urlTextsSpec)

/-- 'waybilllaw14.UrlJoins', WHERE WHAT IT READS IS OF BULK AT MOST 1048576: true; the input reads as it did. -/
def urlJoinsUptoRow : OpenClaim := { program := "ytbeodjipdpcaiaagreatdoor", sum := "7f98b1c0fa2c10d0e3b78ac6610c7c372dad7ee12caf2dc46cc399b7164ec405", func := "waybill/waybilllaw14.UrlJoins", spec := "urlJoins", inPlace := ["internal/bytealg.IndexByteString", "internal/bytealg.IndexString", "internal/reflectlite.ValueOf", "(internal/reflectlite.Value).Type", "(internal/reflectlite.Value).IsNil", "internal/reflectlite.TypeOf", "(internal/reflectlite.Value).Elem", "(internal/reflectlite.Value).Set", "internal/bytealg.CountString", "math/bits.Add64", "internal/abi.NoEscape", "internal/bytealg.MakeNoZero", "slices.overlaps[int]"], unfollowed := true, recurses := true, named := ["unicode/utf8.first", "unicode/utf8.acceptRanges", "internal/bytealg.MaxLen", "errors.errorType", "waybill/label.allowed"], apart := false, laid := [("unicode/utf8.acceptRanges", laid_unicode_utf8_acceptRanges), ("errors.errorType", laid_errors_errorType), ("waybill/label.allowed", laid_waybill_label_allowed), ("unicode/utf8.first", laid_unicode_utf8_first)], narrowed := true }
def UrlJoinsUptoSaid : Prop := urlJoinsUptoRow.holds Tryz.pinned (OpenSpec.upto urlJoinsSpec)

end Rows
end Go.Proofs.YtbeodjipdpcaiaaGreatDoor
