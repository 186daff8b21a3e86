/-
  NARROWER THAN 'FOR EVERY INPUT', by the rows' own cells (each row's printed sentence says how): PickCustom: laid · PickWeb: laid · PickOrder: laid · PickMore: laid · PickRefused: laid · IdentApps: laid · ArenaPlays: laid · ScanNumbers: laid.
  DERIVED. THE GIVEN ROWS OF THIS SEAT. 8 by the template 'for every input the law returns true; each argument reads behind the call as it read before'; 0 by the template 'total and deterministic' (their statements: YtjbbpmjbohedkaaDoorTotals.lean).
  GIVEN WITH THE SEED: the statements are not yours to turn. If you find one false, say at which input.
  Laid BY PROGRAM, IN A SANDBOX (cutbox-rows.mjs): the forced cells as the released guide's own fill.sh prints them over the translation 109f1829aae2429e… (all of the seat's roots in one cut). By AI agents, Wed Nov 11 2026. No macro, syntax, notation, axiom, sorry.
-/
import Derived.Test.YtjbbpmjbohedkaaDoorChecked
import GoSem.PinnedTables
import GoSem.Claim
import GoSem.ClaimJoined
import GoSem.ClaimMapViews
import Derived.JoinedTies
import Derived.KernelRfl
namespace Go.Proofs.YtjbbpmjbohedkaaDoor
/- THE CELL 'sum', in the pinned program and in every row, IS THE sha256 OF THE DUMP (.gsa) THAT YtjbbpmjbohedkaaDoorProg.lean LOADS. Nothing in Lean hashes anything: it is a label: what it is worth is what the hold of that sum in a sandbox is worth. -/
noncomputable def Tryd.pinned : Pinned := { name := "ytjbbpmjbohedkaadoor", sum := "109f1829aae2429eb10470ef2d8038a20784cba1f4836379db8dd53a5ea1656d", checked := Tryd.checked }
namespace Rows
def none {H : Type} : Left H := { results := [], args := [] }

/- WHAT THE LISTED PACKAGE-LEVEL VARIABLES READ AS WHEN THE CALL BEGINS. Each datum BY PROGRAM (the guide's laid-datum.mjs) off the statement by which the dump's own 'gosem.cut.vars' lays the variable. In a bare row this is a premise. The card (YtjbbpmjbohedkaaDoorCards.lean) ties it to the program's text. -/
def laid_waybill_pick_kinds {H : Type} : DataW H := .agg [.lit (.string []), .lit (.string [114, 101, 106, 101, 99, 116]), .lit (.string [98, 114, 111, 119, 115, 101, 114]), .lit (.string [111, 112, 101, 110]), .lit (.string [99, 104, 111, 111, 115, 101])]
def laid_waybill_pick_reasons {H : Type} : DataW H := .agg [.lit (.string []), .lit (.string [117, 114, 108]), .lit (.string [117, 115, 101, 114]), .lit (.string [104, 111, 115, 116]), .lit (.string [110, 111, 98, 111, 100, 121]), .lit (.string [117, 110, 107, 110, 111, 119, 110]), .lit (.string [114, 117, 108, 101, 115]), .lit (.string [111, 102, 102]), .lit (.string [111, 110, 101]), .lit (.string [115, 101, 118, 101, 114, 97, 108])]
def laid_errors_errorType {H : Type} : DataW H := .iface "internal/reflectlite.rtype" (.agg [.ptr (.lit (.string [101, 114, 114, 111, 114]))])
def laid_unicode_utf8_acceptRanges {H : Type} : DataW H := .agg [.agg [.lit (.int .u8 128), .lit (.int .u8 191)], .agg [.lit (.int .u8 160), .lit (.int .u8 191)], .agg [.lit (.int .u8 128), .lit (.int .u8 159)], .agg [.lit (.int .u8 144), .lit (.int .u8 191)], .agg [.lit (.int .u8 128), .lit (.int .u8 143)], .agg [.lit (.int .u8 0), .lit (.int .u8 0)], .agg [.lit (.int .u8 0), .lit (.int .u8 0)], .agg [.lit (.int .u8 0), .lit (.int .u8 0)], .agg [.lit (.int .u8 0), .lit (.int .u8 0)], .agg [.lit (.int .u8 0), .lit (.int .u8 0)], .agg [.lit (.int .u8 0), .lit (.int .u8 0)], .agg [.lit (.int .u8 0), .lit (.int .u8 0)], .agg [.lit (.int .u8 0), .lit (.int .u8 0)], .agg [.lit (.int .u8 0), .lit (.int .u8 0)], .agg [.lit (.int .u8 0), .lit (.int .u8 0)], .agg [.lit (.int .u8 0), .lit (.int .u8 0)]]
def laid_waybill_scan_words {H : Type} : DataW H := .agg [.agg [.lit (.string [116, 114, 117, 101]), .lit (.int .i64 9)], .agg [.lit (.string [102, 97, 108, 115, 101]), .lit (.int .i64 10)], .agg [.lit (.string [110, 117, 108, 108]), .lit (.int .i64 11)]]
/-- One of Go's own tables, pinned by name: the form's constant. -/
def laid_unicode_utf8_first : DataW Unit := Go.Pinned.utf8First

/-- 'waybilllaw28.PickCustom': WHATEVER THE INPUT: true; the input reads as it did. -/
def pickCustomSpec : ChangeSpec := { name := "pickCustom", fn := fun _ => fun
  | [d1, d2] => { results := [.lit (.bool true)], args := [d1, d2] }
  | _ => none }
def pickCustomRow : OpenClaim := { program := "ytjbbpmjbohedkaadoor", sum := "109f1829aae2429eb10470ef2d8038a20784cba1f4836379db8dd53a5ea1656d", func := "waybill/waybilllaw28.PickCustom", spec := "pickCustom", inPlace := ["internal/abi.NoEscape", "internal/bytealg.MakeNoZero"], named := ["waybill/pick.kinds", "waybill/pick.reasons"], apart := false, laid := [("waybill/pick.kinds", laid_waybill_pick_kinds), ("waybill/pick.reasons", laid_waybill_pick_reasons)] }
def PickCustomSaid : Prop := pickCustomRow.holds Tryd.pinned (OpenSpec.ofChange pickCustomSpec)

/-- ITS FALSE NEIGHBOUR: 'it returns false'. Refute it at one input. -/
def pickCustomWrong : ChangeSpec := { name := "pickCustom", fn := fun _ => fun
  | [d1, d2] => { results := [.lit (.bool false)], args := [d1, d2] }
  | _ => none }
def PickCustomWrongFalsely : Prop := pickCustomRow.holds Tryd.pinned (OpenSpec.ofChange pickCustomWrong)

/-- 'waybilllaw28.PickWeb': WHATEVER THE INPUT: true; the input reads as it did. -/
def pickWebSpec : ChangeSpec := { name := "pickWeb", fn := fun _ => fun
  | [d] => { results := [.lit (.bool true)], args := [d] }
  | _ => none }
def pickWebRow : OpenClaim := { program := "ytjbbpmjbohedkaadoor", sum := "109f1829aae2429eb10470ef2d8038a20784cba1f4836379db8dd53a5ea1656d", func := "waybill/waybilllaw28.PickWeb", spec := "pickWeb", inPlace := ["internal/abi.NoEscape", "internal/bytealg.MakeNoZero"], unfollowed := true, recurses := true, named := ["waybill/pick.kinds", "waybill/pick.reasons"], apart := false, laid := [("waybill/pick.kinds", laid_waybill_pick_kinds), ("waybill/pick.reasons", laid_waybill_pick_reasons)] }
def PickWebSaid : Prop := pickWebRow.holds Tryd.pinned (OpenSpec.ofChange pickWebSpec)

/-- ITS FALSE NEIGHBOUR: 'it returns false'. Refute it at one input. -/
def pickWebWrong : ChangeSpec := { name := "pickWeb", fn := fun _ => fun
  | [d] => { results := [.lit (.bool false)], args := [d] }
  | _ => none }
def PickWebWrongFalsely : Prop := pickWebRow.holds Tryd.pinned (OpenSpec.ofChange pickWebWrong)

/-- 'waybilllaw28.PickOrder': WHATEVER THE INPUT: true; the input reads as it did. -/
def pickOrderSpec : ChangeSpec := { name := "pickOrder", fn := fun _ => fun
  | [d] => { results := [.lit (.bool true)], args := [d] }
  | _ => none }
def pickOrderRow : OpenClaim := { program := "ytjbbpmjbohedkaadoor", sum := "109f1829aae2429eb10470ef2d8038a20784cba1f4836379db8dd53a5ea1656d", func := "waybill/waybilllaw28.PickOrder", spec := "pickOrder", inPlace := ["internal/abi.NoEscape", "internal/bytealg.MakeNoZero"], unfollowed := true, recurses := true, named := ["waybill/pick.kinds", "waybill/pick.reasons"], apart := false, laid := [("waybill/pick.kinds", laid_waybill_pick_kinds), ("waybill/pick.reasons", laid_waybill_pick_reasons)] }
def PickOrderSaid : Prop := pickOrderRow.holds Tryd.pinned (OpenSpec.ofChange pickOrderSpec)

/-- ITS FALSE NEIGHBOUR: 'it returns false'. Refute it at one input. -/
def pickOrderWrong : ChangeSpec := { name := "pickOrder", fn := fun _ => fun
  | [d] => { results := [.lit (.bool false)], args := [d] }
  | _ => none }
def PickOrderWrongFalsely : Prop := pickOrderRow.holds Tryd.pinned (OpenSpec.ofChange pickOrderWrong)

/-- 'waybilllaw28.PickMore': WHATEVER THE INPUT: true; the input reads as it did. -/
def pickMoreSpec : ChangeSpec := { name := "pickMore", fn := fun _ => fun
  | [d1, d2] => { results := [.lit (.bool true)], args := [d1, d2] }
  | _ => none }
def pickMoreRow : OpenClaim := { program := "ytjbbpmjbohedkaadoor", sum := "109f1829aae2429eb10470ef2d8038a20784cba1f4836379db8dd53a5ea1656d", func := "waybill/waybilllaw28.PickMore", spec := "pickMore", inPlace := ["internal/abi.NoEscape", "internal/bytealg.MakeNoZero"], unfollowed := true, recurses := true, named := ["waybill/pick.kinds", "waybill/pick.reasons"], apart := false, laid := [("waybill/pick.kinds", laid_waybill_pick_kinds), ("waybill/pick.reasons", laid_waybill_pick_reasons)] }
def PickMoreSaid : Prop := pickMoreRow.holds Tryd.pinned (OpenSpec.ofChange pickMoreSpec)

/-- ITS FALSE NEIGHBOUR: 'it returns false'. Refute it at one input. -/
def pickMoreWrong : ChangeSpec := { name := "pickMore", fn := fun _ => fun
  | [d1, d2] => { results := [.lit (.bool false)], args := [d1, d2] }
  | _ => none }
def PickMoreWrongFalsely : Prop := pickMoreRow.holds Tryd.pinned (OpenSpec.ofChange pickMoreWrong)

/-- 'waybilllaw28.PickRefused': WHATEVER THE INPUT: true; the input reads as it did. -/
def pickRefusedSpec : ChangeSpec := { name := "pickRefused", fn := fun _ => fun
  | [d1, d2, d3, d4] => { results := [.lit (.bool true)], args := [d1, d2, d3, d4] }
  | _ => none }
def pickRefusedRow : OpenClaim := { program := "ytjbbpmjbohedkaadoor", sum := "109f1829aae2429eb10470ef2d8038a20784cba1f4836379db8dd53a5ea1656d", func := "waybill/waybilllaw28.PickRefused", spec := "pickRefused", inPlace := ["internal/abi.NoEscape", "internal/bytealg.MakeNoZero", "internal/reflectlite.TypeOf"], unfollowed := true, recurses := true, named := ["waybill/pick.kinds", "waybill/pick.reasons"], apart := false, laid := [("waybill/pick.kinds", laid_waybill_pick_kinds), ("waybill/pick.reasons", laid_waybill_pick_reasons)] }
def PickRefusedSaid : Prop := pickRefusedRow.holds Tryd.pinned (OpenSpec.ofChange pickRefusedSpec)

/-- ITS FALSE NEIGHBOUR: 'it returns false'. Refute it at one input. -/
def pickRefusedWrong : ChangeSpec := { name := "pickRefused", fn := fun _ => fun
  | [d1, d2, d3, d4] => { results := [.lit (.bool false)], args := [d1, d2, d3, d4] }
  | _ => none }
def PickRefusedWrongFalsely : Prop := pickRefusedRow.holds Tryd.pinned (OpenSpec.ofChange pickRefusedWrong)

/-- 'waybilllaw04.IdentApps': WHATEVER THE INPUT: true; the input reads as it did. -/
def identAppsSpec : ChangeSpec := { name := "identApps", fn := fun _ => fun
  | [d] => { results := [.lit (.bool true)], args := [d] }
  | _ => none }
def identAppsRow : OpenClaim := { program := "ytjbbpmjbohedkaadoor", sum := "109f1829aae2429eb10470ef2d8038a20784cba1f4836379db8dd53a5ea1656d", func := "waybill/waybilllaw04.IdentApps", spec := "identApps", inPlace := ["internal/reflectlite.TypeOf", "internal/reflectlite.ValueOf", "(internal/reflectlite.Value).Type", "(internal/reflectlite.Value).IsNil", "(internal/reflectlite.Value).Elem", "(internal/reflectlite.Value).Set"], unfollowed := true, recurses := true, named := ["errors.errorType"], apart := false, laid := [("errors.errorType", laid_errors_errorType)] }
def IdentAppsSaid : Prop := identAppsRow.holds Tryd.pinned (OpenSpec.ofChange identAppsSpec)

/-- ITS FALSE NEIGHBOUR: 'it returns false'. Refute it at one input. -/
def identAppsWrong : ChangeSpec := { name := "identApps", fn := fun _ => fun
  | [d] => { results := [.lit (.bool false)], args := [d] }
  | _ => none }
def IdentAppsWrongFalsely : Prop := identAppsRow.holds Tryd.pinned (OpenSpec.ofChange identAppsWrong)

/-- 'waybilllaw05.ArenaPlays': WHATEVER THE INPUT: true; the input reads as it did. -/
def arenaPlaysSpec : ChangeSpec := { name := "arenaPlays", fn := fun _ => fun
  | [d1, d2, d3] => { results := [.lit (.bool true)], args := [d1, d2, d3] }
  | _ => none }
def arenaPlaysRow : OpenClaim := { program := "ytjbbpmjbohedkaadoor", sum := "109f1829aae2429eb10470ef2d8038a20784cba1f4836379db8dd53a5ea1656d", func := "waybill/waybilllaw05.ArenaPlays", spec := "arenaPlays", inPlace := ["internal/reflectlite.ValueOf", "(internal/reflectlite.Value).Type", "(internal/reflectlite.Value).IsNil", "internal/reflectlite.TypeOf", "(internal/reflectlite.Value).Elem", "(internal/reflectlite.Value).Set"], unfollowed := true, recurses := true, named := ["errors.errorType"], apart := false, laid := [("errors.errorType", laid_errors_errorType)] }
def ArenaPlaysSaid : Prop := arenaPlaysRow.holds Tryd.pinned (OpenSpec.ofChange arenaPlaysSpec)

/-- ITS FALSE NEIGHBOUR: 'it returns false'. Refute it at one input. -/
def arenaPlaysWrong : ChangeSpec := { name := "arenaPlays", fn := fun _ => fun
  | [d1, d2, d3] => { results := [.lit (.bool false)], args := [d1, d2, d3] }
  | _ => none }
def ArenaPlaysWrongFalsely : Prop := arenaPlaysRow.holds Tryd.pinned (OpenSpec.ofChange arenaPlaysWrong)

/-- 'waybilllaw06.ScanNumbers': WHATEVER THE INPUT: true; the input reads as it did. -/
def scanNumbersSpec : ChangeSpec := { name := "scanNumbers", fn := fun _ => fun
  | [d1, d2, d3, d4] => { results := [.lit (.bool true)], args := [d1, d2, d3, d4] }
  | _ => none }
def scanNumbersRow : OpenClaim := { program := "ytjbbpmjbohedkaadoor", sum := "109f1829aae2429eb10470ef2d8038a20784cba1f4836379db8dd53a5ea1656d", func := "waybill/waybilllaw06.ScanNumbers", spec := "scanNumbers", inPlace := ["internal/bytealg.IndexByteString", "math/bits.Add64", "internal/reflectlite.TypeOf"], unfollowed := true, recurses := true, named := ["waybill/scan.words", "unicode/utf8.first", "unicode/utf8.acceptRanges"], apart := false, laid := [("unicode/utf8.acceptRanges", laid_unicode_utf8_acceptRanges), ("waybill/scan.words", laid_waybill_scan_words), ("unicode/utf8.first", laid_unicode_utf8_first)] }
def ScanNumbersSaid : Prop := scanNumbersRow.holds Tryd.pinned (OpenSpec.ofChange scanNumbersSpec)

/-- ITS FALSE NEIGHBOUR: 'it returns false'. Refute it at one input. -/
def scanNumbersWrong : ChangeSpec := { name := "scanNumbers", fn := fun _ => fun
  | [d1, d2, d3, d4] => { results := [.lit (.bool false)], args := [d1, d2, d3, d4] }
  | _ => none }
def ScanNumbersWrongFalsely : Prop := scanNumbersRow.holds Tryd.pinned (OpenSpec.ofChange scanNumbersWrong)

/- THE SECOND FORM. 'bulk': how many values and letters a reading holds, each counted each time it is reached (what is shared counts as often as it is met; a slice's spare places count too). A statement '..UptoSaid' is the law's where the arguments, and the package variables that the reading takes, are together of bulk at most 1048576: NARROWER than '..Said'. Prove '..Said' where nothing that the law and all that it calls make is longer than what came in: it says more and counts as full. Else prove '..UptoSaid'. A law counts once. -/
mutual
def uptoBulk {H : Type} : DataW H → Nat
  | .lit (.string bytes) => bytes.length + 1
  | .lit _ => 1
  | .nil => 1
  | .ptr d => uptoBulk d + 1
  | .slice elems spare => uptoBulkAll elems + uptoBulkAll spare + 1
  | .agg parts => uptoBulkAll parts + 1
  | .iface _ d => uptoBulk d + 1
  | .map entries => uptoBulkEntries entries + 1
  | .held _ => 1
def uptoBulkAll {H : Type} : List (DataW H) → Nat
  | [] => 0
  | d :: r => uptoBulk d + uptoBulkAll r
def uptoBulkEntries {H : Type} : List (Lit × DataW H) → Nat
  | [] => 0
  | x :: r => uptoBulkEntry x + uptoBulkEntries r
def uptoBulkEntry {H : Type} : Lit × DataW H → Nat
  | (.string bytes, d) => bytes.length + uptoBulk d + 1
  | (_, d) => uptoBulk d + 1
 end
def uptoSmall : (H : Type) → List (DataW H) → Bool := fun _ ds => decide (uptoBulkAll ds ≤ 1048576)
def OpenSpec.upto (s : _root_.Go.ChangeSpec) : _root_.Go.OpenSpec := { _root_.Go.OpenSpec.ofChange s with cond := some uptoSmall }

/-- 'waybilllaw28.PickCustom', WHERE WHAT IT READS IS OF BULK AT MOST 1048576: true; the input reads as it did. -/
def pickCustomUptoRow : OpenClaim := { program := "ytjbbpmjbohedkaadoor", sum := "109f1829aae2429eb10470ef2d8038a20784cba1f4836379db8dd53a5ea1656d", func := "waybill/waybilllaw28.PickCustom", spec := "pickCustom", inPlace := ["internal/abi.NoEscape", "internal/bytealg.MakeNoZero"], named := ["waybill/pick.kinds", "waybill/pick.reasons"], apart := false, laid := [("waybill/pick.kinds", laid_waybill_pick_kinds), ("waybill/pick.reasons", laid_waybill_pick_reasons)], narrowed := true }
def PickCustomUptoSaid : Prop := pickCustomUptoRow.holds Tryd.pinned (OpenSpec.upto pickCustomSpec)

/-- 'waybilllaw28.PickWeb', WHERE WHAT IT READS IS OF BULK AT MOST 1048576: true; the input reads as it did. -/
def pickWebUptoRow : OpenClaim := { program := "ytjbbpmjbohedkaadoor", sum := "109f1829aae2429eb10470ef2d8038a20784cba1f4836379db8dd53a5ea1656d", func := "waybill/waybilllaw28.PickWeb", spec := "pickWeb", inPlace := ["internal/abi.NoEscape", "internal/bytealg.MakeNoZero"], unfollowed := true, recurses := true, named := ["waybill/pick.kinds", "waybill/pick.reasons"], apart := false, laid := [("waybill/pick.kinds", laid_waybill_pick_kinds), ("waybill/pick.reasons", laid_waybill_pick_reasons)], narrowed := true }
def PickWebUptoSaid : Prop := pickWebUptoRow.holds Tryd.pinned (OpenSpec.upto pickWebSpec)

/-- 'waybilllaw28.PickOrder', WHERE WHAT IT READS IS OF BULK AT MOST 1048576: true; the input reads as it did. -/
def pickOrderUptoRow : OpenClaim := { program := "ytjbbpmjbohedkaadoor", sum := "109f1829aae2429eb10470ef2d8038a20784cba1f4836379db8dd53a5ea1656d", func := "waybill/waybilllaw28.PickOrder", spec := "pickOrder", inPlace := ["internal/abi.NoEscape", "internal/bytealg.MakeNoZero"], unfollowed := true, recurses := true, named := ["waybill/pick.kinds", "waybill/pick.reasons"], apart := false, laid := [("waybill/pick.kinds", laid_waybill_pick_kinds), ("waybill/pick.reasons", laid_waybill_pick_reasons)], narrowed := true }
def PickOrderUptoSaid : Prop := pickOrderUptoRow.holds Tryd.pinned (OpenSpec.upto pickOrderSpec)

/-- 'waybilllaw28.PickMore', WHERE WHAT IT READS IS OF BULK AT MOST 1048576: true; the input reads as it did. -/
def pickMoreUptoRow : OpenClaim := { program := "ytjbbpmjbohedkaadoor", sum := "109f1829aae2429eb10470ef2d8038a20784cba1f4836379db8dd53a5ea1656d", func := "waybill/waybilllaw28.PickMore", spec := "pickMore", inPlace := ["internal/abi.NoEscape", "internal/bytealg.MakeNoZero"], unfollowed := true, recurses := true, named := ["waybill/pick.kinds", "waybill/pick.reasons"], apart := false, laid := [("waybill/pick.kinds", laid_waybill_pick_kinds), ("waybill/pick.reasons", laid_waybill_pick_reasons)], narrowed := true }
def PickMoreUptoSaid : Prop := pickMoreUptoRow.holds Tryd.pinned (OpenSpec.upto pickMoreSpec)

/-- 'waybilllaw28.PickRefused', WHERE WHAT IT READS IS OF BULK AT MOST 1048576: true; the input reads as it did. -/
def pickRefusedUptoRow : OpenClaim := { program := "ytjbbpmjbohedkaadoor", sum := "109f1829aae2429eb10470ef2d8038a20784cba1f4836379db8dd53a5ea1656d", func := "waybill/waybilllaw28.PickRefused", spec := "pickRefused", inPlace := ["internal/abi.NoEscape", "internal/bytealg.MakeNoZero", "internal/reflectlite.TypeOf"], unfollowed := true, recurses := true, named := ["waybill/pick.kinds", "waybill/pick.reasons"], apart := false, laid := [("waybill/pick.kinds", laid_waybill_pick_kinds), ("waybill/pick.reasons", laid_waybill_pick_reasons)], narrowed := true }
def PickRefusedUptoSaid : Prop := pickRefusedUptoRow.holds Tryd.pinned (OpenSpec.upto pickRefusedSpec)

/-- 'waybilllaw04.IdentApps', WHERE WHAT IT READS IS OF BULK AT MOST 1048576: true; the input reads as it did. -/
def identAppsUptoRow : OpenClaim := { program := "ytjbbpmjbohedkaadoor", sum := "109f1829aae2429eb10470ef2d8038a20784cba1f4836379db8dd53a5ea1656d", func := "waybill/waybilllaw04.IdentApps", spec := "identApps", inPlace := ["internal/reflectlite.TypeOf", "internal/reflectlite.ValueOf", "(internal/reflectlite.Value).Type", "(internal/reflectlite.Value).IsNil", "(internal/reflectlite.Value).Elem", "(internal/reflectlite.Value).Set"], unfollowed := true, recurses := true, named := ["errors.errorType"], apart := false, laid := [("errors.errorType", laid_errors_errorType)], narrowed := true }
def IdentAppsUptoSaid : Prop := identAppsUptoRow.holds Tryd.pinned (OpenSpec.upto identAppsSpec)

/-- 'waybilllaw05.ArenaPlays', WHERE WHAT IT READS IS OF BULK AT MOST 1048576: true; the input reads as it did. -/
def arenaPlaysUptoRow : OpenClaim := { program := "ytjbbpmjbohedkaadoor", sum := "109f1829aae2429eb10470ef2d8038a20784cba1f4836379db8dd53a5ea1656d", func := "waybill/waybilllaw05.ArenaPlays", spec := "arenaPlays", inPlace := ["internal/reflectlite.ValueOf", "(internal/reflectlite.Value).Type", "(internal/reflectlite.Value).IsNil", "internal/reflectlite.TypeOf", "(internal/reflectlite.Value).Elem", "(internal/reflectlite.Value).Set"], unfollowed := true, recurses := true, named := ["errors.errorType"], apart := false, laid := [("errors.errorType", laid_errors_errorType)], narrowed := true }
def ArenaPlaysUptoSaid : Prop := arenaPlaysUptoRow.holds Tryd.pinned (OpenSpec.upto arenaPlaysSpec)

/-- 'waybilllaw06.ScanNumbers', WHERE WHAT IT READS IS OF BULK AT MOST 1048576: true; the input reads as it did. -/
def scanNumbersUptoRow : OpenClaim := { program := "ytjbbpmjbohedkaadoor", sum := "109f1829aae2429eb10470ef2d8038a20784cba1f4836379db8dd53a5ea1656d", func := "waybill/waybilllaw06.ScanNumbers", spec := "scanNumbers", inPlace := ["internal/bytealg.IndexByteString", "math/bits.Add64", "internal/reflectlite.TypeOf"], unfollowed := true, recurses := true, named := ["waybill/scan.words", "unicode/utf8.first", "unicode/utf8.acceptRanges"], apart := false, laid := [("unicode/utf8.acceptRanges", laid_unicode_utf8_acceptRanges), ("waybill/scan.words", laid_waybill_scan_words), ("unicode/utf8.first", laid_unicode_utf8_first)], narrowed := true }
def ScanNumbersUptoSaid : Prop := scanNumbersUptoRow.holds Tryd.pinned (OpenSpec.upto scanNumbersSpec)

end Rows
end Go.Proofs.YtjbbpmjbohedkaaDoor
