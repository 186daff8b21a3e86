/-
  DERIVED. GIVEN WITH THE SEED: THE CARDS: each row of YtmhfbdeeebbloaaDoorRows.lean that lists a variable, with what it lists TIED to the program's text (the seventh form; the later family's looks); each row that meets fmt, with fmt's text TOLD by the authors' own Lean function (tested against real Go, not proved from fmt's source: count such statements apart). THE CARD IS WHAT COUNTS. Prove the row's statement (the work); the ties are given (YtmhfbdeeebbloaaDoorTie.lean); close each card by the builder's one call (the guide's Derived/Test/ToyasCard.lean, 'card_holds'). Laid BY PROGRAM, IN A SANDBOX (cutbox-door.mjs). By AI agents, Wed Nov 11 2026. No macro, syntax, notation, axiom, sorry.
-/
import Derived.Test.YtmhfbdeeebbloaaDoorRows
import GoSem.ClaimSeven
namespace Go.Proofs.YtmhfbdeeebbloaaDoor
namespace Rows

/-- THE TIED CARD OF 'waybilllaw04.IdentPrints'. -/
def identPrintsCard : Claim7 := { stood := { row := identPrintsRow, standIns := [], harness := (true, "befdcbbc41a1494cc835ec16c763edea34288e6c72815833be037b79b69fa20f"), looks := true }, kinds := [], alts := [], laidByText := true, laidKinds := [.handle], laidTests := true, laidLooks := .later }
def IdentPrintsCardSaid : Prop := Claim7.holds Tryd.pinned (.plain (OpenSpec.ofChange identPrintsSpec)) identPrintsCard

/-- THE TIED CARD OF 'waybilllaw04.IdentLists'. -/
def identListsCard : Claim7 := { stood := { row := identListsRow, standIns := [], harness := (true, "befdcbbc41a1494cc835ec16c763edea34288e6c72815833be037b79b69fa20f"), looks := true }, kinds := [], alts := [], laidByText := true, laidKinds := [.handle], laidTests := true, laidLooks := .later }
def IdentListsCardSaid : Prop := Claim7.holds Tryd.pinned (.plain (OpenSpec.ofChange identListsSpec)) identListsCard

/-- THE TIED CARD OF 'waybilllaw06.ScanQuotes'. -/
def scanQuotesCard : Claim7 := { stood := { row := scanQuotesRow, standIns := [], harness := (true, "befdcbbc41a1494cc835ec16c763edea34288e6c72815833be037b79b69fa20f"), looks := true }, kinds := [], alts := [], laidByText := true, laidKinds := [.data, .handle, .data, .pinned], laidTests := true, laidLooks := .later }
def ScanQuotesCardSaid : Prop := Claim7.holds Tryd.pinned (.plain (OpenSpec.ofChange scanQuotesSpec)) scanQuotesCard

/-- THE TIED CARD OF 'waybilllaw07.JsonpBlanks'. -/
def jsonpBlanksCard : Claim7 := { stood := { row := jsonpBlanksRow, standIns := [], harness := (true, "befdcbbc41a1494cc835ec16c763edea34288e6c72815833be037b79b69fa20f"), looks := true }, kinds := [], alts := [], laidByText := true, laidKinds := [.data, .handle, .data, .pinned], laidTests := true, laidLooks := .later }
def JsonpBlanksCardSaid : Prop := Claim7.holds Tryd.pinned (.plain (OpenSpec.ofChange jsonpBlanksSpec)) jsonpBlanksCard

/-- THE TIED CARD OF 'waybilllaw07.JsonpNests'. -/
def jsonpNestsCard : Claim7 := { stood := { row := jsonpNestsRow, standIns := [], harness := (true, "befdcbbc41a1494cc835ec16c763edea34288e6c72815833be037b79b69fa20f"), looks := true }, kinds := [], alts := [], laidByText := true, laidKinds := [.data, .handle, .data, .pinned], laidTests := true, laidLooks := .later }
def JsonpNestsCardSaid : Prop := Claim7.holds Tryd.pinned (.plain (OpenSpec.ofChange jsonpNestsSpec)) jsonpNestsCard

/-- THE SECOND FORM's CARD OF 'waybilllaw04.IdentPrints'. -/
def identPrintsUptoCard : Claim7 := { stood := { row := identPrintsUptoRow, standIns := [], harness := (true, "befdcbbc41a1494cc835ec16c763edea34288e6c72815833be037b79b69fa20f"), looks := true }, kinds := [], alts := [], laidByText := true, laidKinds := [.handle], laidTests := true, laidLooks := .later }
def IdentPrintsUptoCardSaid : Prop := Claim7.holds Tryd.pinned (.plain (OpenSpec.upto identPrintsSpec)) identPrintsUptoCard

/-- THE SECOND FORM's CARD OF 'waybilllaw04.IdentLists'. -/
def identListsUptoCard : Claim7 := { stood := { row := identListsUptoRow, standIns := [], harness := (true, "befdcbbc41a1494cc835ec16c763edea34288e6c72815833be037b79b69fa20f"), looks := true }, kinds := [], alts := [], laidByText := true, laidKinds := [.handle], laidTests := true, laidLooks := .later }
def IdentListsUptoCardSaid : Prop := Claim7.holds Tryd.pinned (.plain (OpenSpec.upto identListsSpec)) identListsUptoCard

/-- THE SECOND FORM's CARD OF 'waybilllaw06.ScanQuotes'. -/
def scanQuotesUptoCard : Claim7 := { stood := { row := scanQuotesUptoRow, standIns := [], harness := (true, "befdcbbc41a1494cc835ec16c763edea34288e6c72815833be037b79b69fa20f"), looks := true }, kinds := [], alts := [], laidByText := true, laidKinds := [.data, .handle, .data, .pinned], laidTests := true, laidLooks := .later }
def ScanQuotesUptoCardSaid : Prop := Claim7.holds Tryd.pinned (.plain (OpenSpec.upto scanQuotesSpec)) scanQuotesUptoCard

/-- THE SECOND FORM's CARD OF 'waybilllaw07.JsonpBlanks'. -/
def jsonpBlanksUptoCard : Claim7 := { stood := { row := jsonpBlanksUptoRow, standIns := [], harness := (true, "befdcbbc41a1494cc835ec16c763edea34288e6c72815833be037b79b69fa20f"), looks := true }, kinds := [], alts := [], laidByText := true, laidKinds := [.data, .handle, .data, .pinned], laidTests := true, laidLooks := .later }
def JsonpBlanksUptoCardSaid : Prop := Claim7.holds Tryd.pinned (.plain (OpenSpec.upto jsonpBlanksSpec)) jsonpBlanksUptoCard

/-- THE SECOND FORM's CARD OF 'waybilllaw07.JsonpNests'. -/
def jsonpNestsUptoCard : Claim7 := { stood := { row := jsonpNestsUptoRow, standIns := [], harness := (true, "befdcbbc41a1494cc835ec16c763edea34288e6c72815833be037b79b69fa20f"), looks := true }, kinds := [], alts := [], laidByText := true, laidKinds := [.data, .handle, .data, .pinned], laidTests := true, laidLooks := .later }
def JsonpNestsUptoCardSaid : Prop := Claim7.holds Tryd.pinned (.plain (OpenSpec.upto jsonpNestsSpec)) jsonpNestsUptoCard
end Rows
end Go.Proofs.YtmhfbdeeebbloaaDoor
