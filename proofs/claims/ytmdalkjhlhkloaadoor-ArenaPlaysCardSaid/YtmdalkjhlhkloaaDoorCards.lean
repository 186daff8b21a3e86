/-
  DERIVED. GIVEN WITH THE SEED: THE CARDS: each row of YtmdalkjhlhkloaaDoorRows.lean that lists a variable, with what it lists TIED to the program's text (the seventh form; the later family's looks); each row that meets fmt, with fmt's text TOLD by the authors' own Lean function (tested against real Go, not proved from fmt's source: count such statements apart). THE CARD IS WHAT COUNTS. Prove the row's statement (the work); the ties are given (YtmdalkjhlhkloaaDoorTie.lean); close each card by the builder's one call (the guide's Derived/Test/ToyasCard.lean, 'card_holds'). Laid BY PROGRAM, IN A SANDBOX (cutbox-door.mjs). By AI agents, Wed Nov 11 2026. No macro, syntax, notation, axiom, sorry.
-/
import Derived.Test.YtmdalkjhlhkloaaDoorRows
import GoSem.ClaimSeven
namespace Go.Proofs.YtmdalkjhlhkloaaDoor
namespace Rows

/-- THE TIED CARD OF 'waybilllaw05.ArenaPlays'. -/
def arenaPlaysCard : Claim7 := { stood := { row := arenaPlaysRow, standIns := [], harness := (true, "7e12a908e08fea8a92403a659c74b50303213352e6176d53ae9b015aa89d387c"), looks := true }, kinds := [], alts := [], laidByText := true, laidKinds := [.handle], laidTests := true, laidLooks := .later }
def ArenaPlaysCardSaid : Prop := Claim7.holds Tryd.pinned (.plain (OpenSpec.ofChange arenaPlaysSpec)) arenaPlaysCard

/-- THE TIED CARD OF 'waybilllaw06.ScanNumbers'. -/
def scanNumbersCard : Claim7 := { stood := { row := scanNumbersRow, standIns := [], harness := (true, "7e12a908e08fea8a92403a659c74b50303213352e6176d53ae9b015aa89d387c"), looks := true }, kinds := [], alts := [], laidByText := true, laidKinds := [.data, .data, .pinned], laidTests := true, laidLooks := .later }
def ScanNumbersCardSaid : Prop := Claim7.holds Tryd.pinned (.plain (OpenSpec.ofChange scanNumbersSpec)) scanNumbersCard

/-- THE TIED CARD OF 'waybilllaw04.IdentPrints'. -/
def identPrintsCard : Claim7 := { stood := { row := identPrintsRow, standIns := [], harness := (true, "7e12a908e08fea8a92403a659c74b50303213352e6176d53ae9b015aa89d387c"), looks := true }, kinds := [], alts := [], laidByText := true, laidKinds := [.handle], laidTests := true, laidLooks := .later }
def IdentPrintsCardSaid : Prop := Claim7.holds Tryd.pinned (.plain (OpenSpec.ofChange identPrintsSpec)) identPrintsCard

/-- THE TIED CARD OF 'waybilllaw06.ScanNext'. -/
def scanNextCard : Claim7 := { stood := { row := scanNextRow, standIns := [], harness := (true, "7e12a908e08fea8a92403a659c74b50303213352e6176d53ae9b015aa89d387c"), looks := true }, kinds := [], alts := [], laidByText := true, laidKinds := [.data, .handle, .data, .pinned], laidTests := true, laidLooks := .later }
def ScanNextCardSaid : Prop := Claim7.holds Tryd.pinned (.plain (OpenSpec.ofChange scanNextSpec)) scanNextCard

/-- THE TIED CARD OF 'waybilllaw06.ScanBlanks'. -/
def scanBlanksCard : Claim7 := { stood := { row := scanBlanksRow, standIns := [], harness := (true, "7e12a908e08fea8a92403a659c74b50303213352e6176d53ae9b015aa89d387c"), looks := true }, kinds := [], alts := [], laidByText := true, laidKinds := [.data, .handle, .data, .pinned], laidTests := true, laidLooks := .later }
def ScanBlanksCardSaid : Prop := Claim7.holds Tryd.pinned (.plain (OpenSpec.ofChange scanBlanksSpec)) scanBlanksCard

/-- THE TIED CARD OF 'waybilllaw06.ScanAll'. -/
def scanAllCard : Claim7 := { stood := { row := scanAllRow, standIns := [], harness := (true, "7e12a908e08fea8a92403a659c74b50303213352e6176d53ae9b015aa89d387c"), looks := true }, kinds := [], alts := [], laidByText := true, laidKinds := [.data, .handle, .data, .pinned], laidTests := true, laidLooks := .later }
def ScanAllCardSaid : Prop := Claim7.holds Tryd.pinned (.plain (OpenSpec.ofChange scanAllSpec)) scanAllCard

/-- THE TIED CARD OF 'waybilllaw06.ScanTexts'. -/
def scanTextsCard : Claim7 := { stood := { row := scanTextsRow, standIns := [], harness := (true, "7e12a908e08fea8a92403a659c74b50303213352e6176d53ae9b015aa89d387c"), looks := true }, kinds := [], alts := [], laidByText := true, laidKinds := [.data, .handle, .data, .pinned], laidTests := true, laidLooks := .later }
def ScanTextsCardSaid : Prop := Claim7.holds Tryd.pinned (.plain (OpenSpec.ofChange scanTextsSpec)) scanTextsCard

/-- THE TIED CARD OF 'waybilllaw04.IdentLists'. -/
def identListsCard : Claim7 := { stood := { row := identListsRow, standIns := [], harness := (true, "7e12a908e08fea8a92403a659c74b50303213352e6176d53ae9b015aa89d387c"), looks := true }, kinds := [], alts := [], laidByText := true, laidKinds := [.handle], laidTests := true, laidLooks := .later }
def IdentListsCardSaid : Prop := Claim7.holds Tryd.pinned (.plain (OpenSpec.ofChange identListsSpec)) identListsCard

/-- THE TIED CARD OF 'waybilllaw06.ScanQuotes'. -/
def scanQuotesCard : Claim7 := { stood := { row := scanQuotesRow, standIns := [], harness := (true, "7e12a908e08fea8a92403a659c74b50303213352e6176d53ae9b015aa89d387c"), looks := true }, kinds := [], alts := [], laidByText := true, laidKinds := [.data, .handle, .data, .pinned], laidTests := true, laidLooks := .later }
def ScanQuotesCardSaid : Prop := Claim7.holds Tryd.pinned (.plain (OpenSpec.ofChange scanQuotesSpec)) scanQuotesCard

/-- THE TIED CARD OF 'waybilllaw07.JsonpBlanks'. -/
def jsonpBlanksCard : Claim7 := { stood := { row := jsonpBlanksRow, standIns := [], harness := (true, "7e12a908e08fea8a92403a659c74b50303213352e6176d53ae9b015aa89d387c"), looks := true }, kinds := [], alts := [], laidByText := true, laidKinds := [.data, .handle, .data, .pinned], laidTests := true, laidLooks := .later }
def JsonpBlanksCardSaid : Prop := Claim7.holds Tryd.pinned (.plain (OpenSpec.ofChange jsonpBlanksSpec)) jsonpBlanksCard

/-- THE TIED CARD OF 'waybilllaw07.JsonpNests'. -/
def jsonpNestsCard : Claim7 := { stood := { row := jsonpNestsRow, standIns := [], harness := (true, "7e12a908e08fea8a92403a659c74b50303213352e6176d53ae9b015aa89d387c"), looks := true }, kinds := [], alts := [], laidByText := true, laidKinds := [.data, .handle, .data, .pinned], laidTests := true, laidLooks := .later }
def JsonpNestsCardSaid : Prop := Claim7.holds Tryd.pinned (.plain (OpenSpec.ofChange jsonpNestsSpec)) jsonpNestsCard

/-- THE SECOND FORM's CARD OF 'waybilllaw05.ArenaPlays'. -/
def arenaPlaysUptoCard : Claim7 := { stood := { row := arenaPlaysUptoRow, standIns := [], harness := (true, "7e12a908e08fea8a92403a659c74b50303213352e6176d53ae9b015aa89d387c"), looks := true }, kinds := [], alts := [], laidByText := true, laidKinds := [.handle], laidTests := true, laidLooks := .later }
def ArenaPlaysUptoCardSaid : Prop := Claim7.holds Tryd.pinned (.plain (OpenSpec.upto arenaPlaysSpec)) arenaPlaysUptoCard

/-- THE SECOND FORM's CARD OF 'waybilllaw06.ScanNumbers'. -/
def scanNumbersUptoCard : Claim7 := { stood := { row := scanNumbersUptoRow, standIns := [], harness := (true, "7e12a908e08fea8a92403a659c74b50303213352e6176d53ae9b015aa89d387c"), looks := true }, kinds := [], alts := [], laidByText := true, laidKinds := [.data, .data, .pinned], laidTests := true, laidLooks := .later }
def ScanNumbersUptoCardSaid : Prop := Claim7.holds Tryd.pinned (.plain (OpenSpec.upto scanNumbersSpec)) scanNumbersUptoCard

/-- THE SECOND FORM's CARD OF 'waybilllaw04.IdentPrints'. -/
def identPrintsUptoCard : Claim7 := { stood := { row := identPrintsUptoRow, standIns := [], harness := (true, "7e12a908e08fea8a92403a659c74b50303213352e6176d53ae9b015aa89d387c"), looks := true }, kinds := [], alts := [], laidByText := true, laidKinds := [.handle], laidTests := true, laidLooks := .later }
def IdentPrintsUptoCardSaid : Prop := Claim7.holds Tryd.pinned (.plain (OpenSpec.upto identPrintsSpec)) identPrintsUptoCard

/-- THE SECOND FORM's CARD OF 'waybilllaw06.ScanNext'. -/
def scanNextUptoCard : Claim7 := { stood := { row := scanNextUptoRow, standIns := [], harness := (true, "7e12a908e08fea8a92403a659c74b50303213352e6176d53ae9b015aa89d387c"), looks := true }, kinds := [], alts := [], laidByText := true, laidKinds := [.data, .handle, .data, .pinned], laidTests := true, laidLooks := .later }
def ScanNextUptoCardSaid : Prop := Claim7.holds Tryd.pinned (.plain (OpenSpec.upto scanNextSpec)) scanNextUptoCard

/-- THE SECOND FORM's CARD OF 'waybilllaw06.ScanBlanks'. -/
def scanBlanksUptoCard : Claim7 := { stood := { row := scanBlanksUptoRow, standIns := [], harness := (true, "7e12a908e08fea8a92403a659c74b50303213352e6176d53ae9b015aa89d387c"), looks := true }, kinds := [], alts := [], laidByText := true, laidKinds := [.data, .handle, .data, .pinned], laidTests := true, laidLooks := .later }
def ScanBlanksUptoCardSaid : Prop := Claim7.holds Tryd.pinned (.plain (OpenSpec.upto scanBlanksSpec)) scanBlanksUptoCard

/-- THE SECOND FORM's CARD OF 'waybilllaw06.ScanAll'. -/
def scanAllUptoCard : Claim7 := { stood := { row := scanAllUptoRow, standIns := [], harness := (true, "7e12a908e08fea8a92403a659c74b50303213352e6176d53ae9b015aa89d387c"), looks := true }, kinds := [], alts := [], laidByText := true, laidKinds := [.data, .handle, .data, .pinned], laidTests := true, laidLooks := .later }
def ScanAllUptoCardSaid : Prop := Claim7.holds Tryd.pinned (.plain (OpenSpec.upto scanAllSpec)) scanAllUptoCard

/-- THE SECOND FORM's CARD OF 'waybilllaw06.ScanTexts'. -/
def scanTextsUptoCard : Claim7 := { stood := { row := scanTextsUptoRow, standIns := [], harness := (true, "7e12a908e08fea8a92403a659c74b50303213352e6176d53ae9b015aa89d387c"), looks := true }, kinds := [], alts := [], laidByText := true, laidKinds := [.data, .handle, .data, .pinned], laidTests := true, laidLooks := .later }
def ScanTextsUptoCardSaid : Prop := Claim7.holds Tryd.pinned (.plain (OpenSpec.upto scanTextsSpec)) scanTextsUptoCard

/-- THE SECOND FORM's CARD OF 'waybilllaw04.IdentLists'. -/
def identListsUptoCard : Claim7 := { stood := { row := identListsUptoRow, standIns := [], harness := (true, "7e12a908e08fea8a92403a659c74b50303213352e6176d53ae9b015aa89d387c"), looks := true }, kinds := [], alts := [], laidByText := true, laidKinds := [.handle], laidTests := true, laidLooks := .later }
def IdentListsUptoCardSaid : Prop := Claim7.holds Tryd.pinned (.plain (OpenSpec.upto identListsSpec)) identListsUptoCard

/-- THE SECOND FORM's CARD OF 'waybilllaw06.ScanQuotes'. -/
def scanQuotesUptoCard : Claim7 := { stood := { row := scanQuotesUptoRow, standIns := [], harness := (true, "7e12a908e08fea8a92403a659c74b50303213352e6176d53ae9b015aa89d387c"), looks := true }, kinds := [], alts := [], laidByText := true, laidKinds := [.data, .handle, .data, .pinned], laidTests := true, laidLooks := .later }
def ScanQuotesUptoCardSaid : Prop := Claim7.holds Tryd.pinned (.plain (OpenSpec.upto scanQuotesSpec)) scanQuotesUptoCard

/-- THE SECOND FORM's CARD OF 'waybilllaw07.JsonpBlanks'. -/
def jsonpBlanksUptoCard : Claim7 := { stood := { row := jsonpBlanksUptoRow, standIns := [], harness := (true, "7e12a908e08fea8a92403a659c74b50303213352e6176d53ae9b015aa89d387c"), looks := true }, kinds := [], alts := [], laidByText := true, laidKinds := [.data, .handle, .data, .pinned], laidTests := true, laidLooks := .later }
def JsonpBlanksUptoCardSaid : Prop := Claim7.holds Tryd.pinned (.plain (OpenSpec.upto jsonpBlanksSpec)) jsonpBlanksUptoCard

/-- THE SECOND FORM's CARD OF 'waybilllaw07.JsonpNests'. -/
def jsonpNestsUptoCard : Claim7 := { stood := { row := jsonpNestsUptoRow, standIns := [], harness := (true, "7e12a908e08fea8a92403a659c74b50303213352e6176d53ae9b015aa89d387c"), looks := true }, kinds := [], alts := [], laidByText := true, laidKinds := [.data, .handle, .data, .pinned], laidTests := true, laidLooks := .later }
def JsonpNestsUptoCardSaid : Prop := Claim7.holds Tryd.pinned (.plain (OpenSpec.upto jsonpNestsSpec)) jsonpNestsUptoCard
end Rows
end Go.Proofs.YtmdalkjhlhkloaaDoor
