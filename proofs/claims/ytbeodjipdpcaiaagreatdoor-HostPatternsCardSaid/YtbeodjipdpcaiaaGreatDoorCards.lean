/-
  DERIVED. GIVEN WITH THE SEED: THE CARDS: each row of YtbeodjipdpcaiaaGreatDoorRows.lean that lists a variable, with what it lists TIED to the program's text (the seventh form; the later family's looks); each row that meets fmt, with fmt's text TOLD by the authors' own Lean function (tested against real Go, not proved from fmt's source: count such statements apart). THE CARD IS WHAT COUNTS. Prove the row's statement (the work); the ties are given (YtbeodjipdpcaiaaGreatDoorTie.lean); close each card by the builder's one call (the guide's Derived/Test/ToyasCard.lean, 'card_holds'). Laid BY PROGRAM, IN A SANDBOX (cutbox-door.mjs). By AI agents, Wed Nov 11 2026. No macro, syntax, notation, axiom, sorry.
-/
import Derived.Test.YtbeodjipdpcaiaaGreatDoorRows
import GoSem.ClaimSeven
namespace Go.Proofs.YtbeodjipdpcaiaaGreatDoor
namespace Rows

/-- THE TIED CARD OF 'waybilllaw13.HostCases'. -/
def hostCasesCard : Claim7 := { stood := { row := hostCasesRow, standIns := [], harness := (true, "06c02da9ef5fb1d603186788f3c182bb34c2ba2abfefbf007d7ddf1553501890"), looks := true }, kinds := [], alts := [], laidByText := true, laidKinds := [.data, .handle, .data, .pinned], laidTests := true, laidLooks := .later }
def HostCasesCardSaid : Prop := Claim7.holds Tryz.pinned (.plain (OpenSpec.ofChange hostCasesSpec)) hostCasesCard

/-- THE TIED CARD OF 'waybilllaw13.HostNarrows'. -/
def hostNarrowsCard : Claim7 := { stood := { row := hostNarrowsRow, standIns := [], harness := (true, "06c02da9ef5fb1d603186788f3c182bb34c2ba2abfefbf007d7ddf1553501890"), looks := true }, kinds := [], alts := [], laidByText := true, laidKinds := [.data, .handle, .data, .pinned], laidTests := true, laidLooks := .later }
def HostNarrowsCardSaid : Prop := Claim7.holds Tryz.pinned (.plain (OpenSpec.ofChange hostNarrowsSpec)) hostNarrowsCard

/-- THE TIED CARD OF 'waybilllaw13.HostShown'. -/
def hostShownCard : Claim7 := { stood := { row := hostShownRow, standIns := [], harness := (true, "06c02da9ef5fb1d603186788f3c182bb34c2ba2abfefbf007d7ddf1553501890"), looks := true }, kinds := [], alts := [], laidByText := true, laidKinds := [.data, .handle, .data, .pinned], laidTests := true, laidLooks := .later }
def HostShownCardSaid : Prop := Claim7.holds Tryz.pinned (.plain (OpenSpec.ofChange hostShownSpec)) hostShownCard

/-- THE TIED CARD OF 'waybilllaw13.HostReads'. -/
def hostReadsCard : Claim7 := { stood := { row := hostReadsRow, standIns := [], harness := (true, "06c02da9ef5fb1d603186788f3c182bb34c2ba2abfefbf007d7ddf1553501890"), looks := true }, kinds := [], alts := [], laidByText := true, laidKinds := [.data, .handle, .data, .pinned], laidTests := true, laidLooks := .later }
def HostReadsCardSaid : Prop := Claim7.holds Tryz.pinned (.plain (OpenSpec.ofChange hostReadsSpec)) hostReadsCard

/-- THE TIED CARD OF 'waybilllaw13.HostPatterns'. -/
def hostPatternsCard : Claim7 := { stood := { row := hostPatternsRow, standIns := [], harness := (true, "06c02da9ef5fb1d603186788f3c182bb34c2ba2abfefbf007d7ddf1553501890"), looks := true }, kinds := [], alts := [], laidByText := true, laidKinds := [.data, .handle, .data, .pinned], laidTests := true, laidLooks := .later }
def HostPatternsCardSaid : Prop := Claim7.holds Tryz.pinned (.plain (OpenSpec.ofChange hostPatternsSpec)) hostPatternsCard

/-- THE TIED CARD OF 'waybilllaw14.UrlReads'. -/
def urlReadsCard : Claim7 := { stood := { row := urlReadsRow, standIns := [], harness := (true, "06c02da9ef5fb1d603186788f3c182bb34c2ba2abfefbf007d7ddf1553501890"), looks := true }, kinds := [], alts := [], laidByText := true, laidKinds := [.data, .handle, .data, .pinned], laidTests := true, laidLooks := .later }
def UrlReadsCardSaid : Prop := Claim7.holds Tryz.pinned (.plain (OpenSpec.ofChange urlReadsSpec)) urlReadsCard

/-- THE TIED CARD OF 'waybilllaw14.UrlParts'. -/
def urlPartsCard : Claim7 := { stood := { row := urlPartsRow, standIns := [], harness := (true, "06c02da9ef5fb1d603186788f3c182bb34c2ba2abfefbf007d7ddf1553501890"), looks := true }, kinds := [], alts := [], laidByText := true, laidKinds := [.data, .handle, .data, .pinned], laidTests := true, laidLooks := .later }
def UrlPartsCardSaid : Prop := Claim7.holds Tryz.pinned (.plain (OpenSpec.ofChange urlPartsSpec)) urlPartsCard

/-- THE TIED CARD OF 'waybilllaw14.UrlCases'. -/
def urlCasesCard : Claim7 := { stood := { row := urlCasesRow, standIns := [], harness := (true, "06c02da9ef5fb1d603186788f3c182bb34c2ba2abfefbf007d7ddf1553501890"), looks := true }, kinds := [], alts := [], laidByText := true, laidKinds := [.data, .handle, .data, .pinned], laidTests := true, laidLooks := .later }
def UrlCasesCardSaid : Prop := Claim7.holds Tryz.pinned (.plain (OpenSpec.ofChange urlCasesSpec)) urlCasesCard

/-- THE TIED CARD OF 'waybilllaw14.UrlBack'. -/
def urlBackCard : Claim7 := { stood := { row := urlBackRow, standIns := [], harness := (true, "06c02da9ef5fb1d603186788f3c182bb34c2ba2abfefbf007d7ddf1553501890"), looks := true }, kinds := [], alts := [], laidByText := true, laidKinds := [.data, .handle, .data, .pinned], laidTests := true, laidLooks := .later }
def UrlBackCardSaid : Prop := Claim7.holds Tryz.pinned (.plain (OpenSpec.ofChange urlBackSpec)) urlBackCard

/-- THE TIED CARD OF 'waybilllaw14.UrlTexts'. -/
def urlTextsCard : Claim7 := { stood := { row := urlTextsRow, standIns := [], harness := (true, "06c02da9ef5fb1d603186788f3c182bb34c2ba2abfefbf007d7ddf1553501890"), looks := true }, kinds := [], alts := [], laidByText := true, laidKinds := [.data, .handle, .data, .pinned], laidTests := true, laidLooks := .later }
def UrlTextsCardSaid : Prop := Claim7.holds Tryz.pinned (.plain (OpenSpec.ofChange urlTextsSpec)) urlTextsCard

/-- THE TIED CARD OF 'waybilllaw14.UrlJoins'. -/
def urlJoinsCard : Claim7 := { stood := { row := urlJoinsRow, standIns := [], harness := (true, "06c02da9ef5fb1d603186788f3c182bb34c2ba2abfefbf007d7ddf1553501890"), looks := true }, kinds := [], alts := [], laidByText := true, laidKinds := [.data, .handle, .data, .pinned], laidTests := true, laidLooks := .later }
def UrlJoinsCardSaid : Prop := Claim7.holds Tryz.pinned (.plain (OpenSpec.ofChange urlJoinsSpec)) urlJoinsCard

/-- THE SECOND FORM's CARD OF 'waybilllaw13.HostCases'. -/
def hostCasesUptoCard : Claim7 := { stood := { row := hostCasesUptoRow, standIns := [], harness := (true, "06c02da9ef5fb1d603186788f3c182bb34c2ba2abfefbf007d7ddf1553501890"), looks := true }, kinds := [], alts := [], laidByText := true, laidKinds := [.data, .handle, .data, .pinned], laidTests := true, laidLooks := .later }
def HostCasesUptoCardSaid : Prop := Claim7.holds Tryz.pinned (.plain (OpenSpec.upto hostCasesSpec)) hostCasesUptoCard

/-- THE SECOND FORM's CARD OF 'waybilllaw13.HostNarrows'. -/
def hostNarrowsUptoCard : Claim7 := { stood := { row := hostNarrowsUptoRow, standIns := [], harness := (true, "06c02da9ef5fb1d603186788f3c182bb34c2ba2abfefbf007d7ddf1553501890"), looks := true }, kinds := [], alts := [], laidByText := true, laidKinds := [.data, .handle, .data, .pinned], laidTests := true, laidLooks := .later }
def HostNarrowsUptoCardSaid : Prop := Claim7.holds Tryz.pinned (.plain (OpenSpec.upto hostNarrowsSpec)) hostNarrowsUptoCard

/-- THE SECOND FORM's CARD OF 'waybilllaw13.HostShown'. -/
def hostShownUptoCard : Claim7 := { stood := { row := hostShownUptoRow, standIns := [], harness := (true, "06c02da9ef5fb1d603186788f3c182bb34c2ba2abfefbf007d7ddf1553501890"), looks := true }, kinds := [], alts := [], laidByText := true, laidKinds := [.data, .handle, .data, .pinned], laidTests := true, laidLooks := .later }
def HostShownUptoCardSaid : Prop := Claim7.holds Tryz.pinned (.plain (OpenSpec.upto hostShownSpec)) hostShownUptoCard

/-- THE SECOND FORM's CARD OF 'waybilllaw13.HostReads'. -/
def hostReadsUptoCard : Claim7 := { stood := { row := hostReadsUptoRow, standIns := [], harness := (true, "06c02da9ef5fb1d603186788f3c182bb34c2ba2abfefbf007d7ddf1553501890"), looks := true }, kinds := [], alts := [], laidByText := true, laidKinds := [.data, .handle, .data, .pinned], laidTests := true, laidLooks := .later }
def HostReadsUptoCardSaid : Prop := Claim7.holds Tryz.pinned (.plain (OpenSpec.upto hostReadsSpec)) hostReadsUptoCard

/-- THE SECOND FORM's CARD OF 'waybilllaw13.HostPatterns'. -/
def hostPatternsUptoCard : Claim7 := { stood := { row := hostPatternsUptoRow, standIns := [], harness := (true, "06c02da9ef5fb1d603186788f3c182bb34c2ba2abfefbf007d7ddf1553501890"), looks := true }, kinds := [], alts := [], laidByText := true, laidKinds := [.data, .handle, .data, .pinned], laidTests := true, laidLooks := .later }
def HostPatternsUptoCardSaid : Prop := Claim7.holds Tryz.pinned (.plain (OpenSpec.upto hostPatternsSpec)) hostPatternsUptoCard

/-- THE SECOND FORM's CARD OF 'waybilllaw14.UrlReads'. -/
def urlReadsUptoCard : Claim7 := { stood := { row := urlReadsUptoRow, standIns := [], harness := (true, "06c02da9ef5fb1d603186788f3c182bb34c2ba2abfefbf007d7ddf1553501890"), looks := true }, kinds := [], alts := [], laidByText := true, laidKinds := [.data, .handle, .data, .pinned], laidTests := true, laidLooks := .later }
def UrlReadsUptoCardSaid : Prop := Claim7.holds Tryz.pinned (.plain (OpenSpec.upto urlReadsSpec)) urlReadsUptoCard

/-- THE SECOND FORM's CARD OF 'waybilllaw14.UrlParts'. -/
def urlPartsUptoCard : Claim7 := { stood := { row := urlPartsUptoRow, standIns := [], harness := (true, "06c02da9ef5fb1d603186788f3c182bb34c2ba2abfefbf007d7ddf1553501890"), looks := true }, kinds := [], alts := [], laidByText := true, laidKinds := [.data, .handle, .data, .pinned], laidTests := true, laidLooks := .later }
def UrlPartsUptoCardSaid : Prop := Claim7.holds Tryz.pinned (.plain (OpenSpec.upto urlPartsSpec)) urlPartsUptoCard

/-- THE SECOND FORM's CARD OF 'waybilllaw14.UrlCases'. -/
def urlCasesUptoCard : Claim7 := { stood := { row := urlCasesUptoRow, standIns := [], harness := (true, "06c02da9ef5fb1d603186788f3c182bb34c2ba2abfefbf007d7ddf1553501890"), looks := true }, kinds := [], alts := [], laidByText := true, laidKinds := [.data, .handle, .data, .pinned], laidTests := true, laidLooks := .later }
def UrlCasesUptoCardSaid : Prop := Claim7.holds Tryz.pinned (.plain (OpenSpec.upto urlCasesSpec)) urlCasesUptoCard

/-- THE SECOND FORM's CARD OF 'waybilllaw14.UrlBack'. -/
def urlBackUptoCard : Claim7 := { stood := { row := urlBackUptoRow, standIns := [], harness := (true, "06c02da9ef5fb1d603186788f3c182bb34c2ba2abfefbf007d7ddf1553501890"), looks := true }, kinds := [], alts := [], laidByText := true, laidKinds := [.data, .handle, .data, .pinned], laidTests := true, laidLooks := .later }
def UrlBackUptoCardSaid : Prop := Claim7.holds Tryz.pinned (.plain (OpenSpec.upto urlBackSpec)) urlBackUptoCard

/-- THE SECOND FORM's CARD OF 'waybilllaw14.UrlTexts'. -/
def urlTextsUptoCard : Claim7 := { stood := { row := urlTextsUptoRow, standIns := [], harness := (true, "06c02da9ef5fb1d603186788f3c182bb34c2ba2abfefbf007d7ddf1553501890"), looks := true }, kinds := [], alts := [], laidByText := true, laidKinds := [.data, .handle, .data, .pinned], laidTests := true, laidLooks := .later }
def UrlTextsUptoCardSaid : Prop := Claim7.holds Tryz.pinned (.plain (OpenSpec.upto urlTextsSpec)) urlTextsUptoCard

/-- THE SECOND FORM's CARD OF 'waybilllaw14.UrlJoins'. -/
def urlJoinsUptoCard : Claim7 := { stood := { row := urlJoinsUptoRow, standIns := [], harness := (true, "06c02da9ef5fb1d603186788f3c182bb34c2ba2abfefbf007d7ddf1553501890"), looks := true }, kinds := [], alts := [], laidByText := true, laidKinds := [.data, .handle, .data, .pinned], laidTests := true, laidLooks := .later }
def UrlJoinsUptoCardSaid : Prop := Claim7.holds Tryz.pinned (.plain (OpenSpec.upto urlJoinsSpec)) urlJoinsUptoCard
end Rows
end Go.Proofs.YtbeodjipdpcaiaaGreatDoor
