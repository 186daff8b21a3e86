/-
  DERIVED. GIVEN WITH THE SEED: THE CARDS: each row of YtmhfbdeeebbloaaGreatDoorRows.lean that lists a variable, with what it lists TIED to the program's text (the seventh form; the later family's looks); each row that meets fmt, with fmt's text TOLD by the authors' own Lean function (tested against real Go, not proved from fmt's source: count such statements apart). THE CARD IS WHAT COUNTS. Prove the row's statement (the work); the ties are given (YtmhfbdeeebbloaaGreatDoorTie.lean); close each card by the builder's one call (the guide's Derived/Test/ToyasCard.lean, 'card_holds'). Laid BY PROGRAM, IN A SANDBOX (cutbox-door.mjs). By AI agents, Wed Nov 11 2026. No macro, syntax, notation, axiom, sorry.
-/
import Derived.Test.YtmhfbdeeebbloaaGreatDoorRows
import GoSem.ClaimSeven
namespace Go.Proofs.YtmhfbdeeebbloaaGreatDoor
namespace Rows

/-- THE TIED CARD OF 'waybilllaw07.JsonpBounds'. -/
def jsonpBoundsCard : Claim7 := { stood := { row := jsonpBoundsRow, standIns := [], harness := (true, "0f9d102d7282e282bf03a0e15910242e0b909d6e14c4678405f1acb2ce574edb"), looks := true }, kinds := [], alts := [], laidByText := true, laidKinds := [.data, .data, .pinned], laidTests := true, laidLooks := .later }
def JsonpBoundsCardSaid : Prop := Claim7.holds Tryz.pinned (.plain (OpenSpec.ofChange jsonpBoundsSpec)) jsonpBoundsCard

/-- THE TIED CARD OF 'waybilllaw07.JsonpReads'. -/
def jsonpReadsCard : Claim7 := { stood := { row := jsonpReadsRow, standIns := [], harness := (true, "0f9d102d7282e282bf03a0e15910242e0b909d6e14c4678405f1acb2ce574edb"), looks := true }, kinds := [], alts := [], laidByText := true, laidKinds := [.data, .handle, .data, .pinned], laidTests := true, laidLooks := .later }
def JsonpReadsCardSaid : Prop := Claim7.holds Tryz.pinned (.plain (OpenSpec.ofChange jsonpReadsSpec)) jsonpReadsCard

/-- THE SECOND FORM's CARD OF 'waybilllaw07.JsonpBounds'. -/
def jsonpBoundsUptoCard : Claim7 := { stood := { row := jsonpBoundsUptoRow, standIns := [], harness := (true, "0f9d102d7282e282bf03a0e15910242e0b909d6e14c4678405f1acb2ce574edb"), looks := true }, kinds := [], alts := [], laidByText := true, laidKinds := [.data, .data, .pinned], laidTests := true, laidLooks := .later }
def JsonpBoundsUptoCardSaid : Prop := Claim7.holds Tryz.pinned (.plain (OpenSpec.upto jsonpBoundsSpec)) jsonpBoundsUptoCard

/-- THE SECOND FORM's CARD OF 'waybilllaw07.JsonpReads'. -/
def jsonpReadsUptoCard : Claim7 := { stood := { row := jsonpReadsUptoRow, standIns := [], harness := (true, "0f9d102d7282e282bf03a0e15910242e0b909d6e14c4678405f1acb2ce574edb"), looks := true }, kinds := [], alts := [], laidByText := true, laidKinds := [.data, .handle, .data, .pinned], laidTests := true, laidLooks := .later }
def JsonpReadsUptoCardSaid : Prop := Claim7.holds Tryz.pinned (.plain (OpenSpec.upto jsonpReadsSpec)) jsonpReadsUptoCard
end Rows
end Go.Proofs.YtmhfbdeeebbloaaGreatDoor
