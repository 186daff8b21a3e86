/-
  DERIVED. GIVEN WITH THE SEED: THE CARDS: each row of YtheoaijheijojaaGreatDoorRows.lean that lists a variable, with what it lists TIED to the program's text (the seventh form; the later family's looks); each row that meets fmt, with fmt's text TOLD by the authors' own Lean function (tested against real Go, not proved from fmt's source: count such statements apart). THE CARD IS WHAT COUNTS. Prove the row's statement (the work); the ties are given (YtheoaijheijojaaGreatDoorTie.lean); close each card by the builder's one call (the guide's Derived/Test/ToyasCard.lean, 'card_holds'). Laid BY PROGRAM, IN A SANDBOX (cutbox-door.mjs). By AI agents, Wed Nov 11 2026. No macro, syntax, notation, axiom, sorry.
-/
import Derived.Test.YtheoaijheijojaaGreatDoorRows
import GoSem.ClaimSeven
namespace Go.Proofs.YtheoaijheijojaaGreatDoor
namespace Rows

/-- THE TIED CARD OF 'waybilllaw08.CanonSame'. -/
def canonSameCard : Claim7 := { stood := { row := canonSameRow, standIns := [], harness := (true, "c0259727227cdaea7abf472ab82272749e8e81e489a9d579f51d775fc32c56be"), looks := true }, kinds := [], alts := [], laidByText := true, laidKinds := [.data, .data, .pinned], laidTests := true, laidLooks := .later }
def CanonSameCardSaid : Prop := Claim7.holds Tryz.pinned (.plain (OpenSpec.ofChange canonSameSpec)) canonSameCard

/-- THE TIED CARD OF 'waybilllaw08.CanonWalks'. -/
def canonWalksCard : Claim7 := { stood := { row := canonWalksRow, standIns := [], harness := (true, "c0259727227cdaea7abf472ab82272749e8e81e489a9d579f51d775fc32c56be"), looks := true }, kinds := [], alts := [], laidByText := true, laidKinds := [.data, .data, .pinned], laidTests := true, laidLooks := .later }
def CanonWalksCardSaid : Prop := Claim7.holds Tryz.pinned (.plain (OpenSpec.ofChange canonWalksSpec)) canonWalksCard

/-- THE TIED CARD OF 'waybilllaw08.CanonPaths'. -/
def canonPathsCard : Claim7 := { stood := { row := canonPathsRow, standIns := [], harness := (true, "c0259727227cdaea7abf472ab82272749e8e81e489a9d579f51d775fc32c56be"), looks := true }, kinds := [], alts := [], laidByText := true, laidKinds := [.data, .handle, .data, .pinned], laidTests := true, laidLooks := .later }
def CanonPathsCardSaid : Prop := Claim7.holds Tryz.pinned (.plain (OpenSpec.ofChange canonPathsSpec)) canonPathsCard

/-- THE TIED CARD OF 'waybilllaw08.CanonWrites'. -/
def canonWritesCard : Claim7 := { stood := { row := canonWritesRow, standIns := [], harness := (true, "c0259727227cdaea7abf472ab82272749e8e81e489a9d579f51d775fc32c56be"), looks := true }, kinds := [], alts := [], laidByText := true, laidKinds := [.data, .handle, .data, .pinned], laidTests := true, laidLooks := .later }
def CanonWritesCardSaid : Prop := Claim7.holds Tryz.pinned (.plain (OpenSpec.ofChange canonWritesSpec)) canonWritesCard

/-- THE TIED CARD OF 'waybilllaw08.CanonOrder'. -/
def canonOrderCard : Claim7 := { stood := { row := canonOrderRow, standIns := [], harness := (true, "c0259727227cdaea7abf472ab82272749e8e81e489a9d579f51d775fc32c56be"), looks := true }, kinds := [], alts := [], laidByText := true, laidKinds := [.data, .handle, .data, .pinned], laidTests := true, laidLooks := .later }
def CanonOrderCardSaid : Prop := Claim7.holds Tryz.pinned (.plain (OpenSpec.ofChange canonOrderSpec)) canonOrderCard

/-- THE TIED CARD OF 'waybilllaw08.CanonTexts'. -/
def canonTextsCard : Claim7 := { stood := { row := canonTextsRow, standIns := [], harness := (true, "c0259727227cdaea7abf472ab82272749e8e81e489a9d579f51d775fc32c56be"), looks := true }, kinds := [], alts := [], laidByText := true, laidKinds := [.data, .handle, .data, .pinned], laidTests := true, laidLooks := .later }
def CanonTextsCardSaid : Prop := Claim7.holds Tryz.pinned (.plain (OpenSpec.ofChange canonTextsSpec)) canonTextsCard

/-- THE SECOND FORM's CARD OF 'waybilllaw08.CanonSame'. -/
def canonSameUptoCard : Claim7 := { stood := { row := canonSameUptoRow, standIns := [], harness := (true, "c0259727227cdaea7abf472ab82272749e8e81e489a9d579f51d775fc32c56be"), looks := true }, kinds := [], alts := [], laidByText := true, laidKinds := [.data, .data, .pinned], laidTests := true, laidLooks := .later }
def CanonSameUptoCardSaid : Prop := Claim7.holds Tryz.pinned (.plain (OpenSpec.upto canonSameSpec)) canonSameUptoCard

/-- THE SECOND FORM's CARD OF 'waybilllaw08.CanonWalks'. -/
def canonWalksUptoCard : Claim7 := { stood := { row := canonWalksUptoRow, standIns := [], harness := (true, "c0259727227cdaea7abf472ab82272749e8e81e489a9d579f51d775fc32c56be"), looks := true }, kinds := [], alts := [], laidByText := true, laidKinds := [.data, .data, .pinned], laidTests := true, laidLooks := .later }
def CanonWalksUptoCardSaid : Prop := Claim7.holds Tryz.pinned (.plain (OpenSpec.upto canonWalksSpec)) canonWalksUptoCard

/-- THE SECOND FORM's CARD OF 'waybilllaw08.CanonPaths'. -/
def canonPathsUptoCard : Claim7 := { stood := { row := canonPathsUptoRow, standIns := [], harness := (true, "c0259727227cdaea7abf472ab82272749e8e81e489a9d579f51d775fc32c56be"), looks := true }, kinds := [], alts := [], laidByText := true, laidKinds := [.data, .handle, .data, .pinned], laidTests := true, laidLooks := .later }
def CanonPathsUptoCardSaid : Prop := Claim7.holds Tryz.pinned (.plain (OpenSpec.upto canonPathsSpec)) canonPathsUptoCard

/-- THE SECOND FORM's CARD OF 'waybilllaw08.CanonWrites'. -/
def canonWritesUptoCard : Claim7 := { stood := { row := canonWritesUptoRow, standIns := [], harness := (true, "c0259727227cdaea7abf472ab82272749e8e81e489a9d579f51d775fc32c56be"), looks := true }, kinds := [], alts := [], laidByText := true, laidKinds := [.data, .handle, .data, .pinned], laidTests := true, laidLooks := .later }
def CanonWritesUptoCardSaid : Prop := Claim7.holds Tryz.pinned (.plain (OpenSpec.upto canonWritesSpec)) canonWritesUptoCard

/-- THE SECOND FORM's CARD OF 'waybilllaw08.CanonOrder'. -/
def canonOrderUptoCard : Claim7 := { stood := { row := canonOrderUptoRow, standIns := [], harness := (true, "c0259727227cdaea7abf472ab82272749e8e81e489a9d579f51d775fc32c56be"), looks := true }, kinds := [], alts := [], laidByText := true, laidKinds := [.data, .handle, .data, .pinned], laidTests := true, laidLooks := .later }
def CanonOrderUptoCardSaid : Prop := Claim7.holds Tryz.pinned (.plain (OpenSpec.upto canonOrderSpec)) canonOrderUptoCard

/-- THE SECOND FORM's CARD OF 'waybilllaw08.CanonTexts'. -/
def canonTextsUptoCard : Claim7 := { stood := { row := canonTextsUptoRow, standIns := [], harness := (true, "c0259727227cdaea7abf472ab82272749e8e81e489a9d579f51d775fc32c56be"), looks := true }, kinds := [], alts := [], laidByText := true, laidKinds := [.data, .handle, .data, .pinned], laidTests := true, laidLooks := .later }
def CanonTextsUptoCardSaid : Prop := Claim7.holds Tryz.pinned (.plain (OpenSpec.upto canonTextsSpec)) canonTextsUptoCard
end Rows
end Go.Proofs.YtheoaijheijojaaGreatDoor
