/-
  DERIVED. GIVEN WITH THE SEED: THE CARDS: each row of YtbjllaknnpbkkaaGreatDoorRows.lean that lists a variable, with what it lists TIED to the program's text (the seventh form; the later family's looks); each row that meets fmt, with fmt's text TOLD by the authors' own Lean function (tested against real Go, not proved from fmt's source: count such statements apart). THE CARD IS WHAT COUNTS. Prove the row's statement (the work); the ties are given (YtbjllaknnpbkkaaGreatDoorTie.lean); close each card by the builder's one call (the guide's Derived/Test/ToyasCard.lean, 'card_holds'). Laid BY PROGRAM, IN A SANDBOX (cutbox-door.mjs). By AI agents, Wed Nov 11 2026. No macro, syntax, notation, axiom, sorry.
-/
import Derived.Test.YtbjllaknnpbkkaaGreatDoorRows
import GoSem.ClaimSeven
namespace Go.Proofs.YtbjllaknnpbkkaaGreatDoor
namespace Rows

/-- THE TIED CARD OF 'glazierlaw49.HandsCodes'. -/
def handsCodesCard : Claim7 := { stood := { row := handsCodesRow, standIns := [], harness := (true, "56064c9794bcec415d1c122176538a8d6b61430d8d90866a785de6963103f4e6"), looks := true }, kinds := [], alts := [], laidByText := true, laidKinds := [.data, .data, .data, .listed, .data, .data], laidTests := true, laidLooks := .later }
def HandsCodesCardSaid : Prop := Claim7.holds Tryz.pinned (.plain (OpenSpec.ofChange handsCodesSpec)) handsCodesCard

/-- THE SECOND FORM's CARD OF 'glazierlaw49.HandsCodes'. -/
def handsCodesUptoCard : Claim7 := { stood := { row := handsCodesUptoRow, standIns := [], harness := (true, "56064c9794bcec415d1c122176538a8d6b61430d8d90866a785de6963103f4e6"), looks := true }, kinds := [], alts := [], laidByText := true, laidKinds := [.data, .data, .data, .listed, .data, .data], laidTests := true, laidLooks := .later }
def HandsCodesUptoCardSaid : Prop := Claim7.holds Tryz.pinned (.plain (OpenSpec.upto handsCodesSpec)) handsCodesUptoCard
end Rows
end Go.Proofs.YtbjllaknnpbkkaaGreatDoor
