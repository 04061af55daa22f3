/-
  DERIVED. GIVEN WITH THE SEED: THE CARDS: each row of YtmghbbicjkmigaaGreatDoorRows.lean that lists a variable, with what it lists TIED to the program's text (the seventh form; the later family's looks); each row that meets fmt, with fmt's text TOLD by the authors' own Lean function (tested against real Go, not proved from fmt's source: count such statements apart). THE CARD IS WHAT COUNTS. Prove the row's statement (the work); the ties are given (YtmghbbicjkmigaaGreatDoorTie.lean); close each card by the builder's one call (the guide's Derived/Test/ToyasCard.lean, 'card_holds'). Laid BY PROGRAM, IN A SANDBOX (cutbox-door.mjs). By AI agents, Wed Nov 11 2026. No macro, syntax, notation, axiom, sorry.
-/
import Derived.Test.YtmghbbicjkmigaaGreatDoorRows
import GoSem.ClaimSeven
namespace Go.Proofs.YtmghbbicjkmigaaGreatDoor
namespace Rows

/-- THE TIED CARD OF 'glazierlaw49.HandsPointer'. -/
def handsPointerCard : Claim7 := { stood := { row := handsPointerRow, standIns := [], harness := (true, "073c4e0abea239df735963850239d038717f9848456dadccd79ed74bbcf53b72"), looks := true }, kinds := [], alts := [], laidByText := true, laidKinds := [.data, .data, .data, .listed, .data, .data], laidTests := true, laidLooks := .later }
def HandsPointerCardSaid : Prop := Claim7.holds Tryz.pinned (.plain (OpenSpec.ofChange handsPointerSpec)) handsPointerCard

/-- THE SECOND FORM's CARD OF 'glazierlaw49.HandsPointer'. -/
def handsPointerUptoCard : Claim7 := { stood := { row := handsPointerUptoRow, standIns := [], harness := (true, "073c4e0abea239df735963850239d038717f9848456dadccd79ed74bbcf53b72"), looks := true }, kinds := [], alts := [], laidByText := true, laidKinds := [.data, .data, .data, .listed, .data, .data], laidTests := true, laidLooks := .later }
def HandsPointerUptoCardSaid : Prop := Claim7.holds Tryz.pinned (.plain (OpenSpec.upto handsPointerSpec)) handsPointerUptoCard
end Rows
end Go.Proofs.YtmghbbicjkmigaaGreatDoor
