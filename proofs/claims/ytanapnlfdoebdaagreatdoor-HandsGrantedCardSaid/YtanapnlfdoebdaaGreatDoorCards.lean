/-
  DERIVED. GIVEN WITH THE SEED: THE CARDS: each row of YtanapnlfdoebdaaGreatDoorRows.lean that lists a variable, with what it lists TIED to the program's text (the seventh form; the later family's looks); each row that meets fmt, with fmt's text TOLD by the authors' own Lean function (tested against real Go, not proved from fmt's source: count such statements apart). THE CARD IS WHAT COUNTS. Prove the row's statement (the work); the ties are given (YtanapnlfdoebdaaGreatDoorTie.lean); close each card by the builder's one call (the guide's Derived/Test/ToyasCard.lean, 'card_holds'). Laid BY PROGRAM, IN A SANDBOX (cutbox-door.mjs). By AI agents, Wed Nov 11 2026. No macro, syntax, notation, axiom, sorry.
-/
import Derived.Test.YtanapnlfdoebdaaGreatDoorRows
import GoSem.ClaimSeven
namespace Go.Proofs.YtanapnlfdoebdaaGreatDoor
namespace Rows

/-- THE TIED CARD OF 'glazierlaw49.HandsGranted'. -/
def handsGrantedCard : Claim7 := { stood := { row := handsGrantedRow, standIns := [], harness := (true, "6abe61d16055e5aba18cb181aad81a177da90c8a7def527db7577a8cf30a9889"), looks := true }, kinds := [], alts := [], laidByText := true, laidKinds := [.data, .data, .data, .listed, .data, .data, .data, .data, .data, .data], laidTests := true, laidLooks := .later }
def HandsGrantedCardSaid : Prop := Claim7.holds Tryz.pinned (.plain (OpenSpec.ofChange handsGrantedSpec)) handsGrantedCard

/-- THE SECOND FORM's CARD OF 'glazierlaw49.HandsGranted'. -/
def handsGrantedUptoCard : Claim7 := { stood := { row := handsGrantedUptoRow, standIns := [], harness := (true, "6abe61d16055e5aba18cb181aad81a177da90c8a7def527db7577a8cf30a9889"), looks := true }, kinds := [], alts := [], laidByText := true, laidKinds := [.data, .data, .data, .listed, .data, .data, .data, .data, .data, .data], laidTests := true, laidLooks := .later }
def HandsGrantedUptoCardSaid : Prop := Claim7.holds Tryz.pinned (.plain (OpenSpec.upto handsGrantedSpec)) handsGrantedUptoCard
end Rows
end Go.Proofs.YtanapnlfdoebdaaGreatDoor
