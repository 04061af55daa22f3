/-
  DERIVED. GIVEN WITH THE SEED: THE CARDS: each row of YtnjpdipombnigaaGreatDoorRows.lean that lists a variable, with what it lists TIED to the program's text (the seventh form; the later family's looks); each row that meets fmt, with fmt's text TOLD by the authors' own Lean function (tested against real Go, not proved from fmt's source: count such statements apart). THE CARD IS WHAT COUNTS. Prove the row's statement (the work); the ties are given (YtnjpdipombnigaaGreatDoorTie.lean); close each card by the builder's one call (the guide's Derived/Test/ToyasCard.lean, 'card_holds'). Laid BY PROGRAM, IN A SANDBOX (cutbox-door.mjs). By AI agents, Wed Nov 11 2026. No macro, syntax, notation, axiom, sorry.
-/
import Derived.Test.YtnjpdipombnigaaGreatDoorRows
import GoSem.ClaimSeven
namespace Go.Proofs.YtnjpdipombnigaaGreatDoor
namespace Rows

/-- THE TIED CARD OF 'glazierlaw46.NamesRound'. -/
def namesRoundCard : Claim7 := { stood := { row := namesRoundRow, standIns := [], harness := (true, "f779247bd2e5ae945611c7ea1f48f97224478d60c65ef075aeb5f03f9b20fe9c"), looks := true }, kinds := [], alts := [], laidByText := true, laidKinds := [.data, .data, .data, .listed, .data, .data], laidTests := true, laidLooks := .later }
def NamesRoundCardSaid : Prop := Claim7.holds Tryz.pinned (.plain (OpenSpec.ofChange namesRoundSpec)) namesRoundCard

/-- THE SECOND FORM's CARD OF 'glazierlaw46.NamesRound'. -/
def namesRoundUptoCard : Claim7 := { stood := { row := namesRoundUptoRow, standIns := [], harness := (true, "f779247bd2e5ae945611c7ea1f48f97224478d60c65ef075aeb5f03f9b20fe9c"), looks := true }, kinds := [], alts := [], laidByText := true, laidKinds := [.data, .data, .data, .listed, .data, .data], laidTests := true, laidLooks := .later }
def NamesRoundUptoCardSaid : Prop := Claim7.holds Tryz.pinned (.plain (OpenSpec.upto namesRoundSpec)) namesRoundUptoCard
end Rows
end Go.Proofs.YtnjpdipombnigaaGreatDoor
