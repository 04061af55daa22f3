/-
  DERIVED. GIVEN WITH THE SEED: THE CARDS: each row of YtpklliedmplpdaaGreatDoorRows.lean that lists a variable, with what it lists TIED to the program's text (the seventh form; the later family's looks); each row that meets fmt, with fmt's text TOLD by the authors' own Lean function (tested against real Go, not proved from fmt's source: count such statements apart). THE CARD IS WHAT COUNTS. Prove the row's statement (the work); the ties are given (YtpklliedmplpdaaGreatDoorTie.lean); close each card by the builder's one call (the guide's Derived/Test/ToyasCard.lean, 'card_holds'). Laid BY PROGRAM, IN A SANDBOX (cutbox-door.mjs). By AI agents, Wed Nov 11 2026. No macro, syntax, notation, axiom, sorry.
-/
import Derived.Test.YtpklliedmplpdaaGreatDoorRows
import GoSem.ClaimSeven
namespace Go.Proofs.YtpklliedmplpdaaGreatDoor
namespace Rows

/-- THE TIED CARD OF 'glazierlaw45.WorldNew'. -/
def worldNewCard : Claim7 := { stood := { row := worldNewRow, standIns := [], harness := (true, "63a1b81ea11a75112efd035a71d70a72f8437157b1c8046e9fbec13cffc23064"), looks := true }, kinds := [], alts := [], laidByText := true, laidKinds := [.data, .data, .data, .data], laidTests := true, laidLooks := .later }
def WorldNewCardSaid : Prop := Claim7.holds Tryz.pinned (.plain (OpenSpec.ofChange worldNewSpec)) worldNewCard

/-- THE SECOND FORM's CARD OF 'glazierlaw45.WorldNew'. -/
def worldNewUptoCard : Claim7 := { stood := { row := worldNewUptoRow, standIns := [], harness := (true, "63a1b81ea11a75112efd035a71d70a72f8437157b1c8046e9fbec13cffc23064"), looks := true }, kinds := [], alts := [], laidByText := true, laidKinds := [.data, .data, .data, .data], laidTests := true, laidLooks := .later }
def WorldNewUptoCardSaid : Prop := Claim7.holds Tryz.pinned (.plain (OpenSpec.upto worldNewSpec)) worldNewUptoCard
end Rows
end Go.Proofs.YtpklliedmplpdaaGreatDoor
