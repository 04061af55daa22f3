/-
  DERIVED. GIVEN WITH THE SEED: THE CARDS: each row of YtlgepoiaolhajaaDoorRows.lean that lists a variable, with what it lists TIED to the program's text (the seventh form; the later family's looks); each row that meets fmt, with fmt's text TOLD by the authors' own Lean function (tested against real Go, not proved from fmt's source: count such statements apart). THE CARD IS WHAT COUNTS. Prove the row's statement (the work); the ties are given (YtlgepoiaolhajaaDoorTie.lean); close each card by the builder's one call (the guide's Derived/Test/ToyasCard.lean, 'card_holds'). Laid BY PROGRAM, IN A SANDBOX (cutbox-door.mjs). By AI agents, Wed Nov 11 2026. No macro, syntax, notation, axiom, sorry.
-/
import Derived.Test.YtlgepoiaolhajaaDoorRows
import GoSem.ClaimSeven
namespace Go.Proofs.YtlgepoiaolhajaaDoor
namespace Rows

/-- THE TIED CARD OF 'glazierlaw62.RecordAdds'. -/
def recordAddsCard : Claim7 := { stood := { row := recordAddsRow, standIns := [], harness := (true, "330bede3cdff0c4208ac4a37c03f4a994cdb211a834dc67f76570810cfad78bb"), looks := true }, kinds := [], alts := [], laidByText := true, laidKinds := [.data, .data, .data], laidTests := true, laidLooks := .later }
def RecordAddsCardSaid : Prop := Claim7.holds Tryd.pinned (.plain (OpenSpec.ofChange recordAddsSpec)) recordAddsCard

/-- THE TIED CARD OF 'glazierlaw62.RecordBack'. -/
def recordBackCard : Claim7 := { stood := { row := recordBackRow, standIns := [], harness := (true, "330bede3cdff0c4208ac4a37c03f4a994cdb211a834dc67f76570810cfad78bb"), looks := true }, kinds := [], alts := [], laidByText := true, laidKinds := [.data, .data, .data, .data, .sentinel, .sentinel, .pinned], laidTests := true, laidLooks := .later }
def RecordBackCardSaid : Prop := Claim7.holds Tryd.pinned (.plain (OpenSpec.ofChange recordBackSpec)) recordBackCard

/-- THE TIED CARD OF 'glazierlaw62.RecordReads'. -/
def recordReadsCard : Claim7 := { stood := { row := recordReadsRow, standIns := [], harness := (true, "330bede3cdff0c4208ac4a37c03f4a994cdb211a834dc67f76570810cfad78bb"), looks := true }, kinds := [], alts := [], laidByText := true, laidKinds := [.data, .data, .data, .data, .sentinel, .sentinel, .pinned], laidTests := true, laidLooks := .later }
def RecordReadsCardSaid : Prop := Claim7.holds Tryd.pinned (.plain (OpenSpec.ofChange recordReadsSpec)) recordReadsCard

/-- THE TIED CARD OF 'glazierlaw62.RecordBounds'. -/
def recordBoundsCard : Claim7 := { stood := { row := recordBoundsRow, standIns := [], harness := (true, "330bede3cdff0c4208ac4a37c03f4a994cdb211a834dc67f76570810cfad78bb"), looks := true }, kinds := [], alts := [], laidByText := true, laidKinds := [.data, .data, .data, .data, .sentinel, .sentinel, .pinned], laidTests := true, laidLooks := .later }
def RecordBoundsCardSaid : Prop := Claim7.holds Tryd.pinned (.plain (OpenSpec.ofChange recordBoundsSpec)) recordBoundsCard

/-- THE SECOND FORM's CARD OF 'glazierlaw62.RecordAdds'. -/
def recordAddsUptoCard : Claim7 := { stood := { row := recordAddsUptoRow, standIns := [], harness := (true, "330bede3cdff0c4208ac4a37c03f4a994cdb211a834dc67f76570810cfad78bb"), looks := true }, kinds := [], alts := [], laidByText := true, laidKinds := [.data, .data, .data], laidTests := true, laidLooks := .later }
def RecordAddsUptoCardSaid : Prop := Claim7.holds Tryd.pinned (.plain (OpenSpec.upto recordAddsSpec)) recordAddsUptoCard

/-- THE SECOND FORM's CARD OF 'glazierlaw62.RecordBack'. -/
def recordBackUptoCard : Claim7 := { stood := { row := recordBackUptoRow, standIns := [], harness := (true, "330bede3cdff0c4208ac4a37c03f4a994cdb211a834dc67f76570810cfad78bb"), looks := true }, kinds := [], alts := [], laidByText := true, laidKinds := [.data, .data, .data, .data, .sentinel, .sentinel, .pinned], laidTests := true, laidLooks := .later }
def RecordBackUptoCardSaid : Prop := Claim7.holds Tryd.pinned (.plain (OpenSpec.upto recordBackSpec)) recordBackUptoCard

/-- THE SECOND FORM's CARD OF 'glazierlaw62.RecordReads'. -/
def recordReadsUptoCard : Claim7 := { stood := { row := recordReadsUptoRow, standIns := [], harness := (true, "330bede3cdff0c4208ac4a37c03f4a994cdb211a834dc67f76570810cfad78bb"), looks := true }, kinds := [], alts := [], laidByText := true, laidKinds := [.data, .data, .data, .data, .sentinel, .sentinel, .pinned], laidTests := true, laidLooks := .later }
def RecordReadsUptoCardSaid : Prop := Claim7.holds Tryd.pinned (.plain (OpenSpec.upto recordReadsSpec)) recordReadsUptoCard

/-- THE SECOND FORM's CARD OF 'glazierlaw62.RecordBounds'. -/
def recordBoundsUptoCard : Claim7 := { stood := { row := recordBoundsUptoRow, standIns := [], harness := (true, "330bede3cdff0c4208ac4a37c03f4a994cdb211a834dc67f76570810cfad78bb"), looks := true }, kinds := [], alts := [], laidByText := true, laidKinds := [.data, .data, .data, .data, .sentinel, .sentinel, .pinned], laidTests := true, laidLooks := .later }
def RecordBoundsUptoCardSaid : Prop := Claim7.holds Tryd.pinned (.plain (OpenSpec.upto recordBoundsSpec)) recordBoundsUptoCard
end Rows
end Go.Proofs.YtlgepoiaolhajaaDoor
