/-
  DERIVED. GIVEN WITH THE SEED: THE CARDS: each row of YtalgheocjnajlaaGreatDoorRows.lean that lists a variable, with what it lists TIED to the program's text (the seventh form; the later family's looks); each row that meets fmt, with fmt's text TOLD by the authors' own Lean function (tested against real Go, not proved from fmt's source: count such statements apart). THE CARD IS WHAT COUNTS. Prove the row's statement (the work); the ties are given (YtalgheocjnajlaaGreatDoorTie.lean); close each card by the builder's one call (the guide's Derived/Test/ToyasCard.lean, 'card_holds'). Laid BY PROGRAM, IN A SANDBOX (cutbox-door.mjs). By AI agents, Wed Nov 11 2026. No macro, syntax, notation, axiom, sorry.
-/
import Derived.Test.YtalgheocjnajlaaGreatDoorRows
import GoSem.ClaimSeven
namespace Go.Proofs.YtalgheocjnajlaaGreatDoor
namespace Rows

/-- THE TIED CARD OF 'cooperagelaw06.TxRuns'. -/
def txRunsCard : Claim7 := { stood := { row := txRunsRow, standIns := [], harness := (true, "01827f1342f9b49c3022eecb92f0c2cdd8dabd7e50364683920516ae7f1753f9"), looks := false }, kinds := [], alts := [], laidByText := true, laidKinds := [.data, .pinned], laidTests := true, laidLooks := .later }
def TxRunsCardSaid : Prop := Claim7.holds Tryz.pinned (.plain (OpenSpec.ofChange txRunsSpec)) txRunsCard

/-- THE TIED CARD OF 'cooperagelaw06.TxLast'. -/
def txLastCard : Claim7 := { stood := { row := txLastRow, standIns := [], harness := (true, "01827f1342f9b49c3022eecb92f0c2cdd8dabd7e50364683920516ae7f1753f9"), looks := false }, kinds := [], alts := [], laidByText := true, laidKinds := [.data, .pinned], laidTests := true, laidLooks := .later }
def TxLastCardSaid : Prop := Claim7.holds Tryz.pinned (.plain (OpenSpec.ofChange txLastSpec)) txLastCard

/-- THE TIED CARD OF 'cooperagelaw06.TxMarks'. -/
def txMarksCard : Claim7 := { stood := { row := txMarksRow, standIns := [], harness := (true, "01827f1342f9b49c3022eecb92f0c2cdd8dabd7e50364683920516ae7f1753f9"), looks := false }, kinds := [], alts := [], laidByText := true, laidKinds := [.data, .pinned], laidTests := true, laidLooks := .later }
def TxMarksCardSaid : Prop := Claim7.holds Tryz.pinned (.plain (OpenSpec.ofChange txMarksSpec)) txMarksCard

/-- THE TIED CARD OF 'cooperagelaw07.RoomRuns'. -/
def roomRunsCard : Claim7 := { stood := { row := roomRunsRow, standIns := [], harness := (true, "01827f1342f9b49c3022eecb92f0c2cdd8dabd7e50364683920516ae7f1753f9"), looks := false }, kinds := [], alts := [], laidByText := true, laidKinds := [.data, .pinned], laidTests := true, laidLooks := .later }
def RoomRunsCardSaid : Prop := Claim7.holds Tryz.pinned (.plain (OpenSpec.ofChange roomRunsSpec)) roomRunsCard

/-- THE SECOND FORM's CARD OF 'cooperagelaw06.TxRuns'. -/
def txRunsUptoCard : Claim7 := { stood := { row := txRunsUptoRow, standIns := [], harness := (true, "01827f1342f9b49c3022eecb92f0c2cdd8dabd7e50364683920516ae7f1753f9"), looks := false }, kinds := [], alts := [], laidByText := true, laidKinds := [.data, .pinned], laidTests := true, laidLooks := .later }
def TxRunsUptoCardSaid : Prop := Claim7.holds Tryz.pinned (.plain (OpenSpec.upto txRunsSpec)) txRunsUptoCard

/-- THE SECOND FORM's CARD OF 'cooperagelaw06.TxLast'. -/
def txLastUptoCard : Claim7 := { stood := { row := txLastUptoRow, standIns := [], harness := (true, "01827f1342f9b49c3022eecb92f0c2cdd8dabd7e50364683920516ae7f1753f9"), looks := false }, kinds := [], alts := [], laidByText := true, laidKinds := [.data, .pinned], laidTests := true, laidLooks := .later }
def TxLastUptoCardSaid : Prop := Claim7.holds Tryz.pinned (.plain (OpenSpec.upto txLastSpec)) txLastUptoCard

/-- THE SECOND FORM's CARD OF 'cooperagelaw06.TxMarks'. -/
def txMarksUptoCard : Claim7 := { stood := { row := txMarksUptoRow, standIns := [], harness := (true, "01827f1342f9b49c3022eecb92f0c2cdd8dabd7e50364683920516ae7f1753f9"), looks := false }, kinds := [], alts := [], laidByText := true, laidKinds := [.data, .pinned], laidTests := true, laidLooks := .later }
def TxMarksUptoCardSaid : Prop := Claim7.holds Tryz.pinned (.plain (OpenSpec.upto txMarksSpec)) txMarksUptoCard

/-- THE SECOND FORM's CARD OF 'cooperagelaw07.RoomRuns'. -/
def roomRunsUptoCard : Claim7 := { stood := { row := roomRunsUptoRow, standIns := [], harness := (true, "01827f1342f9b49c3022eecb92f0c2cdd8dabd7e50364683920516ae7f1753f9"), looks := false }, kinds := [], alts := [], laidByText := true, laidKinds := [.data, .pinned], laidTests := true, laidLooks := .later }
def RoomRunsUptoCardSaid : Prop := Claim7.holds Tryz.pinned (.plain (OpenSpec.upto roomRunsSpec)) roomRunsUptoCard
end Rows
end Go.Proofs.YtalgheocjnajlaaGreatDoor
