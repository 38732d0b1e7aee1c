/-
  DERIVED. GIVEN WITH THE SEED: THE CARDS: each row of YtbjlgcliplalcaaGreatDoorRows.lean that lists a variable, with what it lists TIED to the program's text (the seventh form; the later family's looks); each row that meets fmt, with fmt's text TOLD by the authors' own Lean function (tested against real Go, not proved from fmt's source: count such statements apart). THE CARD IS WHAT COUNTS. Prove the row's statement (the work); the ties are given (YtbjlgcliplalcaaGreatDoorTie.lean); close each card by the builder's one call (the guide's Derived/Test/ToyasCard.lean, 'card_holds'). Laid BY PROGRAM, IN A SANDBOX (cutbox-door.mjs). By AI agents, Wed Nov 11 2026. No macro, syntax, notation, axiom, sorry.
-/
import Derived.Test.YtbjlgcliplalcaaGreatDoorRows
import GoSem.ClaimSeven
namespace Go.Proofs.YtbjlgcliplalcaaGreatDoor
namespace Rows

/-- THE TIED CARD OF 'cooperagelaw26.SealDown'. -/
def sealDownCard : Claim7 := { stood := { row := sealDownRow, standIns := [], harness := (true, "a3d8507556c674500acd1bc2fa92944a588ef84044c021693f03ef17345f13da"), looks := true }, kinds := [], alts := [], laidByText := true, laidKinds := [.data, .pinned], laidTests := true, laidLooks := .later }
def SealDownCardSaid : Prop := Claim7.holds Tryz.pinned (.plain (OpenSpec.ofChange sealDownSpec)) sealDownCard

/-- THE SECOND FORM's CARD OF 'cooperagelaw26.SealDown'. -/
def sealDownUptoCard : Claim7 := { stood := { row := sealDownUptoRow, standIns := [], harness := (true, "a3d8507556c674500acd1bc2fa92944a588ef84044c021693f03ef17345f13da"), looks := true }, kinds := [], alts := [], laidByText := true, laidKinds := [.data, .pinned], laidTests := true, laidLooks := .later }
def SealDownUptoCardSaid : Prop := Claim7.holds Tryz.pinned (.plain (OpenSpec.upto sealDownSpec)) sealDownUptoCard
end Rows
end Go.Proofs.YtbjlgcliplalcaaGreatDoor
