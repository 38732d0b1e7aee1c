/-
  DERIVED. GIVEN WITH THE SEED: THE CARDS: each row of YtnfdplhcpiknpaaDoorRows.lean that lists a variable, with what it lists TIED to the program's text (the seventh form; the later family's looks); each row that meets fmt, with fmt's text TOLD by the authors' own Lean function (tested against real Go, not proved from fmt's source: count such statements apart). THE CARD IS WHAT COUNTS. Prove the row's statement (the work); the ties are given (YtnfdplhcpiknpaaDoorTie.lean); close each card by the builder's one call (the guide's Derived/Test/ToyasCard.lean, 'card_holds'). Laid BY PROGRAM, IN A SANDBOX (cutbox-door.mjs). By AI agents, Wed Nov 11 2026. No macro, syntax, notation, axiom, sorry.
-/
import Derived.Test.YtnfdplhcpiknpaaDoorRows
import GoSem.ClaimSeven
namespace Go.Proofs.YtnfdplhcpiknpaaDoor
namespace Rows

/-- THE TIED CARD OF 'cooperagelaw05.WalRuns'. -/
def walRunsCard : Claim7 := { stood := { row := walRunsRow, standIns := [], harness := (true, "61089cd6b4e3654c5792bb3f910cc92533e209c9e2b244bcea5976d2d3faf5ba"), looks := false }, kinds := [], alts := [], laidByText := true, laidKinds := [.data, .pinned], laidTests := true, laidLooks := .later }
def WalRunsCardSaid : Prop := Claim7.holds Tryd.pinned (.plain (OpenSpec.ofChange walRunsSpec)) walRunsCard

/-- THE TIED CARD OF 'cooperagelaw05.WalAgain'. -/
def walAgainCard : Claim7 := { stood := { row := walAgainRow, standIns := [], harness := (true, "61089cd6b4e3654c5792bb3f910cc92533e209c9e2b244bcea5976d2d3faf5ba"), looks := false }, kinds := [], alts := [], laidByText := true, laidKinds := [.data, .pinned], laidTests := true, laidLooks := .later }
def WalAgainCardSaid : Prop := Claim7.holds Tryd.pinned (.plain (OpenSpec.ofChange walAgainSpec)) walAgainCard

/-- THE TIED CARD OF 'cooperagelaw05.WalGroups'. -/
def walGroupsCard : Claim7 := { stood := { row := walGroupsRow, standIns := [], harness := (true, "61089cd6b4e3654c5792bb3f910cc92533e209c9e2b244bcea5976d2d3faf5ba"), looks := false }, kinds := [], alts := [], laidByText := true, laidKinds := [.data, .pinned], laidTests := true, laidLooks := .later }
def WalGroupsCardSaid : Prop := Claim7.holds Tryd.pinned (.plain (OpenSpec.ofChange walGroupsSpec)) walGroupsCard

/-- THE TIED CARD OF 'cooperagelaw05.WalApart'. -/
def walApartCard : Claim7 := { stood := { row := walApartRow, standIns := [], harness := (true, "61089cd6b4e3654c5792bb3f910cc92533e209c9e2b244bcea5976d2d3faf5ba"), looks := false }, kinds := [], alts := [], laidByText := true, laidKinds := [.data, .pinned], laidTests := true, laidLooks := .later }
def WalApartCardSaid : Prop := Claim7.holds Tryd.pinned (.plain (OpenSpec.ofChange walApartSpec)) walApartCard

/-- THE TIED CARD OF 'cooperagelaw05.WalFalls'. -/
def walFallsCard : Claim7 := { stood := { row := walFallsRow, standIns := [], harness := (true, "61089cd6b4e3654c5792bb3f910cc92533e209c9e2b244bcea5976d2d3faf5ba"), looks := false }, kinds := [], alts := [], laidByText := true, laidKinds := [.data, .pinned], laidTests := true, laidLooks := .later }
def WalFallsCardSaid : Prop := Claim7.holds Tryd.pinned (.plain (OpenSpec.ofChange walFallsSpec)) walFallsCard

/-- THE SECOND FORM's CARD OF 'cooperagelaw05.WalRuns'. -/
def walRunsUptoCard : Claim7 := { stood := { row := walRunsUptoRow, standIns := [], harness := (true, "61089cd6b4e3654c5792bb3f910cc92533e209c9e2b244bcea5976d2d3faf5ba"), looks := false }, kinds := [], alts := [], laidByText := true, laidKinds := [.data, .pinned], laidTests := true, laidLooks := .later }
def WalRunsUptoCardSaid : Prop := Claim7.holds Tryd.pinned (.plain (OpenSpec.upto walRunsSpec)) walRunsUptoCard

/-- THE SECOND FORM's CARD OF 'cooperagelaw05.WalAgain'. -/
def walAgainUptoCard : Claim7 := { stood := { row := walAgainUptoRow, standIns := [], harness := (true, "61089cd6b4e3654c5792bb3f910cc92533e209c9e2b244bcea5976d2d3faf5ba"), looks := false }, kinds := [], alts := [], laidByText := true, laidKinds := [.data, .pinned], laidTests := true, laidLooks := .later }
def WalAgainUptoCardSaid : Prop := Claim7.holds Tryd.pinned (.plain (OpenSpec.upto walAgainSpec)) walAgainUptoCard

/-- THE SECOND FORM's CARD OF 'cooperagelaw05.WalGroups'. -/
def walGroupsUptoCard : Claim7 := { stood := { row := walGroupsUptoRow, standIns := [], harness := (true, "61089cd6b4e3654c5792bb3f910cc92533e209c9e2b244bcea5976d2d3faf5ba"), looks := false }, kinds := [], alts := [], laidByText := true, laidKinds := [.data, .pinned], laidTests := true, laidLooks := .later }
def WalGroupsUptoCardSaid : Prop := Claim7.holds Tryd.pinned (.plain (OpenSpec.upto walGroupsSpec)) walGroupsUptoCard

/-- THE SECOND FORM's CARD OF 'cooperagelaw05.WalApart'. -/
def walApartUptoCard : Claim7 := { stood := { row := walApartUptoRow, standIns := [], harness := (true, "61089cd6b4e3654c5792bb3f910cc92533e209c9e2b244bcea5976d2d3faf5ba"), looks := false }, kinds := [], alts := [], laidByText := true, laidKinds := [.data, .pinned], laidTests := true, laidLooks := .later }
def WalApartUptoCardSaid : Prop := Claim7.holds Tryd.pinned (.plain (OpenSpec.upto walApartSpec)) walApartUptoCard

/-- THE SECOND FORM's CARD OF 'cooperagelaw05.WalFalls'. -/
def walFallsUptoCard : Claim7 := { stood := { row := walFallsUptoRow, standIns := [], harness := (true, "61089cd6b4e3654c5792bb3f910cc92533e209c9e2b244bcea5976d2d3faf5ba"), looks := false }, kinds := [], alts := [], laidByText := true, laidKinds := [.data, .pinned], laidTests := true, laidLooks := .later }
def WalFallsUptoCardSaid : Prop := Claim7.holds Tryd.pinned (.plain (OpenSpec.upto walFallsSpec)) walFallsUptoCard
end Rows
end Go.Proofs.YtnfdplhcpiknpaaDoor
