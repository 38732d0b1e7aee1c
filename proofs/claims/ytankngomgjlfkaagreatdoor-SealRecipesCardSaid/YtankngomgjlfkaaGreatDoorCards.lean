/-
  DERIVED. GIVEN WITH THE SEED: THE CARDS: each row of YtankngomgjlfkaaGreatDoorRows.lean that lists a variable, with what it lists TIED to the program's text (the seventh form; the later family's looks); each row that meets fmt, with fmt's text TOLD by the authors' own Lean function (tested against real Go, not proved from fmt's source: count such statements apart). THE CARD IS WHAT COUNTS. Prove the row's statement (the work); the ties are given (YtankngomgjlfkaaGreatDoorTie.lean); close each card by the builder's one call (the guide's Derived/Test/ToyasCard.lean, 'card_holds'). Laid BY PROGRAM, IN A SANDBOX (cutbox-door.mjs). By AI agents, Wed Nov 11 2026. No macro, syntax, notation, axiom, sorry.
-/
import Derived.Test.YtankngomgjlfkaaGreatDoorRows
import GoSem.ClaimSeven
namespace Go.Proofs.YtankngomgjlfkaaGreatDoor
namespace Rows

/-- THE TIED CARD OF 'cooperagelaw26.SealRecipes'. -/
def sealRecipesCard : Claim7 := { stood := { row := sealRecipesRow, standIns := [], harness := (true, "3733efbfa9c48ac337f8b8db03bc0b3a4d268a73234fd51b11642fa59f7a8063"), looks := true }, kinds := [], alts := [], laidByText := true, laidKinds := [.data, .pinned], laidTests := true, laidLooks := .later }
def SealRecipesCardSaid : Prop := Claim7.holds Tryz.pinned (.plain (OpenSpec.ofChange sealRecipesSpec)) sealRecipesCard

/-- THE TIED CARD OF 'cooperagelaw15.VersionPast'. -/
def versionPastCard : Claim7 := { stood := { row := versionPastRow, standIns := [], harness := (true, "3733efbfa9c48ac337f8b8db03bc0b3a4d268a73234fd51b11642fa59f7a8063"), looks := true }, kinds := [], alts := [], laidByText := true, laidKinds := [.data, .pinned], laidTests := true, laidLooks := .later }
def VersionPastCardSaid : Prop := Claim7.holds Tryz.pinned (.plain (OpenSpec.ofChange versionPastSpec)) versionPastCard

/-- THE TIED CARD OF 'cooperagelaw15.VersionApart'. -/
def versionApartCard : Claim7 := { stood := { row := versionApartRow, standIns := [], harness := (true, "3733efbfa9c48ac337f8b8db03bc0b3a4d268a73234fd51b11642fa59f7a8063"), looks := true }, kinds := [], alts := [], laidByText := true, laidKinds := [.data, .pinned], laidTests := true, laidLooks := .later }
def VersionApartCardSaid : Prop := Claim7.holds Tryz.pinned (.plain (OpenSpec.ofChange versionApartSpec)) versionApartCard

/-- THE TIED CARD OF 'cooperagelaw15.VersionRuns'. -/
def versionRunsCard : Claim7 := { stood := { row := versionRunsRow, standIns := [], harness := (true, "3733efbfa9c48ac337f8b8db03bc0b3a4d268a73234fd51b11642fa59f7a8063"), looks := true }, kinds := [], alts := [], laidByText := true, laidKinds := [.data, .pinned], laidTests := true, laidLooks := .later }
def VersionRunsCardSaid : Prop := Claim7.holds Tryz.pinned (.plain (OpenSpec.ofChange versionRunsSpec)) versionRunsCard

/-- THE TIED CARD OF 'cooperagelaw15.VersionFull'. -/
def versionFullCard : Claim7 := { stood := { row := versionFullRow, standIns := [], harness := (true, "3733efbfa9c48ac337f8b8db03bc0b3a4d268a73234fd51b11642fa59f7a8063"), looks := true }, kinds := [], alts := [], laidByText := true, laidKinds := [.data, .pinned], laidTests := true, laidLooks := .later }
def VersionFullCardSaid : Prop := Claim7.holds Tryz.pinned (.plain (OpenSpec.ofChange versionFullSpec)) versionFullCard

/-- THE TIED CARD OF 'cooperagelaw15.VersionEnds'. -/
def versionEndsCard : Claim7 := { stood := { row := versionEndsRow, standIns := [], harness := (true, "3733efbfa9c48ac337f8b8db03bc0b3a4d268a73234fd51b11642fa59f7a8063"), looks := true }, kinds := [], alts := [], laidByText := true, laidKinds := [.data, .pinned], laidTests := true, laidLooks := .later }
def VersionEndsCardSaid : Prop := Claim7.holds Tryz.pinned (.plain (OpenSpec.ofChange versionEndsSpec)) versionEndsCard

/-- THE SECOND FORM's CARD OF 'cooperagelaw26.SealRecipes'. -/
def sealRecipesUptoCard : Claim7 := { stood := { row := sealRecipesUptoRow, standIns := [], harness := (true, "3733efbfa9c48ac337f8b8db03bc0b3a4d268a73234fd51b11642fa59f7a8063"), looks := true }, kinds := [], alts := [], laidByText := true, laidKinds := [.data, .pinned], laidTests := true, laidLooks := .later }
def SealRecipesUptoCardSaid : Prop := Claim7.holds Tryz.pinned (.plain (OpenSpec.upto sealRecipesSpec)) sealRecipesUptoCard

/-- THE SECOND FORM's CARD OF 'cooperagelaw15.VersionPast'. -/
def versionPastUptoCard : Claim7 := { stood := { row := versionPastUptoRow, standIns := [], harness := (true, "3733efbfa9c48ac337f8b8db03bc0b3a4d268a73234fd51b11642fa59f7a8063"), looks := true }, kinds := [], alts := [], laidByText := true, laidKinds := [.data, .pinned], laidTests := true, laidLooks := .later }
def VersionPastUptoCardSaid : Prop := Claim7.holds Tryz.pinned (.plain (OpenSpec.upto versionPastSpec)) versionPastUptoCard

/-- THE SECOND FORM's CARD OF 'cooperagelaw15.VersionApart'. -/
def versionApartUptoCard : Claim7 := { stood := { row := versionApartUptoRow, standIns := [], harness := (true, "3733efbfa9c48ac337f8b8db03bc0b3a4d268a73234fd51b11642fa59f7a8063"), looks := true }, kinds := [], alts := [], laidByText := true, laidKinds := [.data, .pinned], laidTests := true, laidLooks := .later }
def VersionApartUptoCardSaid : Prop := Claim7.holds Tryz.pinned (.plain (OpenSpec.upto versionApartSpec)) versionApartUptoCard

/-- THE SECOND FORM's CARD OF 'cooperagelaw15.VersionRuns'. -/
def versionRunsUptoCard : Claim7 := { stood := { row := versionRunsUptoRow, standIns := [], harness := (true, "3733efbfa9c48ac337f8b8db03bc0b3a4d268a73234fd51b11642fa59f7a8063"), looks := true }, kinds := [], alts := [], laidByText := true, laidKinds := [.data, .pinned], laidTests := true, laidLooks := .later }
def VersionRunsUptoCardSaid : Prop := Claim7.holds Tryz.pinned (.plain (OpenSpec.upto versionRunsSpec)) versionRunsUptoCard

/-- THE SECOND FORM's CARD OF 'cooperagelaw15.VersionFull'. -/
def versionFullUptoCard : Claim7 := { stood := { row := versionFullUptoRow, standIns := [], harness := (true, "3733efbfa9c48ac337f8b8db03bc0b3a4d268a73234fd51b11642fa59f7a8063"), looks := true }, kinds := [], alts := [], laidByText := true, laidKinds := [.data, .pinned], laidTests := true, laidLooks := .later }
def VersionFullUptoCardSaid : Prop := Claim7.holds Tryz.pinned (.plain (OpenSpec.upto versionFullSpec)) versionFullUptoCard

/-- THE SECOND FORM's CARD OF 'cooperagelaw15.VersionEnds'. -/
def versionEndsUptoCard : Claim7 := { stood := { row := versionEndsUptoRow, standIns := [], harness := (true, "3733efbfa9c48ac337f8b8db03bc0b3a4d268a73234fd51b11642fa59f7a8063"), looks := true }, kinds := [], alts := [], laidByText := true, laidKinds := [.data, .pinned], laidTests := true, laidLooks := .later }
def VersionEndsUptoCardSaid : Prop := Claim7.holds Tryz.pinned (.plain (OpenSpec.upto versionEndsSpec)) versionEndsUptoCard
end Rows
end Go.Proofs.YtankngomgjlfkaaGreatDoor
