/-
  DERIVED. GIVEN WITH THE SEED: THE CARDS: each row of YtaokjeokpifjgaaGreatDoorRows.lean that lists a variable, with what it lists TIED to the program's text (the seventh form; the later family's looks); each row that meets fmt, with fmt's text TOLD by the authors' own Lean function (tested against real Go, not proved from fmt's source: count such statements apart). THE CARD IS WHAT COUNTS. Prove the row's statement (the work); the ties are given (YtaokjeokpifjgaaGreatDoorTie.lean); close each card by the builder's one call (the guide's Derived/Test/ToyasCard.lean, 'card_holds'). Laid BY PROGRAM, IN A SANDBOX (cutbox-door.mjs). By AI agents, Wed Nov 11 2026. No macro, syntax, notation, axiom, sorry.
-/
import Derived.Test.YtaokjeokpifjgaaGreatDoorRows
import GoSem.ClaimSeven
namespace Go.Proofs.YtaokjeokpifjgaaGreatDoor
namespace Rows

/-- THE TIED CARD OF 'cooperagelaw15.VersionPast'. -/
def versionPastCard : Claim7 := { stood := { row := versionPastRow, standIns := [], harness := (true, "6e1bee90fa1fac6bdd0553a704ac2f7b3a2acee0aebdd824af77c0e799ffee7c"), looks := true }, kinds := [], alts := [], laidByText := true, laidKinds := [.data, .pinned], laidTests := true, laidLooks := .later }
def VersionPastCardSaid : Prop := Claim7.holds Tryz.pinned (.plain (OpenSpec.ofChange versionPastSpec)) versionPastCard

/-- THE TIED CARD OF 'cooperagelaw16.ListingTells'. -/
def listingTellsCard : Claim7 := { stood := { row := listingTellsRow, standIns := [], harness := (true, "6e1bee90fa1fac6bdd0553a704ac2f7b3a2acee0aebdd824af77c0e799ffee7c"), looks := true }, kinds := [], alts := [], laidByText := true, laidKinds := [.data, .pinned], laidTests := true, laidLooks := .later }
def ListingTellsCardSaid : Prop := Claim7.holds Tryz.pinned (.plain (OpenSpec.ofChange listingTellsSpec)) listingTellsCard

/-- THE TIED CARD OF 'cooperagelaw16.ListingPages'. -/
def listingPagesCard : Claim7 := { stood := { row := listingPagesRow, standIns := [], harness := (true, "6e1bee90fa1fac6bdd0553a704ac2f7b3a2acee0aebdd824af77c0e799ffee7c"), looks := true }, kinds := [], alts := [], laidByText := true, laidKinds := [.data, .pinned], laidTests := true, laidLooks := .later }
def ListingPagesCardSaid : Prop := Claim7.holds Tryz.pinned (.plain (OpenSpec.ofChange listingPagesSpec)) listingPagesCard

/-- THE TIED CARD OF 'cooperagelaw16.ListingAll'. -/
def listingAllCard : Claim7 := { stood := { row := listingAllRow, standIns := [], harness := (true, "6e1bee90fa1fac6bdd0553a704ac2f7b3a2acee0aebdd824af77c0e799ffee7c"), looks := true }, kinds := [], alts := [], laidByText := true, laidKinds := [.data, .pinned], laidTests := true, laidLooks := .later }
def ListingAllCardSaid : Prop := Claim7.holds Tryz.pinned (.plain (OpenSpec.ofChange listingAllSpec)) listingAllCard

/-- THE TIED CARD OF 'cooperagelaw16.ListingGroups'. -/
def listingGroupsCard : Claim7 := { stood := { row := listingGroupsRow, standIns := [], harness := (true, "6e1bee90fa1fac6bdd0553a704ac2f7b3a2acee0aebdd824af77c0e799ffee7c"), looks := true }, kinds := [], alts := [], laidByText := true, laidKinds := [.data, .pinned], laidTests := true, laidLooks := .later }
def ListingGroupsCardSaid : Prop := Claim7.holds Tryz.pinned (.plain (OpenSpec.ofChange listingGroupsSpec)) listingGroupsCard

/-- THE SECOND FORM's CARD OF 'cooperagelaw15.VersionPast'. -/
def versionPastUptoCard : Claim7 := { stood := { row := versionPastUptoRow, standIns := [], harness := (true, "6e1bee90fa1fac6bdd0553a704ac2f7b3a2acee0aebdd824af77c0e799ffee7c"), looks := true }, kinds := [], alts := [], laidByText := true, laidKinds := [.data, .pinned], laidTests := true, laidLooks := .later }
def VersionPastUptoCardSaid : Prop := Claim7.holds Tryz.pinned (.plain (OpenSpec.upto versionPastSpec)) versionPastUptoCard

/-- THE SECOND FORM's CARD OF 'cooperagelaw16.ListingTells'. -/
def listingTellsUptoCard : Claim7 := { stood := { row := listingTellsUptoRow, standIns := [], harness := (true, "6e1bee90fa1fac6bdd0553a704ac2f7b3a2acee0aebdd824af77c0e799ffee7c"), looks := true }, kinds := [], alts := [], laidByText := true, laidKinds := [.data, .pinned], laidTests := true, laidLooks := .later }
def ListingTellsUptoCardSaid : Prop := Claim7.holds Tryz.pinned (.plain (OpenSpec.upto listingTellsSpec)) listingTellsUptoCard

/-- THE SECOND FORM's CARD OF 'cooperagelaw16.ListingPages'. -/
def listingPagesUptoCard : Claim7 := { stood := { row := listingPagesUptoRow, standIns := [], harness := (true, "6e1bee90fa1fac6bdd0553a704ac2f7b3a2acee0aebdd824af77c0e799ffee7c"), looks := true }, kinds := [], alts := [], laidByText := true, laidKinds := [.data, .pinned], laidTests := true, laidLooks := .later }
def ListingPagesUptoCardSaid : Prop := Claim7.holds Tryz.pinned (.plain (OpenSpec.upto listingPagesSpec)) listingPagesUptoCard

/-- THE SECOND FORM's CARD OF 'cooperagelaw16.ListingAll'. -/
def listingAllUptoCard : Claim7 := { stood := { row := listingAllUptoRow, standIns := [], harness := (true, "6e1bee90fa1fac6bdd0553a704ac2f7b3a2acee0aebdd824af77c0e799ffee7c"), looks := true }, kinds := [], alts := [], laidByText := true, laidKinds := [.data, .pinned], laidTests := true, laidLooks := .later }
def ListingAllUptoCardSaid : Prop := Claim7.holds Tryz.pinned (.plain (OpenSpec.upto listingAllSpec)) listingAllUptoCard

/-- THE SECOND FORM's CARD OF 'cooperagelaw16.ListingGroups'. -/
def listingGroupsUptoCard : Claim7 := { stood := { row := listingGroupsUptoRow, standIns := [], harness := (true, "6e1bee90fa1fac6bdd0553a704ac2f7b3a2acee0aebdd824af77c0e799ffee7c"), looks := true }, kinds := [], alts := [], laidByText := true, laidKinds := [.data, .pinned], laidTests := true, laidLooks := .later }
def ListingGroupsUptoCardSaid : Prop := Claim7.holds Tryz.pinned (.plain (OpenSpec.upto listingGroupsSpec)) listingGroupsUptoCard
end Rows
end Go.Proofs.YtaokjeokpifjgaaGreatDoor
