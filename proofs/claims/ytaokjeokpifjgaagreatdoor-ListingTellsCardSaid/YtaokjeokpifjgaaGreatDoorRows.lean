/-
  NARROWER THAN 'FOR EVERY INPUT', by the rows' own cells (each row's printed sentence says how): VersionPast: laid · ListingTells: laid · ListingPages: laid · ListingAll: laid · ListingGroups: laid.
  DERIVED. THE GIVEN ROWS OF THIS SEAT. 5 by the template 'for every input the law returns true; each argument reads behind the call as it read before'; 0 by the template 'total and deterministic' (their statements: YtaokjeokpifjgaaGreatDoorTotals.lean).
  GIVEN WITH THE SEED: the statements are not yours to turn. If you find one false, say at which input.
  Laid BY PROGRAM, IN A SANDBOX (cutbox-rows.mjs): the forced cells as the released guide's own fill.sh prints them over the translation 7bb2bd2391bb3c10… (all of the seat's roots in one cut). By AI agents, Wed Nov 11 2026. No macro, syntax, notation, axiom, sorry.
-/
import Derived.Test.YtaokjeokpifjgaaGreatDoorChecked
import GoSem.PinnedTables
import GoSem.Claim
import GoSem.ClaimJoined
import GoSem.ClaimMapViews
import Derived.JoinedTies
import Derived.KernelRfl
namespace Go.Proofs.YtaokjeokpifjgaaGreatDoor
/- THE CELL 'sum', in the pinned program and in every row, IS THE sha256 OF THE DUMP (.gsa) THAT YtaokjeokpifjgaaGreatDoorProg.lean LOADS. Nothing in Lean hashes anything: it is a label: what it is worth is what the hold of that sum in a sandbox is worth. -/
noncomputable def Tryz.pinned : Pinned := { name := "ytaokjeokpifjgaagreatdoor", sum := "7bb2bd2391bb3c10d6b01d082a682e8c3576057c5fac57d86ae1f0081e10b43c", checked := Tryz.checked }
namespace Rows
def none {H : Type} : Left H := { results := [], args := [] }

/- WHAT THE LISTED PACKAGE-LEVEL VARIABLES READ AS WHEN THE CALL BEGINS. Each datum BY PROGRAM (the guide's laid-datum.mjs) off the statement by which the dump's own 'gosem.cut.vars' lays the variable. In a bare row this is a premise. The card (YtaokjeokpifjgaaGreatDoorCards.lean) ties it to the program's text. -/
def laid_unicode_utf8_acceptRanges {H : Type} : DataW H := .agg [.agg [.lit (.int .u8 128), .lit (.int .u8 191)], .agg [.lit (.int .u8 160), .lit (.int .u8 191)], .agg [.lit (.int .u8 128), .lit (.int .u8 159)], .agg [.lit (.int .u8 144), .lit (.int .u8 191)], .agg [.lit (.int .u8 128), .lit (.int .u8 143)], .agg [.lit (.int .u8 0), .lit (.int .u8 0)], .agg [.lit (.int .u8 0), .lit (.int .u8 0)], .agg [.lit (.int .u8 0), .lit (.int .u8 0)], .agg [.lit (.int .u8 0), .lit (.int .u8 0)], .agg [.lit (.int .u8 0), .lit (.int .u8 0)], .agg [.lit (.int .u8 0), .lit (.int .u8 0)], .agg [.lit (.int .u8 0), .lit (.int .u8 0)], .agg [.lit (.int .u8 0), .lit (.int .u8 0)], .agg [.lit (.int .u8 0), .lit (.int .u8 0)], .agg [.lit (.int .u8 0), .lit (.int .u8 0)], .agg [.lit (.int .u8 0), .lit (.int .u8 0)]]
/-- One of Go's own tables, pinned by name: the form's constant. -/
def laid_unicode_utf8_first : DataW Unit := Go.Pinned.utf8First

/-- 'cooperagelaw15.VersionPast': WHATEVER THE INPUT: true; the input reads as it did. -/
def versionPastSpec : ChangeSpec := { name := "versionPast", fn := fun _ => fun
  | [d1, d2] => { results := [.lit (.bool true)], args := [d1, d2] }
  | _ => none }
def versionPastRow : OpenClaim := { program := "ytaokjeokpifjgaagreatdoor", sum := "7bb2bd2391bb3c10d6b01d082a682e8c3576057c5fac57d86ae1f0081e10b43c", func := "cooperage/cooperagelaw15.VersionPast", spec := "versionPast", inPlace := ["internal/abi.NoEscape", "internal/bytealg.MakeNoZero", "internal/bytealg.IndexByteString", "internal/bytealg.IndexString", "slices.overlaps[string]", "slices.overlaps[int]"], unfollowed := true, recurses := true, named := ["unicode/utf8.first", "unicode/utf8.acceptRanges", "internal/bytealg.MaxLen"], apart := false, laid := [("unicode/utf8.acceptRanges", laid_unicode_utf8_acceptRanges), ("unicode/utf8.first", laid_unicode_utf8_first)] }
def VersionPastSaid : Prop := versionPastRow.holds Tryz.pinned (OpenSpec.ofChange versionPastSpec)

/-- ITS FALSE NEIGHBOUR: 'it returns false'. Refute it at one input. -/
def versionPastWrong : ChangeSpec := { name := "versionPast", fn := fun _ => fun
  | [d1, d2] => { results := [.lit (.bool false)], args := [d1, d2] }
  | _ => none }
def VersionPastWrongFalsely : Prop := versionPastRow.holds Tryz.pinned (OpenSpec.ofChange versionPastWrong)

/-- 'cooperagelaw16.ListingTells': WHATEVER THE INPUT: true; the input reads as it did. -/
def listingTellsSpec : ChangeSpec := { name := "listingTells", fn := fun _ => fun
  | [d1, d2] => { results := [.lit (.bool true)], args := [d1, d2] }
  | _ => none }
def listingTellsRow : OpenClaim := { program := "ytaokjeokpifjgaagreatdoor", sum := "7bb2bd2391bb3c10d6b01d082a682e8c3576057c5fac57d86ae1f0081e10b43c", func := "cooperage/cooperagelaw16.ListingTells", spec := "listingTells", inPlace := ["internal/abi.NoEscape", "internal/bytealg.MakeNoZero", "internal/bytealg.IndexByteString", "internal/bytealg.IndexString", "slices.overlaps[string]", "slices.overlaps[int]"], unfollowed := true, recurses := true, named := ["unicode/utf8.first", "unicode/utf8.acceptRanges", "internal/bytealg.MaxLen"], apart := false, laid := [("unicode/utf8.acceptRanges", laid_unicode_utf8_acceptRanges), ("unicode/utf8.first", laid_unicode_utf8_first)] }
def ListingTellsSaid : Prop := listingTellsRow.holds Tryz.pinned (OpenSpec.ofChange listingTellsSpec)

/-- ITS FALSE NEIGHBOUR: 'it returns false'. Refute it at one input. -/
def listingTellsWrong : ChangeSpec := { name := "listingTells", fn := fun _ => fun
  | [d1, d2] => { results := [.lit (.bool false)], args := [d1, d2] }
  | _ => none }
def ListingTellsWrongFalsely : Prop := listingTellsRow.holds Tryz.pinned (OpenSpec.ofChange listingTellsWrong)

/-- 'cooperagelaw16.ListingPages': WHATEVER THE INPUT: true; the input reads as it did. -/
def listingPagesSpec : ChangeSpec := { name := "listingPages", fn := fun _ => fun
  | [d1, d2, d3] => { results := [.lit (.bool true)], args := [d1, d2, d3] }
  | _ => none }
def listingPagesRow : OpenClaim := { program := "ytaokjeokpifjgaagreatdoor", sum := "7bb2bd2391bb3c10d6b01d082a682e8c3576057c5fac57d86ae1f0081e10b43c", func := "cooperage/cooperagelaw16.ListingPages", spec := "listingPages", inPlace := ["internal/abi.NoEscape", "internal/bytealg.MakeNoZero", "internal/bytealg.IndexByteString", "internal/bytealg.IndexString", "slices.overlaps[string]", "slices.overlaps[int]"], unfollowed := true, recurses := true, named := ["unicode/utf8.first", "unicode/utf8.acceptRanges", "internal/bytealg.MaxLen"], apart := false, laid := [("unicode/utf8.acceptRanges", laid_unicode_utf8_acceptRanges), ("unicode/utf8.first", laid_unicode_utf8_first)] }
def ListingPagesSaid : Prop := listingPagesRow.holds Tryz.pinned (OpenSpec.ofChange listingPagesSpec)

/-- ITS FALSE NEIGHBOUR: 'it returns false'. Refute it at one input. -/
def listingPagesWrong : ChangeSpec := { name := "listingPages", fn := fun _ => fun
  | [d1, d2, d3] => { results := [.lit (.bool false)], args := [d1, d2, d3] }
  | _ => none }
def ListingPagesWrongFalsely : Prop := listingPagesRow.holds Tryz.pinned (OpenSpec.ofChange listingPagesWrong)

/-- 'cooperagelaw16.ListingAll': WHATEVER THE INPUT: true; the input reads as it did. -/
def listingAllSpec : ChangeSpec := { name := "listingAll", fn := fun _ => fun
  | [d1, d2] => { results := [.lit (.bool true)], args := [d1, d2] }
  | _ => none }
def listingAllRow : OpenClaim := { program := "ytaokjeokpifjgaagreatdoor", sum := "7bb2bd2391bb3c10d6b01d082a682e8c3576057c5fac57d86ae1f0081e10b43c", func := "cooperage/cooperagelaw16.ListingAll", spec := "listingAll", inPlace := ["internal/abi.NoEscape", "internal/bytealg.MakeNoZero", "internal/bytealg.IndexByteString", "internal/bytealg.IndexString", "slices.overlaps[string]", "slices.overlaps[int]"], unfollowed := true, recurses := true, named := ["unicode/utf8.first", "unicode/utf8.acceptRanges", "internal/bytealg.MaxLen"], apart := false, laid := [("unicode/utf8.acceptRanges", laid_unicode_utf8_acceptRanges), ("unicode/utf8.first", laid_unicode_utf8_first)] }
def ListingAllSaid : Prop := listingAllRow.holds Tryz.pinned (OpenSpec.ofChange listingAllSpec)

/-- ITS FALSE NEIGHBOUR: 'it returns false'. Refute it at one input. -/
def listingAllWrong : ChangeSpec := { name := "listingAll", fn := fun _ => fun
  | [d1, d2] => { results := [.lit (.bool false)], args := [d1, d2] }
  | _ => none }
def ListingAllWrongFalsely : Prop := listingAllRow.holds Tryz.pinned (OpenSpec.ofChange listingAllWrong)

/-- 'cooperagelaw16.ListingGroups': WHATEVER THE INPUT: true; the input reads as it did. -/
def listingGroupsSpec : ChangeSpec := { name := "listingGroups", fn := fun _ => fun
  | [d1, d2, d3] => { results := [.lit (.bool true)], args := [d1, d2, d3] }
  | _ => none }
def listingGroupsRow : OpenClaim := { program := "ytaokjeokpifjgaagreatdoor", sum := "7bb2bd2391bb3c10d6b01d082a682e8c3576057c5fac57d86ae1f0081e10b43c", func := "cooperage/cooperagelaw16.ListingGroups", spec := "listingGroups", inPlace := ["internal/abi.NoEscape", "internal/bytealg.MakeNoZero", "internal/bytealg.IndexByteString", "internal/bytealg.IndexString", "slices.overlaps[string]", "slices.overlaps[int]"], unfollowed := true, recurses := true, named := ["unicode/utf8.first", "unicode/utf8.acceptRanges", "internal/bytealg.MaxLen"], apart := false, laid := [("unicode/utf8.acceptRanges", laid_unicode_utf8_acceptRanges), ("unicode/utf8.first", laid_unicode_utf8_first)] }
def ListingGroupsSaid : Prop := listingGroupsRow.holds Tryz.pinned (OpenSpec.ofChange listingGroupsSpec)

/-- ITS FALSE NEIGHBOUR: 'it returns false'. Refute it at one input. -/
def listingGroupsWrong : ChangeSpec := { name := "listingGroups", fn := fun _ => fun
  | [d1, d2, d3] => { results := [.lit (.bool false)], args := [d1, d2, d3] }
  | _ => none }
def ListingGroupsWrongFalsely : Prop := listingGroupsRow.holds Tryz.pinned (OpenSpec.ofChange listingGroupsWrong)

/- THE SECOND FORM. 'bulk': how many values and letters a reading holds, each counted each time it is reached (what is shared counts as often as it is met; a slice's spare places count too). A statement '..UptoSaid' is the law's where the arguments, and the package variables that the reading takes, are together of bulk at most 1048576: NARROWER than '..Said'. Prove '..Said' where nothing that the law and all that it calls make is longer than what came in: it says more and counts as full. Else prove '..UptoSaid'. A law counts once. -/
mutual
def uptoBulk {H : Type} : DataW H → Nat
  | .lit (.string bytes) => bytes.length + 1
  | .lit _ => 1
  | .nil => 1
  | .ptr d => uptoBulk d + 1
  | .slice elems spare => uptoBulkAll elems + uptoBulkAll spare + 1
  | .agg parts => uptoBulkAll parts + 1
  | .iface _ d => uptoBulk d + 1
  | .map entries => uptoBulkEntries entries + 1
  | .held _ => 1
def uptoBulkAll {H : Type} : List (DataW H) → Nat
  | [] => 0
  | d :: r => uptoBulk d + uptoBulkAll r
def uptoBulkEntries {H : Type} : List (Lit × DataW H) → Nat
  | [] => 0
  | x :: r => uptoBulkEntry x + uptoBulkEntries r
def uptoBulkEntry {H : Type} : Lit × DataW H → Nat
  | (.string bytes, d) => bytes.length + uptoBulk d + 1
  | (_, d) => uptoBulk d + 1
 end
def uptoSmall : (H : Type) → List (DataW H) → Bool := fun _ ds => decide (uptoBulkAll ds ≤ 1048576)
def OpenSpec.upto (s : _root_.Go.ChangeSpec) : _root_.Go.OpenSpec := { _root_.Go.OpenSpec.ofChange s with cond := some uptoSmall }

/-- 'cooperagelaw15.VersionPast', WHERE WHAT IT READS IS OF BULK AT MOST 1048576: true; the input reads as it did. -/
def versionPastUptoRow : OpenClaim := { program := "ytaokjeokpifjgaagreatdoor", sum := "7bb2bd2391bb3c10d6b01d082a682e8c3576057c5fac57d86ae1f0081e10b43c", func := "cooperage/cooperagelaw15.VersionPast", spec := "versionPast", inPlace := ["internal/abi.NoEscape", "internal/bytealg.MakeNoZero", "internal/bytealg.IndexByteString", "internal/bytealg.IndexString", "slices.overlaps[string]", "slices.overlaps[int]"], unfollowed := true, recurses := true, named := ["unicode/utf8.first", "unicode/utf8.acceptRanges", "internal/bytealg.MaxLen"], apart := false, laid := [("unicode/utf8.acceptRanges", laid_unicode_utf8_acceptRanges), ("unicode/utf8.first", laid_unicode_utf8_first)], narrowed := true }
def VersionPastUptoSaid : Prop := versionPastUptoRow.holds Tryz.pinned (OpenSpec.upto versionPastSpec)

/-- 'cooperagelaw16.ListingTells', WHERE WHAT IT READS IS OF BULK AT MOST 1048576: true; the input reads as it did. -/
def listingTellsUptoRow : OpenClaim := { program := "ytaokjeokpifjgaagreatdoor", sum := "7bb2bd2391bb3c10d6b01d082a682e8c3576057c5fac57d86ae1f0081e10b43c", func := "cooperage/cooperagelaw16.ListingTells", spec := "listingTells", inPlace := ["internal/abi.NoEscape", "internal/bytealg.MakeNoZero", "internal/bytealg.IndexByteString", "internal/bytealg.IndexString", "slices.overlaps[string]", "slices.overlaps[int]"], unfollowed := true, recurses := true, named := ["unicode/utf8.first", "unicode/utf8.acceptRanges", "internal/bytealg.MaxLen"], apart := false, laid := [("unicode/utf8.acceptRanges", laid_unicode_utf8_acceptRanges), ("unicode/utf8.first", laid_unicode_utf8_first)], narrowed := true }
def ListingTellsUptoSaid : Prop := listingTellsUptoRow.holds Tryz.pinned (OpenSpec.upto listingTellsSpec)

/-- 'cooperagelaw16.ListingPages', WHERE WHAT IT READS IS OF BULK AT MOST 1048576: true; the input reads as it did. -/
def listingPagesUptoRow : OpenClaim := { program := "ytaokjeokpifjgaagreatdoor", sum := "7bb2bd2391bb3c10d6b01d082a682e8c3576057c5fac57d86ae1f0081e10b43c", func := "cooperage/cooperagelaw16.ListingPages", spec := "listingPages", inPlace := ["internal/abi.NoEscape", "internal/bytealg.MakeNoZero", "internal/bytealg.IndexByteString", "internal/bytealg.IndexString", "slices.overlaps[string]", "slices.overlaps[int]"], unfollowed := true, recurses := true, named := ["unicode/utf8.first", "unicode/utf8.acceptRanges", "internal/bytealg.MaxLen"], apart := false, laid := [("unicode/utf8.acceptRanges", laid_unicode_utf8_acceptRanges), ("unicode/utf8.first", laid_unicode_utf8_first)], narrowed := true }
def ListingPagesUptoSaid : Prop := listingPagesUptoRow.holds Tryz.pinned (OpenSpec.upto listingPagesSpec)

/-- 'cooperagelaw16.ListingAll', WHERE WHAT IT READS IS OF BULK AT MOST 1048576: true; the input reads as it did. -/
def listingAllUptoRow : OpenClaim := { program := "ytaokjeokpifjgaagreatdoor", sum := "7bb2bd2391bb3c10d6b01d082a682e8c3576057c5fac57d86ae1f0081e10b43c", func := "cooperage/cooperagelaw16.ListingAll", spec := "listingAll", inPlace := ["internal/abi.NoEscape", "internal/bytealg.MakeNoZero", "internal/bytealg.IndexByteString", "internal/bytealg.IndexString", "slices.overlaps[string]", "slices.overlaps[int]"], unfollowed := true, recurses := true, named := ["unicode/utf8.first", "unicode/utf8.acceptRanges", "internal/bytealg.MaxLen"], apart := false, laid := [("unicode/utf8.acceptRanges", laid_unicode_utf8_acceptRanges), ("unicode/utf8.first", laid_unicode_utf8_first)], narrowed := true }
def ListingAllUptoSaid : Prop := listingAllUptoRow.holds Tryz.pinned (OpenSpec.upto listingAllSpec)

/-- 'cooperagelaw16.ListingGroups', WHERE WHAT IT READS IS OF BULK AT MOST 1048576: true; the input reads as it did. -/
def listingGroupsUptoRow : OpenClaim := { program := "ytaokjeokpifjgaagreatdoor", sum := "7bb2bd2391bb3c10d6b01d082a682e8c3576057c5fac57d86ae1f0081e10b43c", func := "cooperage/cooperagelaw16.ListingGroups", spec := "listingGroups", inPlace := ["internal/abi.NoEscape", "internal/bytealg.MakeNoZero", "internal/bytealg.IndexByteString", "internal/bytealg.IndexString", "slices.overlaps[string]", "slices.overlaps[int]"], unfollowed := true, recurses := true, named := ["unicode/utf8.first", "unicode/utf8.acceptRanges", "internal/bytealg.MaxLen"], apart := false, laid := [("unicode/utf8.acceptRanges", laid_unicode_utf8_acceptRanges), ("unicode/utf8.first", laid_unicode_utf8_first)], narrowed := true }
def ListingGroupsUptoSaid : Prop := listingGroupsUptoRow.holds Tryz.pinned (OpenSpec.upto listingGroupsSpec)

end Rows
end Go.Proofs.YtaokjeokpifjgaaGreatDoor
