/-
  NARROWER THAN 'FOR EVERY INPUT', by the rows' own cells (each row's printed sentence says how): SealRecipes: laid · VersionPast: laid · VersionApart: laid · VersionRuns: laid · VersionFull: laid · VersionEnds: laid.
  DERIVED. THE GIVEN ROWS OF THIS SEAT. 6 by the template 'for every input the law returns true; each argument reads behind the call as it read before'; 0 by the template 'total and deterministic' (their statements: YtankngomgjlfkaaGreatDoorTotals.lean).
  GIVEN WITH THE SEED: the statements are not yours to turn. If you find one false, say at which input.
  Laid BY PROGRAM, IN A SANDBOX (cutbox-rows.mjs): the forced cells as the released guide's own fill.sh prints them over the translation 733f460bd7f4b049… (all of the seat's roots in one cut). By AI agents, Wed Nov 11 2026. No macro, syntax, notation, axiom, sorry.
-/
import Derived.Test.YtankngomgjlfkaaGreatDoorChecked
import GoSem.PinnedTables
import GoSem.Claim
import GoSem.ClaimJoined
import GoSem.ClaimMapViews
import Derived.JoinedTies
import Derived.KernelRfl
namespace Go.Proofs.YtankngomgjlfkaaGreatDoor
/- THE CELL 'sum', in the pinned program and in every row, IS THE sha256 OF THE DUMP (.gsa) THAT YtankngomgjlfkaaGreatDoorProg.lean LOADS. Nothing in Lean hashes anything: it is a label: what it is worth is what the hold of that sum in a sandbox is worth. -/
noncomputable def Tryz.pinned : Pinned := { name := "ytankngomgjlfkaagreatdoor", sum := "733f460bd7f4b049c6b986665d0f38d5b95e92acc00601afad5a56bf3319bef5", checked := Tryz.checked }
namespace Rows
def none {H : Type} : Left H := { results := [], args := [] }

/- WHAT THE LISTED PACKAGE-LEVEL VARIABLES READ AS WHEN THE CALL BEGINS. Each datum BY PROGRAM (the guide's laid-datum.mjs) off the statement by which the dump's own 'gosem.cut.vars' lays the variable. In a bare row this is a premise. The card (YtankngomgjlfkaaGreatDoorCards.lean) ties it to the program's text. -/
def laid_unicode_utf8_acceptRanges {H : Type} : DataW H := .agg [.agg [.lit (.int .u8 128), .lit (.int .u8 191)], .agg [.lit (.int .u8 160), .lit (.int .u8 191)], .agg [.lit (.int .u8 128), .lit (.int .u8 159)], .agg [.lit (.int .u8 144), .lit (.int .u8 191)], .agg [.lit (.int .u8 128), .lit (.int .u8 143)], .agg [.lit (.int .u8 0), .lit (.int .u8 0)], .agg [.lit (.int .u8 0), .lit (.int .u8 0)], .agg [.lit (.int .u8 0), .lit (.int .u8 0)], .agg [.lit (.int .u8 0), .lit (.int .u8 0)], .agg [.lit (.int .u8 0), .lit (.int .u8 0)], .agg [.lit (.int .u8 0), .lit (.int .u8 0)], .agg [.lit (.int .u8 0), .lit (.int .u8 0)], .agg [.lit (.int .u8 0), .lit (.int .u8 0)], .agg [.lit (.int .u8 0), .lit (.int .u8 0)], .agg [.lit (.int .u8 0), .lit (.int .u8 0)], .agg [.lit (.int .u8 0), .lit (.int .u8 0)]]
/-- One of Go's own tables, pinned by name: the form's constant. -/
def laid_unicode_utf8_first : DataW Unit := Go.Pinned.utf8First

/-- 'cooperagelaw26.SealRecipes': WHATEVER THE INPUT: true; the input reads as it did. -/
def sealRecipesSpec : ChangeSpec := { name := "sealRecipes", fn := fun _ => fun
  | [d1, d2] => { results := [.lit (.bool true)], args := [d1, d2] }
  | _ => none }
def sealRecipesRow : OpenClaim := { program := "ytankngomgjlfkaagreatdoor", sum := "733f460bd7f4b049c6b986665d0f38d5b95e92acc00601afad5a56bf3319bef5", func := "cooperage/cooperagelaw26.SealRecipes", spec := "sealRecipes", inPlace := ["internal/abi.NoEscape", "internal/bytealg.MakeNoZero", "internal/bytealg.IndexByteString", "internal/bytealg.IndexString", "slices.overlaps[string]", "slices.overlaps[int]"], unfollowed := true, recurses := true, named := ["unicode/utf8.first", "unicode/utf8.acceptRanges", "internal/bytealg.MaxLen"], apart := false, laid := [("unicode/utf8.acceptRanges", laid_unicode_utf8_acceptRanges), ("unicode/utf8.first", laid_unicode_utf8_first)] }
def SealRecipesSaid : Prop := sealRecipesRow.holds Tryz.pinned (OpenSpec.ofChange sealRecipesSpec)

/-- ITS FALSE NEIGHBOUR: 'it returns false'. Refute it at one input. -/
def sealRecipesWrong : ChangeSpec := { name := "sealRecipes", fn := fun _ => fun
  | [d1, d2] => { results := [.lit (.bool false)], args := [d1, d2] }
  | _ => none }
def SealRecipesWrongFalsely : Prop := sealRecipesRow.holds Tryz.pinned (OpenSpec.ofChange sealRecipesWrong)

/-- 'cooperagelaw15.VersionPast': WHATEVER THE INPUT: true; the input reads as it did. -/
def versionPastSpec : ChangeSpec := { name := "versionPast", fn := fun _ => fun
  | [d1, d2] => { results := [.lit (.bool true)], args := [d1, d2] }
  | _ => none }
def versionPastRow : OpenClaim := { program := "ytankngomgjlfkaagreatdoor", sum := "733f460bd7f4b049c6b986665d0f38d5b95e92acc00601afad5a56bf3319bef5", func := "cooperage/cooperagelaw15.VersionPast", spec := "versionPast", inPlace := ["internal/abi.NoEscape", "internal/bytealg.MakeNoZero", "internal/bytealg.IndexByteString", "internal/bytealg.IndexString", "slices.overlaps[string]", "slices.overlaps[int]"], unfollowed := true, recurses := true, named := ["unicode/utf8.first", "unicode/utf8.acceptRanges", "internal/bytealg.MaxLen"], apart := false, laid := [("unicode/utf8.acceptRanges", laid_unicode_utf8_acceptRanges), ("unicode/utf8.first", laid_unicode_utf8_first)] }
def VersionPastSaid : Prop := versionPastRow.holds Tryz.pinned (OpenSpec.ofChange versionPastSpec)

/-- ITS FALSE NEIGHBOUR: 'it returns false'. Refute it at one input. -/
def versionPastWrong : ChangeSpec := { name := "versionPast", fn := fun _ => fun
  | [d1, d2] => { results := [.lit (.bool false)], args := [d1, d2] }
  | _ => none }
def VersionPastWrongFalsely : Prop := versionPastRow.holds Tryz.pinned (OpenSpec.ofChange versionPastWrong)

/-- 'cooperagelaw15.VersionApart': WHATEVER THE INPUT: true; the input reads as it did. -/
def versionApartSpec : ChangeSpec := { name := "versionApart", fn := fun _ => fun
  | [d1, d2] => { results := [.lit (.bool true)], args := [d1, d2] }
  | _ => none }
def versionApartRow : OpenClaim := { program := "ytankngomgjlfkaagreatdoor", sum := "733f460bd7f4b049c6b986665d0f38d5b95e92acc00601afad5a56bf3319bef5", func := "cooperage/cooperagelaw15.VersionApart", spec := "versionApart", inPlace := ["internal/abi.NoEscape", "internal/bytealg.MakeNoZero", "internal/bytealg.IndexByteString", "internal/bytealg.IndexString", "slices.overlaps[string]", "slices.overlaps[int]"], unfollowed := true, recurses := true, named := ["unicode/utf8.first", "unicode/utf8.acceptRanges", "internal/bytealg.MaxLen"], apart := false, laid := [("unicode/utf8.acceptRanges", laid_unicode_utf8_acceptRanges), ("unicode/utf8.first", laid_unicode_utf8_first)] }
def VersionApartSaid : Prop := versionApartRow.holds Tryz.pinned (OpenSpec.ofChange versionApartSpec)

/-- ITS FALSE NEIGHBOUR: 'it returns false'. Refute it at one input. -/
def versionApartWrong : ChangeSpec := { name := "versionApart", fn := fun _ => fun
  | [d1, d2] => { results := [.lit (.bool false)], args := [d1, d2] }
  | _ => none }
def VersionApartWrongFalsely : Prop := versionApartRow.holds Tryz.pinned (OpenSpec.ofChange versionApartWrong)

/-- 'cooperagelaw15.VersionRuns': WHATEVER THE INPUT: true; the input reads as it did. -/
def versionRunsSpec : ChangeSpec := { name := "versionRuns", fn := fun _ => fun
  | [d] => { results := [.lit (.bool true)], args := [d] }
  | _ => none }
def versionRunsRow : OpenClaim := { program := "ytankngomgjlfkaagreatdoor", sum := "733f460bd7f4b049c6b986665d0f38d5b95e92acc00601afad5a56bf3319bef5", func := "cooperage/cooperagelaw15.VersionRuns", spec := "versionRuns", inPlace := ["internal/abi.NoEscape", "internal/bytealg.MakeNoZero", "internal/bytealg.IndexByteString", "internal/bytealg.IndexString", "slices.overlaps[string]", "slices.overlaps[int]"], unfollowed := true, recurses := true, named := ["unicode/utf8.first", "unicode/utf8.acceptRanges", "internal/bytealg.MaxLen"], apart := false, laid := [("unicode/utf8.acceptRanges", laid_unicode_utf8_acceptRanges), ("unicode/utf8.first", laid_unicode_utf8_first)] }
def VersionRunsSaid : Prop := versionRunsRow.holds Tryz.pinned (OpenSpec.ofChange versionRunsSpec)

/-- ITS FALSE NEIGHBOUR: 'it returns false'. Refute it at one input. -/
def versionRunsWrong : ChangeSpec := { name := "versionRuns", fn := fun _ => fun
  | [d] => { results := [.lit (.bool false)], args := [d] }
  | _ => none }
def VersionRunsWrongFalsely : Prop := versionRunsRow.holds Tryz.pinned (OpenSpec.ofChange versionRunsWrong)

/-- 'cooperagelaw15.VersionFull': WHATEVER THE INPUT: true; the input reads as it did. -/
def versionFullSpec : ChangeSpec := { name := "versionFull", fn := fun _ => fun
  | [d1, d2] => { results := [.lit (.bool true)], args := [d1, d2] }
  | _ => none }
def versionFullRow : OpenClaim := { program := "ytankngomgjlfkaagreatdoor", sum := "733f460bd7f4b049c6b986665d0f38d5b95e92acc00601afad5a56bf3319bef5", func := "cooperage/cooperagelaw15.VersionFull", spec := "versionFull", inPlace := ["internal/abi.NoEscape", "internal/bytealg.MakeNoZero", "internal/bytealg.IndexByteString", "internal/bytealg.IndexString", "slices.overlaps[string]", "slices.overlaps[int]"], unfollowed := true, recurses := true, named := ["unicode/utf8.first", "unicode/utf8.acceptRanges", "internal/bytealg.MaxLen"], apart := false, laid := [("unicode/utf8.acceptRanges", laid_unicode_utf8_acceptRanges), ("unicode/utf8.first", laid_unicode_utf8_first)] }
def VersionFullSaid : Prop := versionFullRow.holds Tryz.pinned (OpenSpec.ofChange versionFullSpec)

/-- ITS FALSE NEIGHBOUR: 'it returns false'. Refute it at one input. -/
def versionFullWrong : ChangeSpec := { name := "versionFull", fn := fun _ => fun
  | [d1, d2] => { results := [.lit (.bool false)], args := [d1, d2] }
  | _ => none }
def VersionFullWrongFalsely : Prop := versionFullRow.holds Tryz.pinned (OpenSpec.ofChange versionFullWrong)

/-- 'cooperagelaw15.VersionEnds': WHATEVER THE INPUT: true; the input reads as it did. -/
def versionEndsSpec : ChangeSpec := { name := "versionEnds", fn := fun _ => fun
  | [d] => { results := [.lit (.bool true)], args := [d] }
  | _ => none }
def versionEndsRow : OpenClaim := { program := "ytankngomgjlfkaagreatdoor", sum := "733f460bd7f4b049c6b986665d0f38d5b95e92acc00601afad5a56bf3319bef5", func := "cooperage/cooperagelaw15.VersionEnds", spec := "versionEnds", inPlace := ["internal/abi.NoEscape", "internal/bytealg.MakeNoZero", "internal/bytealg.IndexByteString", "internal/bytealg.IndexString", "slices.overlaps[string]", "slices.overlaps[int]"], unfollowed := true, recurses := true, named := ["unicode/utf8.first", "unicode/utf8.acceptRanges", "internal/bytealg.MaxLen"], apart := false, laid := [("unicode/utf8.acceptRanges", laid_unicode_utf8_acceptRanges), ("unicode/utf8.first", laid_unicode_utf8_first)] }
def VersionEndsSaid : Prop := versionEndsRow.holds Tryz.pinned (OpenSpec.ofChange versionEndsSpec)

/-- ITS FALSE NEIGHBOUR: 'it returns false'. Refute it at one input. -/
def versionEndsWrong : ChangeSpec := { name := "versionEnds", fn := fun _ => fun
  | [d] => { results := [.lit (.bool false)], args := [d] }
  | _ => none }
def VersionEndsWrongFalsely : Prop := versionEndsRow.holds Tryz.pinned (OpenSpec.ofChange versionEndsWrong)

/- THE SECOND FORM. 'bulk': how many values and letters a reading holds, each counted each time it is reached (what is shared counts as often as it is met; a slice's spare places count too). A statement '..UptoSaid' is the law's where the arguments, and the package variables that the reading takes, are together of bulk at most 1048576: NARROWER than '..Said'. Prove '..Said' where nothing that the law and all that it calls make is longer than what came in: it says more and counts as full. Else prove '..UptoSaid'. A law counts once. -/
mutual
def uptoBulk {H : Type} : DataW H → Nat
  | .lit (.string bytes) => bytes.length + 1
  | .lit _ => 1
  | .nil => 1
  | .ptr d => uptoBulk d + 1
  | .slice elems spare => uptoBulkAll elems + uptoBulkAll spare + 1
  | .agg parts => uptoBulkAll parts + 1
  | .iface _ d => uptoBulk d + 1
  | .map entries => uptoBulkEntries entries + 1
  | .held _ => 1
def uptoBulkAll {H : Type} : List (DataW H) → Nat
  | [] => 0
  | d :: r => uptoBulk d + uptoBulkAll r
def uptoBulkEntries {H : Type} : List (Lit × DataW H) → Nat
  | [] => 0
  | x :: r => uptoBulkEntry x + uptoBulkEntries r
def uptoBulkEntry {H : Type} : Lit × DataW H → Nat
  | (.string bytes, d) => bytes.length + uptoBulk d + 1
  | (_, d) => uptoBulk d + 1
 end
def uptoSmall : (H : Type) → List (DataW H) → Bool := fun _ ds => decide (uptoBulkAll ds ≤ 1048576)
def OpenSpec.upto (s : _root_.Go.ChangeSpec) : _root_.Go.OpenSpec := { _root_.Go.OpenSpec.ofChange s with cond := some uptoSmall }

/-- 'cooperagelaw26.SealRecipes', WHERE WHAT IT READS IS OF BULK AT MOST 1048576: true; the input reads as it did. -/
def sealRecipesUptoRow : OpenClaim := { program := "ytankngomgjlfkaagreatdoor", sum := "733f460bd7f4b049c6b986665d0f38d5b95e92acc00601afad5a56bf3319bef5", func := "cooperage/cooperagelaw26.SealRecipes", spec := "sealRecipes", inPlace := ["internal/abi.NoEscape", "internal/bytealg.MakeNoZero", "internal/bytealg.IndexByteString", "internal/bytealg.IndexString", "slices.overlaps[string]", "slices.overlaps[int]"], unfollowed := true, recurses := true, named := ["unicode/utf8.first", "unicode/utf8.acceptRanges", "internal/bytealg.MaxLen"], apart := false, laid := [("unicode/utf8.acceptRanges", laid_unicode_utf8_acceptRanges), ("unicode/utf8.first", laid_unicode_utf8_first)], narrowed := true }
def SealRecipesUptoSaid : Prop := sealRecipesUptoRow.holds Tryz.pinned (OpenSpec.upto sealRecipesSpec)

/-- 'cooperagelaw15.VersionPast', WHERE WHAT IT READS IS OF BULK AT MOST 1048576: true; the input reads as it did. -/
def versionPastUptoRow : OpenClaim := { program := "ytankngomgjlfkaagreatdoor", sum := "733f460bd7f4b049c6b986665d0f38d5b95e92acc00601afad5a56bf3319bef5", func := "cooperage/cooperagelaw15.VersionPast", spec := "versionPast", inPlace := ["internal/abi.NoEscape", "internal/bytealg.MakeNoZero", "internal/bytealg.IndexByteString", "internal/bytealg.IndexString", "slices.overlaps[string]", "slices.overlaps[int]"], unfollowed := true, recurses := true, named := ["unicode/utf8.first", "unicode/utf8.acceptRanges", "internal/bytealg.MaxLen"], apart := false, laid := [("unicode/utf8.acceptRanges", laid_unicode_utf8_acceptRanges), ("unicode/utf8.first", laid_unicode_utf8_first)], narrowed := true }
def VersionPastUptoSaid : Prop := versionPastUptoRow.holds Tryz.pinned (OpenSpec.upto versionPastSpec)

/-- 'cooperagelaw15.VersionApart', WHERE WHAT IT READS IS OF BULK AT MOST 1048576: true; the input reads as it did. -/
def versionApartUptoRow : OpenClaim := { program := "ytankngomgjlfkaagreatdoor", sum := "733f460bd7f4b049c6b986665d0f38d5b95e92acc00601afad5a56bf3319bef5", func := "cooperage/cooperagelaw15.VersionApart", spec := "versionApart", inPlace := ["internal/abi.NoEscape", "internal/bytealg.MakeNoZero", "internal/bytealg.IndexByteString", "internal/bytealg.IndexString", "slices.overlaps[string]", "slices.overlaps[int]"], unfollowed := true, recurses := true, named := ["unicode/utf8.first", "unicode/utf8.acceptRanges", "internal/bytealg.MaxLen"], apart := false, laid := [("unicode/utf8.acceptRanges", laid_unicode_utf8_acceptRanges), ("unicode/utf8.first", laid_unicode_utf8_first)], narrowed := true }
def VersionApartUptoSaid : Prop := versionApartUptoRow.holds Tryz.pinned (OpenSpec.upto versionApartSpec)

/-- 'cooperagelaw15.VersionRuns', WHERE WHAT IT READS IS OF BULK AT MOST 1048576: true; the input reads as it did. -/
def versionRunsUptoRow : OpenClaim := { program := "ytankngomgjlfkaagreatdoor", sum := "733f460bd7f4b049c6b986665d0f38d5b95e92acc00601afad5a56bf3319bef5", func := "cooperage/cooperagelaw15.VersionRuns", spec := "versionRuns", inPlace := ["internal/abi.NoEscape", "internal/bytealg.MakeNoZero", "internal/bytealg.IndexByteString", "internal/bytealg.IndexString", "slices.overlaps[string]", "slices.overlaps[int]"], unfollowed := true, recurses := true, named := ["unicode/utf8.first", "unicode/utf8.acceptRanges", "internal/bytealg.MaxLen"], apart := false, laid := [("unicode/utf8.acceptRanges", laid_unicode_utf8_acceptRanges), ("unicode/utf8.first", laid_unicode_utf8_first)], narrowed := true }
def VersionRunsUptoSaid : Prop := versionRunsUptoRow.holds Tryz.pinned (OpenSpec.upto versionRunsSpec)

/-- 'cooperagelaw15.VersionFull', WHERE WHAT IT READS IS OF BULK AT MOST 1048576: true; the input reads as it did. -/
def versionFullUptoRow : OpenClaim := { program := "ytankngomgjlfkaagreatdoor", sum := "733f460bd7f4b049c6b986665d0f38d5b95e92acc00601afad5a56bf3319bef5", func := "cooperage/cooperagelaw15.VersionFull", spec := "versionFull", inPlace := ["internal/abi.NoEscape", "internal/bytealg.MakeNoZero", "internal/bytealg.IndexByteString", "internal/bytealg.IndexString", "slices.overlaps[string]", "slices.overlaps[int]"], unfollowed := true, recurses := true, named := ["unicode/utf8.first", "unicode/utf8.acceptRanges", "internal/bytealg.MaxLen"], apart := false, laid := [("unicode/utf8.acceptRanges", laid_unicode_utf8_acceptRanges), ("unicode/utf8.first", laid_unicode_utf8_first)], narrowed := true }
def VersionFullUptoSaid : Prop := versionFullUptoRow.holds Tryz.pinned (OpenSpec.upto versionFullSpec)

/-- 'cooperagelaw15.VersionEnds', WHERE WHAT IT READS IS OF BULK AT MOST 1048576: true; the input reads as it did. -/
def versionEndsUptoRow : OpenClaim := { program := "ytankngomgjlfkaagreatdoor", sum := "733f460bd7f4b049c6b986665d0f38d5b95e92acc00601afad5a56bf3319bef5", func := "cooperage/cooperagelaw15.VersionEnds", spec := "versionEnds", inPlace := ["internal/abi.NoEscape", "internal/bytealg.MakeNoZero", "internal/bytealg.IndexByteString", "internal/bytealg.IndexString", "slices.overlaps[string]", "slices.overlaps[int]"], unfollowed := true, recurses := true, named := ["unicode/utf8.first", "unicode/utf8.acceptRanges", "internal/bytealg.MaxLen"], apart := false, laid := [("unicode/utf8.acceptRanges", laid_unicode_utf8_acceptRanges), ("unicode/utf8.first", laid_unicode_utf8_first)], narrowed := true }
def VersionEndsUptoSaid : Prop := versionEndsUptoRow.holds Tryz.pinned (OpenSpec.upto versionEndsSpec)

end Rows
end Go.Proofs.YtankngomgjlfkaaGreatDoor
