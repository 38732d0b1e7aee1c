/-
  No cell of these rows narrows 'for every input' (looked for: loops, veiled, ifaces, maps, wideKeys, modest, calm, conditions, laid).
  DERIVED. THE GIVEN ROWS OF THIS SEAT. 5 by the template 'for every input the law returns true; each argument reads behind the call as it read before'; 0 by the template 'total and deterministic' (their statements: YtpmdibhogjhfnaaTotals.lean).
  GIVEN WITH THE SEED: the statements are not yours to turn. If you find one false, say at which input.
  Laid BY PROGRAM, IN A SANDBOX (cutbox-rows.mjs): the forced cells as the released guide's own fill.sh prints them over the translation 02f3db9bde622cb9… (all of the seat's roots in one cut). By AI agents, Wed Nov 11 2026. No macro, syntax, notation, axiom, sorry.
-/
import Derived.Test.YtpmdibhogjhfnaaChecked
import GoSem.Claim
import GoSem.ClaimJoined
import GoSem.ClaimMapViews
import Derived.JoinedTies
import Derived.KernelRfl
namespace Go.Proofs.Ytpmdibhogjhfnaa
/- THE CELL 'sum', in the pinned program and in every row, IS THE sha256 OF THE DUMP (.gsa) THAT YtpmdibhogjhfnaaProg.lean LOADS. Nothing in Lean hashes anything: it is a label: what it is worth is what the hold of that sum in a sandbox is worth. -/
noncomputable def Try.pinned : Pinned := { name := "ytpmdibhogjhfnaa", sum := "02f3db9bde622cb9f9d54e63ef867d4b58a80f13513de44aa44ffc701cbddbbb", checked := Try.checked }
namespace Rows
def none {H : Type} : Left H := { results := [], args := [] }

/-- 'cooperagelaw26.SealOf': WHATEVER THE INPUT: true; the input reads as it did. -/
def sealOfSpec : ChangeSpec := { name := "sealOf", fn := fun _ => fun
  | [d1, d2, d3] => { results := [.lit (.bool true)], args := [d1, d2, d3] }
  | _ => none }
def sealOfRow : OpenClaim := { program := "ytpmdibhogjhfnaa", sum := "02f3db9bde622cb9f9d54e63ef867d4b58a80f13513de44aa44ffc701cbddbbb", func := "cooperage/cooperagelaw26.SealOf", spec := "sealOf", apart := false }
def SealOfSaid : Prop := sealOfRow.holds Try.pinned (OpenSpec.ofChange sealOfSpec)

/-- ITS FALSE NEIGHBOUR: 'it returns false'. Refute it at one input. -/
def sealOfWrong : ChangeSpec := { name := "sealOf", fn := fun _ => fun
  | [d1, d2, d3] => { results := [.lit (.bool false)], args := [d1, d2, d3] }
  | _ => none }
def SealOfWrongFalsely : Prop := sealOfRow.holds Try.pinned (OpenSpec.ofChange sealOfWrong)

/-- 'cooperagelaw26.SealJoins': WHATEVER THE INPUT: true; the input reads as it did. -/
def sealJoinsSpec : ChangeSpec := { name := "sealJoins", fn := fun _ => fun
  | [d1, d2] => { results := [.lit (.bool true)], args := [d1, d2] }
  | _ => none }
def sealJoinsRow : OpenClaim := { program := "ytpmdibhogjhfnaa", sum := "02f3db9bde622cb9f9d54e63ef867d4b58a80f13513de44aa44ffc701cbddbbb", func := "cooperage/cooperagelaw26.SealJoins", spec := "sealJoins", apart := false }
def SealJoinsSaid : Prop := sealJoinsRow.holds Try.pinned (OpenSpec.ofChange sealJoinsSpec)

/-- ITS FALSE NEIGHBOUR: 'it returns false'. Refute it at one input. -/
def sealJoinsWrong : ChangeSpec := { name := "sealJoins", fn := fun _ => fun
  | [d1, d2] => { results := [.lit (.bool false)], args := [d1, d2] }
  | _ => none }
def SealJoinsWrongFalsely : Prop := sealJoinsRow.holds Try.pinned (OpenSpec.ofChange sealJoinsWrong)

/-- 'cooperagelaw26.SealParts': WHATEVER THE INPUT: true; the input reads as it did. -/
def sealPartsSpec : ChangeSpec := { name := "sealParts", fn := fun _ => fun
  | [d] => { results := [.lit (.bool true)], args := [d] }
  | _ => none }
def sealPartsRow : OpenClaim := { program := "ytpmdibhogjhfnaa", sum := "02f3db9bde622cb9f9d54e63ef867d4b58a80f13513de44aa44ffc701cbddbbb", func := "cooperage/cooperagelaw26.SealParts", spec := "sealParts", apart := false }
def SealPartsSaid : Prop := sealPartsRow.holds Try.pinned (OpenSpec.ofChange sealPartsSpec)

/-- ITS FALSE NEIGHBOUR: 'it returns false'. Refute it at one input. -/
def sealPartsWrong : ChangeSpec := { name := "sealParts", fn := fun _ => fun
  | [d] => { results := [.lit (.bool false)], args := [d] }
  | _ => none }
def SealPartsWrongFalsely : Prop := sealPartsRow.holds Try.pinned (OpenSpec.ofChange sealPartsWrong)

/-- 'cooperagelaw26.SealMany': WHATEVER THE INPUT: true; the input reads as it did. -/
def sealManySpec : ChangeSpec := { name := "sealMany", fn := fun _ => fun
  | [d1, d2] => { results := [.lit (.bool true)], args := [d1, d2] }
  | _ => none }
def sealManyRow : OpenClaim := { program := "ytpmdibhogjhfnaa", sum := "02f3db9bde622cb9f9d54e63ef867d4b58a80f13513de44aa44ffc701cbddbbb", func := "cooperage/cooperagelaw26.SealMany", spec := "sealMany", apart := false }
def SealManySaid : Prop := sealManyRow.holds Try.pinned (OpenSpec.ofChange sealManySpec)

/-- ITS FALSE NEIGHBOUR: 'it returns false'. Refute it at one input. -/
def sealManyWrong : ChangeSpec := { name := "sealMany", fn := fun _ => fun
  | [d1, d2] => { results := [.lit (.bool false)], args := [d1, d2] }
  | _ => none }
def SealManyWrongFalsely : Prop := sealManyRow.holds Try.pinned (OpenSpec.ofChange sealManyWrong)

/-- 'cooperagelaw26.SealEnds': WHATEVER THE INPUT: true; the input reads as it did. -/
def sealEndsSpec : ChangeSpec := { name := "sealEnds", fn := fun _ => fun
  | [d1, d2] => { results := [.lit (.bool true)], args := [d1, d2] }
  | _ => none }
def sealEndsRow : OpenClaim := { program := "ytpmdibhogjhfnaa", sum := "02f3db9bde622cb9f9d54e63ef867d4b58a80f13513de44aa44ffc701cbddbbb", func := "cooperage/cooperagelaw26.SealEnds", spec := "sealEnds", apart := false }
def SealEndsSaid : Prop := sealEndsRow.holds Try.pinned (OpenSpec.ofChange sealEndsSpec)

/-- ITS FALSE NEIGHBOUR: 'it returns false'. Refute it at one input. -/
def sealEndsWrong : ChangeSpec := { name := "sealEnds", fn := fun _ => fun
  | [d1, d2] => { results := [.lit (.bool false)], args := [d1, d2] }
  | _ => none }
def SealEndsWrongFalsely : Prop := sealEndsRow.holds Try.pinned (OpenSpec.ofChange sealEndsWrong)

/- THE SECOND FORM. 'bulk': how many values and letters a reading holds, each counted each time it is reached (what is shared counts as often as it is met; a slice's spare places count too). A statement '..UptoSaid' is the law's where the arguments, and the package variables that the reading takes, are together of bulk at most 1048576: NARROWER than '..Said'. Prove '..Said' where nothing that the law and all that it calls make is longer than what came in: it says more and counts as full. Else prove '..UptoSaid'. A law counts once. -/
mutual
def uptoBulk {H : Type} : DataW H → Nat
  | .lit (.string bytes) => bytes.length + 1
  | .lit _ => 1
  | .nil => 1
  | .ptr d => uptoBulk d + 1
  | .slice elems spare => uptoBulkAll elems + uptoBulkAll spare + 1
  | .agg parts => uptoBulkAll parts + 1
  | .iface _ d => uptoBulk d + 1
  | .map entries => uptoBulkEntries entries + 1
  | .held _ => 1
def uptoBulkAll {H : Type} : List (DataW H) → Nat
  | [] => 0
  | d :: r => uptoBulk d + uptoBulkAll r
def uptoBulkEntries {H : Type} : List (Lit × DataW H) → Nat
  | [] => 0
  | x :: r => uptoBulkEntry x + uptoBulkEntries r
def uptoBulkEntry {H : Type} : Lit × DataW H → Nat
  | (.string bytes, d) => bytes.length + uptoBulk d + 1
  | (_, d) => uptoBulk d + 1
 end
def uptoSmall : (H : Type) → List (DataW H) → Bool := fun _ ds => decide (uptoBulkAll ds ≤ 1048576)
def OpenSpec.upto (s : _root_.Go.ChangeSpec) : _root_.Go.OpenSpec := { _root_.Go.OpenSpec.ofChange s with cond := some uptoSmall }

/-- 'cooperagelaw26.SealOf', WHERE WHAT IT READS IS OF BULK AT MOST 1048576: true; the input reads as it did. -/
def sealOfUptoRow : OpenClaim := { program := "ytpmdibhogjhfnaa", sum := "02f3db9bde622cb9f9d54e63ef867d4b58a80f13513de44aa44ffc701cbddbbb", func := "cooperage/cooperagelaw26.SealOf", spec := "sealOf", apart := false, narrowed := true }
def SealOfUptoSaid : Prop := sealOfUptoRow.holds Try.pinned (OpenSpec.upto sealOfSpec)

/-- 'cooperagelaw26.SealJoins', WHERE WHAT IT READS IS OF BULK AT MOST 1048576: true; the input reads as it did. -/
def sealJoinsUptoRow : OpenClaim := { program := "ytpmdibhogjhfnaa", sum := "02f3db9bde622cb9f9d54e63ef867d4b58a80f13513de44aa44ffc701cbddbbb", func := "cooperage/cooperagelaw26.SealJoins", spec := "sealJoins", apart := false, narrowed := true }
def SealJoinsUptoSaid : Prop := sealJoinsUptoRow.holds Try.pinned (OpenSpec.upto sealJoinsSpec)

/-- 'cooperagelaw26.SealParts', WHERE WHAT IT READS IS OF BULK AT MOST 1048576: true; the input reads as it did. -/
def sealPartsUptoRow : OpenClaim := { program := "ytpmdibhogjhfnaa", sum := "02f3db9bde622cb9f9d54e63ef867d4b58a80f13513de44aa44ffc701cbddbbb", func := "cooperage/cooperagelaw26.SealParts", spec := "sealParts", apart := false, narrowed := true }
def SealPartsUptoSaid : Prop := sealPartsUptoRow.holds Try.pinned (OpenSpec.upto sealPartsSpec)

/-- 'cooperagelaw26.SealMany', WHERE WHAT IT READS IS OF BULK AT MOST 1048576: true; the input reads as it did. -/
def sealManyUptoRow : OpenClaim := { program := "ytpmdibhogjhfnaa", sum := "02f3db9bde622cb9f9d54e63ef867d4b58a80f13513de44aa44ffc701cbddbbb", func := "cooperage/cooperagelaw26.SealMany", spec := "sealMany", apart := false, narrowed := true }
def SealManyUptoSaid : Prop := sealManyUptoRow.holds Try.pinned (OpenSpec.upto sealManySpec)

/-- 'cooperagelaw26.SealEnds', WHERE WHAT IT READS IS OF BULK AT MOST 1048576: true; the input reads as it did. -/
def sealEndsUptoRow : OpenClaim := { program := "ytpmdibhogjhfnaa", sum := "02f3db9bde622cb9f9d54e63ef867d4b58a80f13513de44aa44ffc701cbddbbb", func := "cooperage/cooperagelaw26.SealEnds", spec := "sealEnds", apart := false, narrowed := true }
def SealEndsUptoSaid : Prop := sealEndsUptoRow.holds Try.pinned (OpenSpec.upto sealEndsSpec)

end Rows
end Go.Proofs.Ytpmdibhogjhfnaa
