/-
  DERIVED: THE SHELF's CONTRACTS AT THIS DUMP, IN PLAIN WORDS (tools/lay-plain.mjs out of 'TrydIter.lean', which tools/lay-shelf.mjs wrote): THE SAME DECLARATIONS UNDER THE SAME NAMES: 'import', 'namespace', 'open', 'def', 'theorem' AND NOTHING ELSE: no command of the shelf's: FOR A HAND-IN. Each laying: the table of numbers ('.._ren') and one theorem, a field a fact of the dump's own or the kernel's comparison; each contract: ONE APPLICATION.
-/
import Derived.Shelf.SlIterI.Nil
import Derived.Shelf.Spec.SlicesGrow
import Derived.Test.YtnfdplhcpiknpaaDoorProg
namespace Go.Proofs
open Go.Shelf
def Tryd.keys52_ren : Go.Shelf.Ren := ⟨fun | 7 => 52 | 10 => 68 | n => n, fun | 23 => 54 | 26 => 3 | 3 => 9 | 28 => 99 | 0 => 0 | 27 => 98 | 33 => 113 | 4 => 4 | n => n, fun | n => n⟩
theorem Tryd.keys52 : Go.Proofs.SlLaysZI.n7 Tryd.prog Tryd.keys52_ren := {
  mixed := by kernel_rfl
  f7 := ⟨Tryd.f52.name, by decide, Tryd.func52.trans (congrArg some (by kernel_rfl))⟩
  f10 := ⟨Tryd.f68.name, by decide, Tryd.func68.trans (congrArg some (by kernel_rfl))⟩
  t0 := Tryd.underlying0
  a0 := Tryd.isAgg0
  z0 := Tryd.sizeOf0
  v0 := Tryd.zeroValue0
  t4 := Tryd.underlying4
  a4 := Tryd.isAgg4
  z4 := Tryd.sizeOf4
  v4 := Tryd.zeroValue4
  t23 := Tryd.underlying54
  a23 := Tryd.isAgg54
  z23 := Tryd.sizeOf54
  v23 := Tryd.zeroValue54
  t26 := Tryd.underlying3
  a26 := Tryd.isAgg3
  z26 := Tryd.sizeOf3
  v26 := Tryd.zeroValue3
  t27 := Tryd.underlying98
  a27 := Tryd.isAgg98
  z27 := Tryd.sizeOf98
  v27 := Tryd.zeroValue98
  t28 := Tryd.underlying99
  a28 := Tryd.isAgg99
  z28 := Tryd.sizeOf99
  v28 := Tryd.zeroValue99
  t33 := Tryd.underlying113
  a33 := Tryd.isAgg113
  z33 := Tryd.sizeOf113
  v33 := Tryd.zeroValue113 }
def Tryd.sorted51_ren : Go.Shelf.Ren := ⟨fun | 6 => 51 | 8 => 66 | 9 => 67 | 11 => 78 | 13 => 80 | 12 => 79 | 23 => 95 | 24 => 96 | 14 => 86 | 15 => 87 | 16 => 88 | 17 => 89 | 18 => 90 | 19 => 91 | 20 => 92 | 21 => 93 | 22 => 94 | 25 => 98 | 26 => 99 | 27 => 100 | 28 => 101 | 29 => 102 | 30 => 103 | 31 => 105 | n => n, fun | 26 => 3 | 28 => 99 | 24 => 76 | 0 => 0 | 3 => 3 | 37 => 86 | 48 => 117 | 50 => 62 | 4 => 4 | 40 => 135 | 39 => 134 | 45 => 140 | 5 => 5 | 9 => 9 | 51 => 144 | 55 => 148 | 57 => 150 | 58 => 151 | 33 => 113 | n => n, fun | n => n⟩
theorem Tryd.sorted51 : Go.Proofs.SlLaysZI.n6 Tryd.prog Tryd.sorted51_ren := {
  mixed := by kernel_rfl
  f6 := ⟨Tryd.f51.name, by decide, Tryd.func51.trans (congrArg some (by kernel_rfl))⟩
  f8 := ⟨Tryd.f66.name, by decide, Tryd.func66.trans (congrArg some (by kernel_rfl))⟩
  f11 := ⟨Tryd.f78.name, by decide, Tryd.func78.trans (congrArg some (by kernel_rfl))⟩
  t0 := Tryd.underlying0
  a0 := Tryd.isAgg0
  z0 := Tryd.sizeOf0
  v0 := Tryd.zeroValue0
  t24 := Tryd.underlying76
  a24 := Tryd.isAgg76
  z24 := Tryd.sizeOf76
  v24 := Tryd.zeroValue76
  t26 := Tryd.underlying3
  a26 := Tryd.isAgg3
  z26 := Tryd.sizeOf3
  v26 := Tryd.zeroValue3
  t28 := Tryd.underlying99
  a28 := Tryd.isAgg99
  z28 := Tryd.sizeOf99
  v28 := Tryd.zeroValue99
  i26 := by kernel_rfl }
end Go.Proofs
