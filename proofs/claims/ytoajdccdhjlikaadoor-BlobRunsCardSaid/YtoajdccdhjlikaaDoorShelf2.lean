/-
  The shelf's contracts, laid in plain words by the kit's programs: those that the first shelf lacks.
-/
import Derived.Test.YtoajdccdhjlikaaDoorShelf
import Derived.Shelf.Sort.Plain
import Derived.Shelf.Slices.Turned
import Derived.Shelf.Slices.In.SortNone
namespace Go.Proofs
open Go.Shelf
def Tryd.lays189_ren : Go.Shelf.Ren := ⟨fun | 189 => 120 | 125 => 132 | 257 => 131 | 128 => 147 | 129 => 148 | 294 => 138 | 295 => 139 | 296 => 140 | 297 => 141 | 298 => 142 | 299 => 143 | 216 => 144 | 300 => 145 | 301 => 146 | 328 => 150 | 329 => 151 | 330 => 152 | 331 => 153 | 332 => 154 | 215 => 155 | 343 => 157 | n => n, fun | 28 => 63 | 3 => 3 | 46 => 112 | 0 => 0 | 51 => 165 | 53 => 23 | 4 => 4 | 183 => 184 | 182 => 183 | 131 => 189 | 5 => 5 | 9 => 9 | 218 => 193 | 222 => 197 | 228 => 199 | 229 => 200 | n => n, fun | n => n⟩
theorem Tryd.lays189 : Go.Proofs.Lays.n189 Tryd.prog Tryd.lays189_ren := {
  mixed := by kernel_rfl
  f125 := Tryd.func132.trans (congrArg some (by kernel_rfl))
  f128 := Tryd.func147.trans (congrArg some (by kernel_rfl))
  f129 := Tryd.func148.trans (congrArg some (by kernel_rfl))
  f189 := Tryd.func120.trans (congrArg some (by kernel_rfl))
  f215 := Tryd.func155.trans (congrArg some (by kernel_rfl))
  f216 := Tryd.func144.trans (congrArg some (by kernel_rfl))
  f257 := Tryd.func131.trans (congrArg some (by kernel_rfl))
  f294 := Tryd.func138.trans (congrArg some (by kernel_rfl))
  f295 := Tryd.func139.trans (congrArg some (by kernel_rfl))
  f296 := Tryd.func140.trans (congrArg some (by kernel_rfl))
  f297 := Tryd.func141.trans (congrArg some (by kernel_rfl))
  f298 := Tryd.func142.trans (congrArg some (by kernel_rfl))
  f299 := Tryd.func143.trans (congrArg some (by kernel_rfl))
  f300 := Tryd.func145.trans (congrArg some (by kernel_rfl))
  f301 := Tryd.func146.trans (congrArg some (by kernel_rfl))
  f328 := Tryd.func150.trans (congrArg some (by kernel_rfl))
  f329 := Tryd.func151.trans (congrArg some (by kernel_rfl))
  f330 := Tryd.func152.trans (congrArg some (by kernel_rfl))
  f331 := Tryd.func153.trans (congrArg some (by kernel_rfl))
  f332 := Tryd.func154.trans (congrArg some (by kernel_rfl))
  f343 := Tryd.func157.trans (congrArg some (by kernel_rfl))
  t0 := Tryd.underlying0
  a0 := Tryd.isAgg0
  z0 := Tryd.sizeOf0
  v0 := Tryd.zeroValue0
  t3 := Tryd.underlying3
  a3 := Tryd.isAgg3
  z3 := Tryd.sizeOf3
  v3 := Tryd.zeroValue3
  t4 := Tryd.underlying4
  a4 := Tryd.isAgg4
  z4 := Tryd.sizeOf4
  v4 := Tryd.zeroValue4
  t5 := Tryd.underlying5
  a5 := Tryd.isAgg5
  z5 := Tryd.sizeOf5
  v5 := Tryd.zeroValue5
  t9 := Tryd.underlying9
  a9 := Tryd.isAgg9
  z9 := Tryd.sizeOf9
  v9 := Tryd.zeroValue9
  t28 := Tryd.underlying63
  a28 := Tryd.isAgg63
  z28 := Tryd.sizeOf63
  v28 := Tryd.zeroValue63
  t46 := Tryd.underlying112
  a46 := Tryd.isAgg112
  z46 := Tryd.sizeOf112
  v46 := Tryd.zeroValue112
  t51 := Tryd.underlying165
  a51 := Tryd.isAgg165
  z51 := Tryd.sizeOf165
  v51 := Tryd.zeroValue165
  t53 := Tryd.underlying23
  a53 := Tryd.isAgg23
  z53 := Tryd.sizeOf23
  v53 := Tryd.zeroValue23
  t131 := Tryd.underlying189
  a131 := Tryd.isAgg189
  z131 := Tryd.sizeOf189
  v131 := Tryd.zeroValue189
  t182 := Tryd.underlying183
  a182 := Tryd.isAgg183
  z182 := Tryd.sizeOf183
  v182 := Tryd.zeroValue183
  t183 := Tryd.underlying184
  a183 := Tryd.isAgg184
  z183 := Tryd.sizeOf184
  v183 := Tryd.zeroValue184
  t218 := Tryd.underlying193
  a218 := Tryd.isAgg193
  z218 := Tryd.sizeOf193
  v218 := Tryd.zeroValue193
  t222 := Tryd.underlying197
  a222 := Tryd.isAgg197
  z222 := Tryd.sizeOf197
  v222 := Tryd.zeroValue197
  t228 := Tryd.underlying199
  a228 := Tryd.isAgg199
  z228 := Tryd.sizeOf199
  v228 := Tryd.zeroValue199
  t229 := Tryd.underlying200
  a229 := Tryd.isAgg200
  z229 := Tryd.sizeOf200
  v229 := Tryd.zeroValue200 }
open Go.Sort Go.RowKit in
theorem Tryd.slices_Sort_int (blk off cap : Nat) (zs : List Int) (w : World) (hH : Holds (Value.int .i64) w blk off zs.toArray) (hblk : blk < w.heap.size) (hsz : zs.length < 4611686018427387904) :
    Calls Tryd.prog 120 #[.slice (some ⟨blk, off, none⟩) zs.length cap] w fun e w' =>
      e = .returned (.tuple #[]) ∧ ∃ n os, w' = grow (putRow (Value.int .i64) (Sort.ahead w n) blk off (zs.mergeSort fun x y => decide (x ≤ y)).toArray) os := Any.slices_Sort_int Tryd.lays189 blk off cap zs w hH hblk hsz
def Tryd.lays108_ren : Go.Shelf.Ren := ⟨fun | 108 => 113 | n => n, fun | 28 => 63 | 3 => 3 | 0 => 0 | 4 => 4 | n => n, fun | n => n⟩
theorem Tryd.lays108 : Go.Proofs.Lays.n108 Tryd.prog Tryd.lays108_ren := {
  mixed := by kernel_rfl
  f108 := Tryd.func113.trans (congrArg some (by kernel_rfl))
  t0 := Tryd.underlying0
  a0 := Tryd.isAgg0
  z0 := Tryd.sizeOf0
  v0 := Tryd.zeroValue0
  t3 := Tryd.underlying3
  a3 := Tryd.isAgg3
  z3 := Tryd.sizeOf3
  v3 := Tryd.zeroValue3
  t4 := Tryd.underlying4
  a4 := Tryd.isAgg4
  z4 := Tryd.sizeOf4
  v4 := Tryd.zeroValue4
  t28 := Tryd.underlying63
  a28 := Tryd.isAgg63
  z28 := Tryd.sizeOf63
  v28 := Tryd.zeroValue63 }
open Go.Lib in
/-- slices.Index at []int: "Index returns the index of the first occurrence of v in s, or -1 if not present.": IT RETURNS 'Lib.idxOf (the elements) v'; the world is as it was. 'zs': what the cells behind the slice's address hold (its spare capacity too, if you have it); 'zs.take n': its elements. (LAID: no walk: one application.) -/
theorem Tryd.slices_Index_int (b off n c : Nat) (zs : List Int) (x : Int) (w : World) (hz : n ≤ zs.length) (hbig : n ≤ 9223372036854775807) (hc : ∀ j, j < zs.length → w.cell? ⟨b, off + j, none⟩ = some (.int .i64 (zs.getD j 0))) :
    Calls Tryd.prog 113 #[.slice (some ⟨b, off, none⟩) n c, .int .i64 x] w fun e w' => e = .returned (.int .i64 (Lib.idxOf (zs.take n) x)) ∧ w' = w := Any.slices_Index_int Tryd.lays108 b off n c zs x w hz hbig hc
open Go.Lib in
/-- The same at a slice of length 0, a nil one too: no cell is known, none is asked for. (LAID: no walk: one application.) -/
theorem Tryd.slices_Index_int_empty (a : Option Addr) (c : Nat) (x : Int) (w : World) :
    Calls Tryd.prog 113 #[.slice a 0 c, .int .i64 x] w fun e w' => e = .returned (.int .i64 (Lib.idxOf [] x)) ∧ w' = w := Any.slices_Index_int_empty Tryd.lays108 a c x w
def Tryd.lays107_ren : Go.Shelf.Ren := ⟨fun | 107 => 92 | 108 => 113 | n => n, fun | 28 => 63 | 3 => 3 | 4 => 4 | 0 => 0 | n => n, fun | n => n⟩
theorem Tryd.lays107 : Go.Proofs.Lays.n107 Tryd.prog Tryd.lays107_ren := {
  mixed := by kernel_rfl
  f107 := Tryd.func92.trans (congrArg some (by kernel_rfl))
  f108 := Tryd.func113.trans (congrArg some (by kernel_rfl))
  t0 := Tryd.underlying0
  a0 := Tryd.isAgg0
  z0 := Tryd.sizeOf0
  v0 := Tryd.zeroValue0
  t3 := Tryd.underlying3
  a3 := Tryd.isAgg3
  z3 := Tryd.sizeOf3
  v3 := Tryd.zeroValue3
  t4 := Tryd.underlying4
  a4 := Tryd.isAgg4
  z4 := Tryd.sizeOf4
  v4 := Tryd.zeroValue4
  t28 := Tryd.underlying63
  a28 := Tryd.isAgg63
  z28 := Tryd.sizeOf63
  v28 := Tryd.zeroValue63 }
open Go.Lib in
/-- slices.Contains at []int: "Contains reports whether v is present in s.": IT RETURNS 'elements.contains v'; the world is as it was. ITS CALLEE slices.Index IS MET BY ITS OWN CONTRACT OFF THE SHELF (lay that first): no loop is walked here. (LAID: no walk: one application.) -/
theorem Tryd.slices_Contains_int (b off n c : Nat) (zs : List Int) (x : Int) (w : World) (hz : n ≤ zs.length) (hbig : n ≤ 9223372036854775807) (hc : ∀ j, j < zs.length → w.cell? ⟨b, off + j, none⟩ = some (.int .i64 (zs.getD j 0))) :
    Calls Tryd.prog 92 #[.slice (some ⟨b, off, none⟩) n c, .int .i64 x] w fun e w' => e = .returned (.bool ((zs.take n).contains x)) ∧ w' = w := Any.slices_Contains_int Tryd.lays107 b off n c zs x w hz hbig hc
open Go.Lib in
/-- The same at a slice of length 0, a nil one too. (LAID: no walk: one application.) -/
theorem Tryd.slices_Contains_int_empty (a : Option Addr) (c : Nat) (x : Int) (w : World) :
    Calls Tryd.prog 92 #[.slice a 0 c, .int .i64 x] w fun e w' => e = .returned (.bool false) ∧ w' = w := Any.slices_Contains_int_empty Tryd.lays107 a c x w
open Go.RowKit Go.Sort in
/-- .. and plain. (LAID: no walk: one application.) -/
theorem Tryd.slices_Sort_int_none (p : Option Addr) (cap : Nat) (w : World) :
    Calls Tryd.prog 120 #[.slice p 0 cap] w fun e w' => e = .returned (.tuple #[]) ∧ w' = w := Any.slices_Sort_int_none Tryd.lays189 p cap w
end Go.Proofs
