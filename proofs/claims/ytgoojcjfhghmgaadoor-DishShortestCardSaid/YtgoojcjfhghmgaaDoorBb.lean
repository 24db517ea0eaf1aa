/-
  DERIVED: THE SHELF's CONTRACTS AT THIS DUMP, IN PLAIN WORDS (tools/lay-plain.mjs out of 'YtgoojcjfhghmgaaDoorShelf.lean', which tools/lay-shelf.mjs wrote): THE SAME DECLARATIONS UNDER THE SAME NAMES: 'import', 'namespace', 'open', 'def', 'theorem' AND NOTHING ELSE: no command of the shelf's: FOR A HAND-IN. Each laying: the table of numbers ('.._ren') and one theorem, a field a fact of the dump's own or the kernel's comparison; each contract: ONE APPLICATION.
-/
import Derived.Shelf.Small.Bits
import Derived.Shelf.Small.Wraps
import Derived.Shelf.Strconv.Itoa0
import Derived.Shelf.Sort.Plain
import Derived.Shelf.Slices.Turned
import Derived.Shelf.Slices.Equal
import Derived.Ground.Names2Prog
import Derived.Shelf.Slices.Clone
import Derived.Shelf.Slices.CompactI
import Derived.Shelf.Slices.SearchI
import Derived.Shelf.Slices.Cells
import Derived.Shelf.Slices.In.SortNone
import Derived.Shelf.Slices.Empties2
import Derived.Ground.SlgnProg
import Derived.Shelf.SlicesE.Clone
import Derived.Test.YtgoojcjfhghmgaaDoorProg
import Derived.Test.YtgoojcjfhghmgaaDoorBa
import Derived.Shelf.Spec.TrailingZeros
import Derived.Laws.Bits64b
import Derived.WalkSpells
import Derived.Deep.QuietTactic
import Derived.BigQuiet

namespace Go.Proofs
open Go.Shelf
def Tryd.lays128_ren : Go.Shelf.Ren := ⟨fun | 128 => 133 | n => n, fun | 51 => 121 | 3 => 3 | 4 => 4 | 46 => 45 | 5 => 5 | 9 => 9 | n => n, fun | n => n⟩
theorem Tryd.lays128 : Go.Proofs.Lays.n128 Tryd.prog Tryd.lays128_ren := {
  mixed := by kernel_rfl
  f128 := Tryd.func133.trans (congrArg some (by kernel_rfl))
  t3 := Tryd.underlying3
  a3 := Tryd.isAgg3
  z3 := Tryd.sizeOf3
  v3 := Tryd.zeroValue3
  t4 := Tryd.underlying4
  a4 := Tryd.isAgg4
  z4 := Tryd.sizeOf4
  v4 := Tryd.zeroValue4
  t5 := Tryd.underlying5
  a5 := Tryd.isAgg5
  z5 := Tryd.sizeOf5
  v5 := Tryd.zeroValue5
  t9 := Tryd.underlying9
  a9 := Tryd.isAgg9
  z9 := Tryd.sizeOf9
  v9 := Tryd.zeroValue9
  t46 := Tryd.underlying45
  a46 := Tryd.isAgg45
  z46 := Tryd.sizeOf45
  v46 := Tryd.zeroValue45
  t51 := Tryd.underlying121
  a51 := Tryd.isAgg121
  z51 := Tryd.sizeOf121
  v51 := Tryd.zeroValue121 }
/-- bits.Len32: "Len32 returns the minimum number of bits required to represent x; the result is 0 for x == 0.": IT RETURNS 'Lib.bitLen x'; the world is as it was. ('h0', 'h1': x is a uint32.) (LAID: no walk: one application.) -/
theorem Tryd.bits_Len32 (x : Int) (w : World) (h0 : 0 ≤ x) (h1 : x ≤ 4294967295) :
    Calls Tryd.prog 133 #[.int .u32 x] w fun e w' => e = .returned (.int .i64 (Lib.bitLen x.toNat)) ∧ w' = w := Any.bits_Len32 Tryd.lays128 x w h0 h1
def Tryd.lays125_ren : Go.Shelf.Ren := ⟨fun | 125 => 123 | 128 => 133 | 129 => 134 | n => n, fun | 46 => 45 | 3 => 3 | 51 => 121 | 53 => 123 | 4 => 4 | 5 => 5 | 9 => 9 | n => n, fun | n => n⟩
theorem Tryd.lays125 : Go.Proofs.Lays.n125 Tryd.prog Tryd.lays125_ren := {
  mixed := by kernel_rfl
  f125 := Tryd.func123.trans (congrArg some (by kernel_rfl))
  f128 := Tryd.func133.trans (congrArg some (by kernel_rfl))
  f129 := Tryd.func134.trans (congrArg some (by kernel_rfl))
  t3 := Tryd.underlying3
  a3 := Tryd.isAgg3
  z3 := Tryd.sizeOf3
  v3 := Tryd.zeroValue3
  t4 := Tryd.underlying4
  a4 := Tryd.isAgg4
  z4 := Tryd.sizeOf4
  v4 := Tryd.zeroValue4
  t5 := Tryd.underlying5
  a5 := Tryd.isAgg5
  z5 := Tryd.sizeOf5
  v5 := Tryd.zeroValue5
  t9 := Tryd.underlying9
  a9 := Tryd.isAgg9
  z9 := Tryd.sizeOf9
  v9 := Tryd.zeroValue9
  t46 := Tryd.underlying45
  a46 := Tryd.isAgg45
  z46 := Tryd.sizeOf45
  v46 := Tryd.zeroValue45
  t51 := Tryd.underlying121
  a51 := Tryd.isAgg121
  z51 := Tryd.sizeOf121
  v51 := Tryd.zeroValue121
  t53 := Tryd.underlying123
  a53 := Tryd.isAgg123
  z53 := Tryd.sizeOf123
  v53 := Tryd.zeroValue123 }
/-- bits.Len: "Len returns the minimum number of bits required to represent x; the result is 0 for x == 0.": IT RETURNS 'Lib.bitLen x'; the world is as it was. (A uint has 64 bits in the model.) ITS CALLEE bits.Len64 IS MET BY ITS OWN CONTRACT OFF THE SHELF (lay that first). (LAID: no walk: one application.) -/
theorem Tryd.bits_Len (x : Int) (w : World) (h0 : 0 ≤ x) (h1 : x ≤ 18446744073709551615) :
    Calls Tryd.prog 123 #[.int .u64 x] w fun e w' => e = .returned (.int .i64 (Lib.bitLen x.toNat)) ∧ w' = w := Any.bits_Len Tryd.lays125 x w h0 h1
def Tryd.lays215_ren : Go.Shelf.Ren := ⟨fun | 215 => 121 | n => n, fun | 3 => 3 | 4 => 4 | n => n, fun | n => n⟩
theorem Tryd.lays215 : Go.Proofs.Lays.n215 Tryd.prog Tryd.lays215_ren := {
  mixed := by kernel_rfl
  f215 := Tryd.func121.trans (congrArg some (by kernel_rfl))
  t3 := Tryd.underlying3
  a3 := Tryd.isAgg3
  z3 := Tryd.sizeOf3
  v3 := Tryd.zeroValue3
  t4 := Tryd.underlying4
  a4 := Tryd.isAgg4
  z4 := Tryd.sizeOf4
  v4 := Tryd.zeroValue4 }
open Go.RowKit in
/-- cmp.isNaN at int: 'x != x': false. (LAID: no walk: one application.) -/
theorem Tryd.cmp_isNaN_int (x : Int) (w : World) :
    Calls Tryd.prog 121 #[.int .i64 x] w fun e w' => e = .returned (.bool false) ∧ w' = w := Any.cmp_isNaN_int Tryd.lays215 x w
def Tryd.lays122_ren : Go.Shelf.Ren := ⟨fun | 122 => 116 | 215 => 121 | n => n, fun | 3 => 3 | 4 => 4 | n => n, fun | n => n⟩
theorem Tryd.lays122 : Go.Proofs.Lays.n122 Tryd.prog Tryd.lays122_ren := {
  mixed := by kernel_rfl
  f122 := Tryd.func116.trans (congrArg some (by kernel_rfl))
  f215 := Tryd.func121.trans (congrArg some (by kernel_rfl))
  t3 := Tryd.underlying3
  a3 := Tryd.isAgg3
  z3 := Tryd.sizeOf3
  v3 := Tryd.zeroValue3
  t4 := Tryd.underlying4
  a4 := Tryd.isAgg4
  z4 := Tryd.sizeOf4
  v4 := Tryd.zeroValue4 }
open Go.RowKit in
/-- cmp.Compare at int: "Compare returns -1 if x is less than y, 0 if x equals y, +1 if x is greater than y.": IT RETURNS 'Lib.compareInt x y'; the world is as it was. (LAID: no walk: one application.) -/
theorem Tryd.cmp_Compare_int (x y : Int) (w : World) :
    Calls Tryd.prog 116 #[.int .i64 x, .int .i64 y] w fun e w' => e = .returned (.int .i64 (Lib.compareInt x y)) ∧ w' = w := Any.cmp_Compare_int Tryd.lays122 x y w
def Tryd.lays129_ren : Go.Shelf.Ren := ⟨fun | 129 => 134 | n => n, fun | 53 => 123 | 3 => 3 | 4 => 4 | 46 => 45 | 5 => 5 | 9 => 9 | n => n, fun | n => n⟩
theorem Tryd.lays129 : Go.Proofs.Lays.n129 Tryd.prog Tryd.lays129_ren := {
  mixed := by kernel_rfl
  f129 := Tryd.func134.trans (congrArg some (by kernel_rfl))
  t3 := Tryd.underlying3
  a3 := Tryd.isAgg3
  z3 := Tryd.sizeOf3
  v3 := Tryd.zeroValue3
  t4 := Tryd.underlying4
  a4 := Tryd.isAgg4
  z4 := Tryd.sizeOf4
  v4 := Tryd.zeroValue4
  t5 := Tryd.underlying5
  a5 := Tryd.isAgg5
  z5 := Tryd.sizeOf5
  v5 := Tryd.zeroValue5
  t9 := Tryd.underlying9
  a9 := Tryd.isAgg9
  z9 := Tryd.sizeOf9
  v9 := Tryd.zeroValue9
  t46 := Tryd.underlying45
  a46 := Tryd.isAgg45
  z46 := Tryd.sizeOf45
  v46 := Tryd.zeroValue45
  t53 := Tryd.underlying123
  a53 := Tryd.isAgg123
  z53 := Tryd.sizeOf123
  v53 := Tryd.zeroValue123 }
/-- bits.Len64: "Len64 returns the minimum number of bits required to represent x; the result is 0 for x == 0.": IT RETURNS 'Lib.bitLen x'; the world is as it was. ('h0', 'h1': x is a uint64.) (LAID: no walk: one application.) -/
theorem Tryd.bits_Len64 (x : Int) (w : World) (h0 : 0 ≤ x) (h1 : x ≤ 18446744073709551615) :
    Calls Tryd.prog 134 #[.int .u64 x] w fun e w' => e = .returned (.int .i64 (Lib.bitLen x.toNat)) ∧ w' = w := Any.bits_Len64 Tryd.lays129 x w h0 h1
def Tryd.lays189_ren : Go.Shelf.Ren := ⟨fun | 189 => 117 | 125 => 123 | 257 => 122 | 128 => 133 | 129 => 134 | 294 => 124 | 295 => 125 | 296 => 126 | 297 => 127 | 298 => 128 | 299 => 129 | 216 => 130 | 300 => 131 | 301 => 132 | 328 => 135 | 329 => 136 | 330 => 137 | 331 => 138 | 332 => 139 | 215 => 121 | 343 => 140 | n => n, fun | 28 => 32 | 3 => 3 | 46 => 45 | 0 => 0 | 51 => 121 | 53 => 123 | 4 => 4 | 183 => 131 | 182 => 130 | 131 => 135 | 5 => 5 | 9 => 9 | 218 => 137 | 222 => 141 | 228 => 143 | 229 => 144 | n => n, fun | n => n⟩
theorem Tryd.lays189 : Go.Proofs.Lays.n189 Tryd.prog Tryd.lays189_ren := {
  mixed := by kernel_rfl
  f125 := Tryd.func123.trans (congrArg some (by kernel_rfl))
  f128 := Tryd.func133.trans (congrArg some (by kernel_rfl))
  f129 := Tryd.func134.trans (congrArg some (by kernel_rfl))
  f189 := Tryd.func117.trans (congrArg some (by kernel_rfl))
  f215 := Tryd.func121.trans (congrArg some (by kernel_rfl))
  f216 := Tryd.func130.trans (congrArg some (by kernel_rfl))
  f257 := Tryd.func122.trans (congrArg some (by kernel_rfl))
  f294 := Tryd.func124.trans (congrArg some (by kernel_rfl))
  f295 := Tryd.func125.trans (congrArg some (by kernel_rfl))
  f296 := Tryd.func126.trans (congrArg some (by kernel_rfl))
  f297 := Tryd.func127.trans (congrArg some (by kernel_rfl))
  f298 := Tryd.func128.trans (congrArg some (by kernel_rfl))
  f299 := Tryd.func129.trans (congrArg some (by kernel_rfl))
  f300 := Tryd.func131.trans (congrArg some (by kernel_rfl))
  f301 := Tryd.func132.trans (congrArg some (by kernel_rfl))
  f328 := Tryd.func135.trans (congrArg some (by kernel_rfl))
  f329 := Tryd.func136.trans (congrArg some (by kernel_rfl))
  f330 := Tryd.func137.trans (congrArg some (by kernel_rfl))
  f331 := Tryd.func138.trans (congrArg some (by kernel_rfl))
  f332 := Tryd.func139.trans (congrArg some (by kernel_rfl))
  f343 := Tryd.func140.trans (congrArg some (by kernel_rfl))
  t0 := Tryd.underlying0
  a0 := Tryd.isAgg0
  z0 := Tryd.sizeOf0
  v0 := Tryd.zeroValue0
  t3 := Tryd.underlying3
  a3 := Tryd.isAgg3
  z3 := Tryd.sizeOf3
  v3 := Tryd.zeroValue3
  t4 := Tryd.underlying4
  a4 := Tryd.isAgg4
  z4 := Tryd.sizeOf4
  v4 := Tryd.zeroValue4
  t5 := Tryd.underlying5
  a5 := Tryd.isAgg5
  z5 := Tryd.sizeOf5
  v5 := Tryd.zeroValue5
  t9 := Tryd.underlying9
  a9 := Tryd.isAgg9
  z9 := Tryd.sizeOf9
  v9 := Tryd.zeroValue9
  t28 := Tryd.underlying32
  a28 := Tryd.isAgg32
  z28 := Tryd.sizeOf32
  v28 := Tryd.zeroValue32
  t46 := Tryd.underlying45
  a46 := Tryd.isAgg45
  z46 := Tryd.sizeOf45
  v46 := Tryd.zeroValue45
  t51 := Tryd.underlying121
  a51 := Tryd.isAgg121
  z51 := Tryd.sizeOf121
  v51 := Tryd.zeroValue121
  t53 := Tryd.underlying123
  a53 := Tryd.isAgg123
  z53 := Tryd.sizeOf123
  v53 := Tryd.zeroValue123
  t131 := Tryd.underlying135
  a131 := Tryd.isAgg135
  z131 := Tryd.sizeOf135
  v131 := Tryd.zeroValue135
  t182 := Tryd.underlying130
  a182 := Tryd.isAgg130
  z182 := Tryd.sizeOf130
  v182 := Tryd.zeroValue130
  t183 := Tryd.underlying131
  a183 := Tryd.isAgg131
  z183 := Tryd.sizeOf131
  v183 := Tryd.zeroValue131
  t218 := Tryd.underlying137
  a218 := Tryd.isAgg137
  z218 := Tryd.sizeOf137
  v218 := Tryd.zeroValue137
  t222 := Tryd.underlying141
  a222 := Tryd.isAgg141
  z222 := Tryd.sizeOf141
  v222 := Tryd.zeroValue141
  t228 := Tryd.underlying143
  a228 := Tryd.isAgg143
  z228 := Tryd.sizeOf143
  v228 := Tryd.zeroValue143
  t229 := Tryd.underlying144
  a229 := Tryd.isAgg144
  z229 := Tryd.sizeOf144
  v229 := Tryd.zeroValue144 }
open Go.Sort Go.RowKit in
theorem Tryd.slices_Sort_int (blk off cap : Nat) (zs : List Int) (w : World) (hH : Holds (Value.int .i64) w blk off zs.toArray) (hblk : blk < w.heap.size) (hsz : zs.length < 4611686018427387904) :
    Calls Tryd.prog 117 #[.slice (some ⟨blk, off, none⟩) zs.length cap] w fun e w' =>
      e = .returned (.tuple #[]) ∧ ∃ n os, w' = grow (putRow (Value.int .i64) (Sort.ahead w n) blk off (zs.mergeSort fun x y => decide (x ≤ y)).toArray) os := Any.slices_Sort_int Tryd.lays189 blk off cap zs w hH hblk hsz
def Tryd.lays108_ren : Go.Shelf.Ren := ⟨fun | 108 => 111 | n => n, fun | 28 => 32 | 3 => 3 | 0 => 0 | 4 => 4 | n => n, fun | n => n⟩
theorem Tryd.lays108 : Go.Proofs.Lays.n108 Tryd.prog Tryd.lays108_ren := {
  mixed := by kernel_rfl
  f108 := Tryd.func111.trans (congrArg some (by kernel_rfl))
  t0 := Tryd.underlying0
  a0 := Tryd.isAgg0
  z0 := Tryd.sizeOf0
  v0 := Tryd.zeroValue0
  t3 := Tryd.underlying3
  a3 := Tryd.isAgg3
  z3 := Tryd.sizeOf3
  v3 := Tryd.zeroValue3
  t4 := Tryd.underlying4
  a4 := Tryd.isAgg4
  z4 := Tryd.sizeOf4
  v4 := Tryd.zeroValue4
  t28 := Tryd.underlying32
  a28 := Tryd.isAgg32
  z28 := Tryd.sizeOf32
  v28 := Tryd.zeroValue32 }
open Go.Lib in
/-- slices.Index at []int: "Index returns the index of the first occurrence of v in s, or -1 if not present.": IT RETURNS 'Lib.idxOf (the elements) v'; the world is as it was. 'zs': what the cells behind the slice's address hold (its spare capacity too, if you have it); 'zs.take n': its elements. (LAID: no walk: one application.) -/
theorem Tryd.slices_Index_int (b off n c : Nat) (zs : List Int) (x : Int) (w : World) (hz : n ≤ zs.length) (hbig : n ≤ 9223372036854775807) (hc : ∀ j, j < zs.length → w.cell? ⟨b, off + j, none⟩ = some (.int .i64 (zs.getD j 0))) :
    Calls Tryd.prog 111 #[.slice (some ⟨b, off, none⟩) n c, .int .i64 x] w fun e w' => e = .returned (.int .i64 (Lib.idxOf (zs.take n) x)) ∧ w' = w := Any.slices_Index_int Tryd.lays108 b off n c zs x w hz hbig hc
open Go.Lib in
/-- The same at a slice of length 0, a nil one too: no cell is known, none is asked for. (LAID: no walk: one application.) -/
theorem Tryd.slices_Index_int_empty (a : Option Addr) (c : Nat) (x : Int) (w : World) :
    Calls Tryd.prog 111 #[.slice a 0 c, .int .i64 x] w fun e w' => e = .returned (.int .i64 (Lib.idxOf [] x)) ∧ w' = w := Any.slices_Index_int_empty Tryd.lays108 a c x w
def Tryd.lays107_ren : Go.Shelf.Ren := ⟨fun | 107 => 89 | 108 => 111 | n => n, fun | 28 => 32 | 3 => 3 | 4 => 4 | 0 => 0 | n => n, fun | n => n⟩
theorem Tryd.lays107 : Go.Proofs.Lays.n107 Tryd.prog Tryd.lays107_ren := {
  mixed := by kernel_rfl
  f107 := Tryd.func89.trans (congrArg some (by kernel_rfl))
  f108 := Tryd.func111.trans (congrArg some (by kernel_rfl))
  t0 := Tryd.underlying0
  a0 := Tryd.isAgg0
  z0 := Tryd.sizeOf0
  v0 := Tryd.zeroValue0
  t3 := Tryd.underlying3
  a3 := Tryd.isAgg3
  z3 := Tryd.sizeOf3
  v3 := Tryd.zeroValue3
  t4 := Tryd.underlying4
  a4 := Tryd.isAgg4
  z4 := Tryd.sizeOf4
  v4 := Tryd.zeroValue4
  t28 := Tryd.underlying32
  a28 := Tryd.isAgg32
  z28 := Tryd.sizeOf32
  v28 := Tryd.zeroValue32 }
open Go.Lib in
/-- slices.Contains at []int: "Contains reports whether v is present in s.": IT RETURNS 'elements.contains v'; the world is as it was. ITS CALLEE slices.Index IS MET BY ITS OWN CONTRACT OFF THE SHELF (lay that first): no loop is walked here. (LAID: no walk: one application.) -/
theorem Tryd.slices_Contains_int (b off n c : Nat) (zs : List Int) (x : Int) (w : World) (hz : n ≤ zs.length) (hbig : n ≤ 9223372036854775807) (hc : ∀ j, j < zs.length → w.cell? ⟨b, off + j, none⟩ = some (.int .i64 (zs.getD j 0))) :
    Calls Tryd.prog 89 #[.slice (some ⟨b, off, none⟩) n c, .int .i64 x] w fun e w' => e = .returned (.bool ((zs.take n).contains x)) ∧ w' = w := Any.slices_Contains_int Tryd.lays107 b off n c zs x w hz hbig hc
open Go.Lib in
/-- The same at a slice of length 0, a nil one too. (LAID: no walk: one application.) -/
theorem Tryd.slices_Contains_int_empty (a : Option Addr) (c : Nat) (x : Int) (w : World) :
    Calls Tryd.prog 89 #[.slice a 0 c, .int .i64 x] w fun e w' => e = .returned (.bool false) ∧ w' = w := Any.slices_Contains_int_empty Tryd.lays107 a c x w
def Tryd.lays111_ren : Go.Shelf.Ren := ⟨fun | 111 => 104 | n => n, fun | 28 => 32 | 3 => 3 | 4 => 4 | 0 => 0 | n => n, fun | n => n⟩
theorem Tryd.lays111 : Go.Proofs.Lays.n111 Tryd.prog Tryd.lays111_ren := {
  mixed := by kernel_rfl
  f111 := Tryd.func104.trans (congrArg some (by kernel_rfl))
  t0 := Tryd.underlying0
  a0 := Tryd.isAgg0
  z0 := Tryd.sizeOf0
  v0 := Tryd.zeroValue0
  t3 := Tryd.underlying3
  a3 := Tryd.isAgg3
  z3 := Tryd.sizeOf3
  v3 := Tryd.zeroValue3
  t4 := Tryd.underlying4
  a4 := Tryd.isAgg4
  z4 := Tryd.sizeOf4
  v4 := Tryd.zeroValue4
  t28 := Tryd.underlying32
  a28 := Tryd.isAgg32
  z28 := Tryd.sizeOf32
  v28 := Tryd.zeroValue32 }
open Go.RowKit Go.Lib in
/-- slices.Equal at []int: "Equal reports whether two slices are equal: the same length and all elements equal. If the lengths are different, Equal returns false. Otherwise, the elements are compared in increasing index order, and the comparison stops at the first unequal pair. Empty and nil slices are considered equal.": IT RETURNS WHETHER THE TWO LISTS OF ELEMENTS ARE ONE; the world is as it was but for the count of draws (the test 's1[i] != s2[i]' has two reads, whose order the model draws, once a round). 'xs', 'ys': what the cells behind the two addresses hold (the spare capacity too, if you have it); 'xs.take n', 'ys.take m': the elements. THE TWO SLICES MAY OVERLAP. (LAID: no walk: one application.) -/
theorem Tryd.slices_Equal_int (b1 o1 n c b2 o2 m d : Nat) (xs ys : List Int) (w : World) (hx : n ≤ xs.length) (hy : m ≤ ys.length) (hbig : n ≤ 9223372036854775807) (hbig2 : m ≤ 9223372036854775807) (hc1 : ∀ j, j < xs.length → w.cell? ⟨b1, o1 + j, none⟩ = some (.int .i64 (xs.getD j 0))) (hc2 : ∀ j, j < ys.length → w.cell? ⟨b2, o2 + j, none⟩ = some (.int .i64 (ys.getD j 0))) :
    Calls Tryd.prog 104 #[.slice (some ⟨b1, o1, none⟩) n c, .slice (some ⟨b2, o2, none⟩) m d] w fun e w' => e = .returned (.bool (xs.take n == ys.take m)) ∧ ∃ q, w' = w.drewN q := Any.slices_Equal_int Tryd.lays111 b1 o1 n c b2 o2 m d xs ys w hx hy hbig hbig2 hc1 hc2
open Go.RowKit Go.Lib in
/-- The same where the first is of length 0 (a nil one too): no cell is asked for. (LAID: no walk: one application.) -/
theorem Tryd.slices_Equal_int_empty (a1 a2 : Option Addr) (c m d : Nat) (w : World) (hbig2 : m ≤ 9223372036854775807) :
    Calls Tryd.prog 104 #[.slice a1 0 c, .slice a2 m d] w fun e w' => e = .returned (.bool (decide (m = 0))) ∧ w' = w := Any.slices_Equal_int_empty Tryd.lays111 a1 a2 c m d w hbig2
def Tryd.laysNm215_ren : Go.Shelf.Ren := ⟨fun | 15 => 112 | n => n, fun | 22 => 32 | 3 => 3 | 4 => 4 | n => n, fun | n => n⟩
theorem Tryd.laysNm215 : Go.Proofs.Lays2.n15 Tryd.prog Tryd.laysNm215_ren := {
  mixed := by kernel_rfl
  f15 := Tryd.func112.trans (congrArg some (by kernel_rfl))
  t3 := Tryd.underlying3
  a3 := Tryd.isAgg3
  z3 := Tryd.sizeOf3
  v3 := Tryd.zeroValue3
  t4 := Tryd.underlying4
  a4 := Tryd.isAgg4
  z4 := Tryd.sizeOf4
  v4 := Tryd.zeroValue4
  t22 := Tryd.underlying32
  a22 := Tryd.isAgg32
  z22 := Tryd.sizeOf32
  v22 := Tryd.zeroValue32
  i3 := by kernel_rfl }
open Go.RowKit Go.Lib in
/-- slices.Clone at []int: "Clone returns a copy of the slice. The elements are copied using assignment, so this is a shallow clone. The result may have additional unused capacity. The result preserves the nilness of s.": OF A SLICE THAT IS NOT nil IT RETURNS A SLICE THAT IS NOT nil, OF THE SAME ELEMENTS, IN MEMORY OF THE CALL's OWN: in the how-to's words (6f): 'w'.ownsRow B e 1 v' n cells': v' begins at the head of a row among the blocks from B on (B: the heap's size at the call), not frozen, whose first cells are the elements · 'Below B w w'': below B all is as it was. The capacity is whatever the run-time gives. 'zs': what the cells behind the slice's address hold; 'zs.take n': its elements. (LAID: no walk: one application.) -/
theorem Tryd.slices_Clone_int (b off n c : Nat) (zs : List Int) (w : World) (hz : n ≤ zs.length) (hbig : n * 8 ≤ 140737488355328) (hc : ∀ j, j < zs.length → w.cell? ⟨b, off + j, none⟩ = some (.int .i64 (zs.getD j 0))) :
    Calls Tryd.prog 112 #[.slice (some ⟨b, off, none⟩) n c] w fun e w' => ∃ v', e = .returned v' ∧ w'.ownsRow w.heap.size 3 1 v' n ((zs.take n).map (Value.int .i64)) ∧ v' ≠ .slice none 0 0 ∧ Below w.heap.size w w' := Any.slices_Clone_int Tryd.laysNm215 b off n c zs w hz hbig hc
open Go.RowKit Go.Lib in
/-- The same at nil: nil comes back; the world is as it was. (LAID: no walk: one application.) -/
theorem Tryd.slices_Clone_int_nil (n c : Nat) (w : World) :
    Calls Tryd.prog 112 #[.slice none n c] w fun e w' => e = .returned (.slice none 0 0) ∧ w' = w := Any.slices_Clone_int_nil Tryd.laysNm215 n c w
open Go.RowKit Go.Lib in
/-- The same at a slice of length 0 that is not nil, WHATEVER ITS ADDRESS (no cell is asked for): a slice that is not nil and owns nothing comes back. (LAID: no walk: one application.) -/
theorem Tryd.slices_Clone_int_zero (a : Addr) (c : Nat) (w : World) :
    Calls Tryd.prog 112 #[.slice (some a) 0 c] w fun e w' => ∃ v', e = .returned v' ∧ w'.ownsRow w.heap.size 3 1 v' 0 [] ∧ v' ≠ .slice none 0 0 ∧ Below w.heap.size w w' := Any.slices_Clone_int_zero Tryd.laysNm215 a c w
def Tryd.laysNm220_ren : Go.Shelf.Ren := ⟨fun | 20 => 118 | n => n, fun | 22 => 32 | 3 => 3 | 4 => 4 | 0 => 0 | n => n, fun | n => n⟩
theorem Tryd.laysNm220 : Go.Proofs.Lays2.n20 Tryd.prog Tryd.laysNm220_ren := {
  mixed := by kernel_rfl
  f20 := Tryd.func118.trans (congrArg some (by kernel_rfl))
  t0 := Tryd.underlying0
  a0 := Tryd.isAgg0
  z0 := Tryd.sizeOf0
  v0 := Tryd.zeroValue0
  t3 := Tryd.underlying3
  a3 := Tryd.isAgg3
  z3 := Tryd.sizeOf3
  v3 := Tryd.zeroValue3
  t4 := Tryd.underlying4
  a4 := Tryd.isAgg4
  z4 := Tryd.sizeOf4
  v4 := Tryd.zeroValue4
  t22 := Tryd.underlying32
  a22 := Tryd.isAgg32
  z22 := Tryd.sizeOf32
  v22 := Tryd.zeroValue32
  i3 := by kernel_rfl }
open Go.RowKit Go.Lib Go.Sort in
/-- slices.Compact at []int, over an array: the library's two loops are walked. (LAID: no walk: one application.) -/
theorem Tryd.slices_Compact_int_arr (blk off cap : Nat) (d : Array Int) (w : World) (hH : Holds encI w blk off d) (hsz : d.size ≤ 9223372036854775807) (hcap : d.size ≤ cap) :
    Calls Tryd.prog 118 #[.slice (some ⟨blk, off, none⟩) d.size cap] w fun e w' => e = .returned (.slice (some ⟨blk, off, none⟩) (compactUpTo d d.size).length cap) ∧ ∃ q, w' = putRow encI (Sort.ahead w q) blk off (compactUpTo d d.size ++ List.replicate (d.size - (compactUpTo d d.size).length) 0).toArray := Any.slices_Compact_int_arr Tryd.laysNm220 blk off cap d w hH hsz hcap
open Go.RowKit Go.Lib Go.Sort in
/-- slices.Compact at []int: "Compact replaces consecutive runs of equal elements with a single copy. This is like the uniq command found on Unix. Compact modifies the contents of the slice s and returns the modified slice, which may have a smaller length. Compact zeroes the elements between the new length and the original length. The result preserves the nilness of s.": IT RETURNS THE SLICE CUT TO 'Lib.compact zs'; ITS CELLS HOLD 'Lib.compact zs', THEN ZERO VALUES up to the old length; all else is as it was, but for the count of draws. IN THE WORDS OF slices.Sort's CONTRACT ('Holds', 'putRow'): so the everyday 'slices.Sort(xs); xs = slices.Compact(xs)' goes from the one contract to the other. It asks 'zs.length ≤ cap' (every slice's: the reslicing 's[:k]' looks at it). Length 0, nil: '.._empty'. (LAID: no walk: one application.) -/
theorem Tryd.slices_Compact_int (blk off cap : Nat) (zs : List Int) (w : World) (hH : Holds (Value.int .i64) w blk off zs.toArray) (hsz : zs.length ≤ 9223372036854775807) (hcap : zs.length ≤ cap) :
    Calls Tryd.prog 118 #[.slice (some ⟨blk, off, none⟩) zs.length cap] w fun e w' => e = .returned (.slice (some ⟨blk, off, none⟩) (Lib.compact zs).length cap) ∧ ∃ q, w' = putRow (Value.int .i64) (Sort.ahead w q) blk off (Lib.compact zs ++ List.replicate (zs.length - (Lib.compact zs).length) 0).toArray := Any.slices_Compact_int Tryd.laysNm220 blk off cap zs w hH hsz hcap
open Go.RowKit Go.Lib Go.Sort in
/-- The same at a slice of length 0, a nil one too: it comes back as it is. (LAID: no walk: one application.) -/
theorem Tryd.slices_Compact_int_empty (a : Option Addr) (cap : Nat) (w : World) :
    Calls Tryd.prog 118 #[.slice a 0 cap] w fun e w' => e = .returned (.slice a 0 cap) ∧ w' = w := Any.slices_Compact_int_empty Tryd.laysNm220 a cap w
def Tryd.laysNm237_ren : Go.Shelf.Ren := ⟨fun | 37 => 121 | n => n, fun | 3 => 3 | 4 => 4 | n => n, fun | n => n⟩
theorem Tryd.laysNm237 : Go.Proofs.Lays2.n37 Tryd.prog Tryd.laysNm237_ren := {
  mixed := by kernel_rfl
  f37 := Tryd.func121.trans (congrArg some (by kernel_rfl))
  t3 := Tryd.underlying3
  a3 := Tryd.isAgg3
  z3 := Tryd.sizeOf3
  v3 := Tryd.zeroValue3
  t4 := Tryd.underlying4
  a4 := Tryd.isAgg4
  z4 := Tryd.sizeOf4
  v4 := Tryd.zeroValue4 }
open Go.RowKit Go.Lib in
/-- cmp.isNaN[int]: 'x != x': false. (LAID: no walk: one application.) -/
theorem Tryd.cmp_isNaN_int2 (x : Int) (w : World) :
    Calls Tryd.prog 121 #[.int .i64 x] w fun e w' => e = .returned (.bool false) ∧ w' = w := Any.cmp_isNaN_int2 Tryd.laysNm237 x w
def Tryd.laysNm231_ren : Go.Shelf.Ren := ⟨fun | 31 => 130 | 37 => 121 | n => n, fun | 3 => 3 | 4 => 4 | n => n, fun | n => n⟩
theorem Tryd.laysNm231 : Go.Proofs.Lays2.n31 Tryd.prog Tryd.laysNm231_ren := {
  mixed := by kernel_rfl
  f31 := Tryd.func130.trans (congrArg some (by kernel_rfl))
  f37 := Tryd.func121.trans (congrArg some (by kernel_rfl))
  t3 := Tryd.underlying3
  a3 := Tryd.isAgg3
  z3 := Tryd.sizeOf3
  v3 := Tryd.zeroValue3
  t4 := Tryd.underlying4
  a4 := Tryd.isAgg4
  z4 := Tryd.sizeOf4
  v4 := Tryd.zeroValue4 }
open Go.RowKit Go.Lib in
/-- cmp.Less[int]: "Less reports whether x is less than y.": 'x < y'; the world is as it was. (LAID: no walk: one application.) -/
theorem Tryd.cmp_Less_int2 (x y : Int) (w : World) :
    Calls Tryd.prog 130 #[.int .i64 x, .int .i64 y] w fun e w' => e = .returned (.bool (decide (x < y))) ∧ w' = w := Any.cmp_Less_int2 Tryd.laysNm231 x y w
open Go.RowKit Go.Lib Go.Sort in
/-- slices.Compact at []int, of an argument: the slice cut to 'Lib.compact (elements)'; the n cells hold that, then zeros. (LAID: no walk: one application.) -/
theorem Tryd.slices_Compact_int_cells (b off n c : Nat) (zs : List Int) (w : World) (hz : n ≤ zs.length) (hbig : n ≤ 9223372036854775807) (hcap : n ≤ c) (hc : ∀ j, j < zs.length → w.cell? ⟨b, off + j, none⟩ = some (.int .i64 (zs.getD j 0))) (hf : ∀ j, j < n → w.frozen? ⟨b, off + j, none⟩ = false) :
    Calls Tryd.prog 118 #[.slice (some ⟨b, off, none⟩) n c] w fun e w' => e = .returned (.slice (some ⟨b, off, none⟩) (Lib.compact (zs.take n)).length c) ∧ ∃ q, w' = (w.drewN q).setCells b off ((Lib.compact (zs.take n) ++ List.replicate (n - (Lib.compact (zs.take n)).length) 0).map (Value.int .i64)) := Any.slices_Compact_int_cells Tryd.laysNm220 b off n c zs w hz hbig hcap hc hf
open Go.RowKit Go.Sort in
/-- .. and plain. (LAID: no walk: one application.) -/
theorem Tryd.slices_Sort_int_none (p : Option Addr) (cap : Nat) (w : World) :
    Calls Tryd.prog 117 #[.slice p 0 cap] w fun e w' => e = .returned (.tuple #[]) ∧ w' = w := Any.slices_Sort_int_none Tryd.lays189 p cap w
open Go.RowKit Go.Lib in
theorem Tryd.slices_Equal_int_lens (a1 a2 : Option Addr) (n c m d : Nat) (w : World) (hnm : n ≠ m) :
    Calls Tryd.prog 104 #[.slice a1 n c, .slice a2 m d] w fun e w' => e = .returned (.bool false) ∧ w' = w := Any.slices_Equal_int_lens Tryd.lays111 a1 a2 n c m d w hnm
def Tryd.laysSlE041_f112_ren : Go.Shelf.Ren := ⟨fun | 41 => 112 | n => n, fun | 22 => 32 | 23 => 3 | 4 => 4 | n => n, fun | n => n⟩
theorem Tryd.laysSlE041_f112 : Go.Proofs.SlLaysE0.n41 Tryd.prog Tryd.laysSlE041_f112_ren := {
  mixed := by kernel_rfl
  f41 := ⟨Tryd.f112.name, by decide, Tryd.func112.trans (congrArg some (by kernel_rfl))⟩
  t4 := Tryd.underlying4
  a4 := Tryd.isAgg4
  z4 := Tryd.sizeOf4
  v4 := Tryd.zeroValue4
  t22 := Tryd.underlying32
  a22 := Tryd.isAgg32
  z22 := Tryd.sizeOf32
  v22 := Tryd.zeroValue32 }
open Go.RowKit Go.Lib in
/-- slices.Clone: "Clone returns a copy of the slice. The elements are copied using assignment, so this is a shallow clone. The result may have additional unused capacity. The result preserves the nilness of s.": OF A SLICE THAT IS NOT nil IT RETURNS A SLICE THAT IS NOT nil, OF THE SAME CELLS, IN MEMORY OF THE CALL's OWN ('ownsRow': the how-to's 6f); below the heap's size at the call all is as it was. (LAID AT THE INSTANCE 'slices.Clone[[]int,int]': no walk: one application.) -/
theorem Tryd.slices_Clone (i0 : TypeInfo) (z : Value) (size bytes : Nat) (hi : Tryd.prog.info? 3 = some i0) (hz0 : i0.zero = some z) (hz1 : i0.size = size) (hz2 : i0.bytes = bytes) (hzs : z.cells.size = size) (hsz : 0 < size) (z23 : ∀ w, (Go.sizeOf 3).run Tryd.prog w = .ok size w) (b off n c : Nat) (news : List Value) (w : World) (hl : news.length = n * size) (hn : n ≤ maxLen) (hbig : n * bytes ≤ 140737488355328) (hc : ∀ j u, news[j]? = some u → w.cell? ⟨b, off + j, none⟩ = some u) (h1 : ∀ u ∈ news, u.oneCell' = true) :
    Calls Tryd.prog 112 #[.slice (some ⟨b, off, none⟩) n c] w fun e w' => ∃ v', e = .returned v' ∧ w'.ownsRow w.heap.size 3 size v' n news ∧ v' ≠ .slice none 0 0 ∧ Below w.heap.size w w' := AnyE.slices_Clone Tryd.laysSlE041_f112 i0 z size bytes hi hz0 hz1 hz2 hzs hsz z23 b off n c news w hl hn hbig hc h1
open Go.RowKit Go.Lib in
/-- The same at nil: nil comes back; the world is as it was; nothing is asked of the element's type. (LAID AT THE INSTANCE 'slices.Clone[[]int,int]': no walk: one application.) -/
theorem Tryd.slices_Clone_nil (n c : Nat) (w : World) :
    Calls Tryd.prog 112 #[.slice none n c] w fun e w' => e = .returned (.slice none 0 0) ∧ w' = w := AnyE.slices_Clone_nil Tryd.laysSlE041_f112 n c w
end Go.Proofs

/- TrailingZeros, list. -/
namespace Go.Proofs.YtgoojcjfhghmgaaDoor
open Go.RowKit

/-- The table of the library's, as start-up lays it. -/
def Tab (w : World) : Prop := TabAt 1 Lib.deBruijn64tab w ∧ 1 < w.heap.size
theorem Tab.below {B : Nat} {w w' : World} (h : Tab w) (hb : Below B w w') (hB : 1 < B) : Tab w' :=
  ⟨fun j hj => (hb.cell (p := ⟨1, j, none⟩) hB).trans (h.1 j hj), Nat.lt_of_lt_of_le h.2 hb.size⟩

set_option maxHeartbeats 1000000 in
theorem tz64_core (x k idx : Nat) (w : World) (hx0 : ((x : Int) == 0) = false)
    (key : IntKind.u64.wrap (bits BinOp.and IntKind.u64 (x : Int) (IntKind.u64.wrap (-(x : Int))) * 285870213051353865) / 288230376151711744 = (idx : Int))
    (hi : idx < 64) (hk : k < 64) (hcell : w.cell? ⟨1, idx, none⟩ = some (.int .u8 k)) :
    Calls Tryd.prog 120 #[.int .u64 x] w fun e w' => e = .returned (.int .i64 k) ∧ w = w' := by
  go_enter Tryd.func120, Tryd.ntmps120
  go_wp2_with (simp only [key])
  go_ret
  exact ⟨rfl, rfl⟩
theorem tz64_any (x : Nat) (hx : x < 18446744073709551616) (hx0 : x ≠ 0) (w : World) (hT : Tab w) :
    Calls Tryd.prog 120 #[.int .u64 x] w fun e w' => e = .returned (.int .i64 (Lib.ctz 64 x)) ∧ w = w' := by
  obtain ⟨hlow, hk⟩ := Lib.lowest_bit 64 x hx0 hx
  obtain ⟨hi, htab⟩ := Lib.deBruijn64_at _ hk
  have hcell := hT.1 _ hi
  rw [htab] at hcell
  exact tz64_core x _ _ w (by simp; omega) (tz64_key x _ hx hx0 hlow) hi hk hcell
set_option maxHeartbeats 1000000 in
theorem tz_any (x : Nat) (hx : x < 18446744073709551616) (hx0 : x ≠ 0) (w : World) (hT : Tab w) :
    Calls Tryd.prog 108 #[.int .u64 x] w fun e w' => e = .returned (.int .i64 (Lib.ctz 64 x)) ∧ w = w' := by
  have c := Lib.hid (tz64_any x hx hx0 w hT)
  have hw : IntKind.u64.wrap (x : Int) = (x : Int) := by rw [IntKind.wrap_u64]; omega
  clear hT
  go_enter Tryd.func108, Tryd.ntmps108
  go_wp2_with (go_at_call 120; refine c.out.mono ?_; rintro e w1 ⟨rfl, rfl⟩)
  go_ret
  exact ⟨rfl, rfl⟩
theorem ofInt_nat (a : Nat) (ha : a < 9223372036854775808) : (BitVec.ofInt 64 (a : Int)).toNat = a := by
  rw [BitVec.ofInt_natCast, BitVec.toNat_ofNat]; exact Nat.mod_eq_of_lt (by omega)
theorem and_nat (a b : Nat) (ha : a < 9223372036854775808) (hb : b < 9223372036854775808) : bits .and .i64 (a : Int) (b : Int) = ((a &&& b : Nat) : Int) := by
  have hx : a &&& b < 2 ^ 63 := Nat.and_lt_two_pow _ (by omega)
  show IntKind.i64.wrap ((BitVec.ofInt 64 (a : Int) &&& BitVec.ofInt 64 (b : Int)).toNat : Int) = _
  rw [BitVec.toNat_and, ofInt_nat a ha, ofInt_nat b hb, IntKind.wrap_i64]
  omega
theorem or_nat (a b : Nat) (ha : a < 9223372036854775808) (hb : b < 9223372036854775808) : bits .or .i64 (a : Int) (b : Int) = ((a ||| b : Nat) : Int) := by
  have hx : a ||| b < 2 ^ 63 := Nat.or_lt_two_pow (by omega) (by omega)
  show IntKind.i64.wrap ((BitVec.ofInt 64 (a : Int) ||| BitVec.ofInt 64 (b : Int)).toNat : Int) = _
  rw [BitVec.toNat_or, ofInt_nat a ha, ofInt_nat b hb, IntKind.wrap_i64]
  omega
/-- The places of the bits of a number, in ascending order. -/
def bl (m : Nat) : List Nat := if h : m = 0 then [] else Lib.ctz 64 m :: bl (m &&& (m - 1))
termination_by m
decreasing_by
  have := Nat.and_le_right (n := m) (m := m - 1)
  omega
theorem bl_zero : bl 0 = [] := by rw [bl]; simp
theorem bl_pos {m : Nat} (h : m ≠ 0) : bl m = Lib.ctz 64 m :: bl (m &&& (m - 1)) := by rw [bl]; simp [h]
theorem info3 : (Tryd.prog.info? 3).map (fun i => (i.zero, i.size, i.bytes)) = some (some (.int .i64 0), 1, 8) := by kernel_rfl
theorem clear_lt {r : Nat} (h : r ≠ 0) : r &&& (r - 1) < r := by
  have := Nat.and_le_right (n := r) (m := r - 1)
  omega
def natV (ds : List Nat) : List Value := ds.map fun d : Nat => .int .i64 (d : Int)

set_option maxHeartbeats 1000000 in
theorem list_any (m : Nat) (hm : m < 1152921504606846976) (w : World) (hT : Tab w) (hlen : (bl m).length ≤ 1000) :
    Calls Tryd.prog 65 #[.int .i64 m] w fun e w' => ∃ v, e = .returned v ∧ w'.ownsRow w.heap.size 3 1 v (bl m).length (natV (bl m)) ∧ Below w.heap.size w w' := by
  obtain ⟨j0, hj, hy0, hy1, hy2⟩ := info_parts info3
  go_enter Tryd.func65, Tryd.ntmps65
  go_wp2_with fail
  go_loopw [0, 3] (fun x out wr => ∃ (r : Nat) (ds : List Nat), r ≤ m ∧ x = .int .i64 r ∧ ds ++ bl r = bl m ∧ wr.ownsRow w.heap.size 3 1 out ds.length (natV ds) ∧ Below w.heap.size w wr) (fun x _ _ => (intOf x).toNat)
  case atStart => exact ⟨m, [], Nat.le_refl _, rfl, rfl, World.ownsRow_nil _ _ _ _, Below.refl _ _⟩
  case round =>
    obtain ⟨r, ds, hr, rfl, hd, hown, hb⟩ := hrel
    by_cases h0 : r = 0
    · subst h0
      rw [bl_zero, List.append_nil] at hd
      subst hd
      go_wp2_with fail
      go_ret
      exact ⟨_, rfl, hown, hb⟩
    · have hne : ((r : Int) != 0) = true := by rw [bne_iff_ne]; omega
      have hne2 : ((r : Int) == 0) = false := by rw [beq_eq_false_iff_ne]; omega
      have e1 : (r : Int) - 1 = ((r - 1 : Nat) : Int) := by omega
      have key : bits BinOp.and IntKind.i64 (r : Int) ((r : Int) - 1) = ((r &&& (r - 1) : Nat) : Int) := by rw [e1]; exact and_nat r (r - 1) (by omega) (by omega)
      have ct := Lib.hid (fun W hW => tz_any r (by omega) h0 W (hT.below (w' := W) hW hT.2))
      have hlt := clear_lt h0
      have Hd := Lib.hid (show ds ++ [Lib.ctz 64 r] ++ bl (r &&& (r - 1)) = bl m by rw [← hd, bl_pos h0]; simp)
      have hdl : ds.length ≤ 1000 := by
        have := congrArg List.length hd
        rw [List.length_append] at this; omega
      have HO := Lib.hid hown
      generalize Lib.ctz 64 r = z at ct Hd
      generalize r &&& (r - 1) = r2 at key hlt Hd
      clear e1 hd hown
      go_wp2_with (first
        | (go_at_call 108; refine (ct.out _ hb).mono ?_; rintro e w1 ⟨rfl, rfl⟩)
        | (at_builtin; refine wpList_append_own _ rfl _ _ 32 rfl w.heap.size 3 j0 _ 1 8 Tryd.underlying32 hj hy0 hy1 hy2 rfl (by decide) _ _ _ rfl (HO.out.alloc _) ⟨wr.heap.size, 0, none⟩ 1 1 _ rfl rfl (cell_one_new _ _ _) (by simp [Value.oneCell']) (by simp only [maxLen]; omega) (by omega) (hb.alloc hb.size _).size ?_; intro v' w4 hown4 hg4 _))
      have b4 : Below w.heap.size w w4 := (hb.alloc hb.size _).grown hg4 (hb.alloc hb.size _).size (fun x hx => (HO.out.lt x hx).1)
      go_roundw
      case rel => exact ⟨r2, ds ++ [z], by omega, rfl, Hd.out, by rw [List.length_append, natV, List.map_append]; exact hown4, b4⟩
      case measure => simp [intOf]; omega
end Go.Proofs.YtgoojcjfhghmgaaDoor

/- SameInts, the searches with a closure, feeds, ValidateTable. -/
namespace Go.Proofs.YtgoojcjfhghmgaaDoor
open Go.RowKit

/-- Some words drawn more. -/
def Drew (w w' : World) : Prop := ∃ n, w' = w.drewN n
theorem Drew.cell {w w' : World} (h : Drew w w') (p : Addr) : w'.cell? p = w.cell? p := by obtain ⟨n, rfl⟩ := h; rfl
theorem below_drewN {B : Nat} {a w : World} (h : Below B a w) (n : Nat) : Below B a (w.drewN n) := ⟨h.os, h.tape, h.output, h.size, h.block⟩
theorem Drew.drewN {w w' : World} (h : Drew w w') (m : Nat) : Drew w (w'.drewN m) := by obtain ⟨n, rfl⟩ := h; exact ⟨n + m, by rw [World.drewN_drewN]⟩
theorem Drew.below {w w' : World} (h : Drew w w') (B : Nat) : Below B w w' := by obtain ⟨n, rfl⟩ := h; exact below_drewN (Below.refl _ _) n

theorem pow_wrap {d : Nat} (h : d < 63) : wrap64 ((2 : Int) ^ d) = (2 : Int) ^ d := by
  have : ∀ d, d < 63 → wrap64 ((2 : Int) ^ d) = (2 : Int) ^ d := by decide +kernel
  exact this d h
set_option maxHeartbeats 1000000 in
theorem bad_any (x : Int) (d g : Nat) (hd : d ≤ 8) (w : World) (hc : w.cell? ⟨g, 0, none⟩ = some (.int .i64 d)) :
    Calls Tryd.prog 84 #[.int .i64 x, .pointer (some ⟨g, 0, none⟩)] w fun e w' => e = .returned (.bool (decide (x < 0 ∨ (2 : Int) ^ d ≤ x))) ∧ w = w' := by
  have hp := Lib.hid (pow_wrap (show d < 63 by omega))
  go_enter Tryd.func84, Tryd.ntmps84
  go_wp2
  · go_ret
    refine ⟨?_, rfl⟩
    show Ending.returned (Value.bool (decide (x < 0) || decide (wrap64 (2 ^ d) ≤ x))) = _
    rw [hp.out]; simp
  · go_ret
    exact ⟨by simp_all, rfl⟩
set_option maxHeartbeats 1000000 in
theorem none_any (x m g : Nat) (hx : x < 1152921504606846976) (hm : m < 1152921504606846976) (w : World) (hc : w.cell? ⟨g, 0, none⟩ = some (.int .i64 m)) :
    Calls Tryd.prog 107 #[.int .i64 x, .pointer (some ⟨g, 0, none⟩)] w fun e w' => e = .returned (.bool (x &&& m == 0)) ∧ w = w' := by
  have key := and_nat x m (by omega) (by omega)
  have h2 : (((x &&& m : Nat) : Int) == 0) = (x &&& m == 0) := by
    rw [Bool.eq_iff_iff]; simp
  generalize x &&& m = z at key h2 ⊢
  go_enter Tryd.func107, Tryd.ntmps107
  go_wp2
  go_ret
  exact ⟨by rw [← h2]; rfl, rfl⟩

set_option maxRecDepth 100000 in
set_option maxHeartbeats 1000000 in
theorem index84 (A : Option Addr) (c B g : Nat) (l : List Int) (p : Int → Bool) (w : World) (h : IntsAt B w A l) (hm : l.length ≤ 1000)
    (hC : ∀ x ∈ l, Calls Tryd.prog 84 #[.int .i64 x, .pointer (some ⟨g, 0, none⟩)] w fun e w' => e = .returned (.bool (p x)) ∧ w = w') :
    Calls Tryd.prog 110 #[.slice A l.length c, .func (.func 84) #[] #[.pointer (some ⟨g, 0, none⟩)]] w fun e w' => ∃ z : Int, e = .returned (.int .i64 z) ∧ decide (0 ≤ z) = l.any p ∧ w = w' := by
  have HC := Lib.hid hC
  clear hC
  go_enter Tryd.func110, Tryd.ntmps110
  go_wp2_with fail
  go_loop [8] (fun i => ∃ k : Nat, k ≤ l.length ∧ i = .int .i64 k ∧ ∀ j (hj : j < l.length), j < k → p l[j] = false) (fun i => l.length - (intOf i).toNat)
  case atStart => exact ⟨0, Nat.zero_le _, rfl, fun j hj hk => by omega⟩
  case round =>
    obtain ⟨k, hk, rfl, hn⟩ := hrel
    by_cases hlt : k < l.length
    · obtain ⟨b, off, rfl, hbB, c0⟩ := h.at hlt
      have cc := Lib.hid (HC.out l[k] (List.getElem_mem hlt))
      have Hn := Lib.hid hn
      clear hn
      cases hp : p l[k] with
      | true =>
        rw [hp] at cc
        have Ha := Lib.hid (show l.any p = true from List.any_eq_true.2 ⟨l[k], List.getElem_mem hlt, hp⟩)
        clear hp
        go_wp2_with (go_at_call 84; refine cc.out.mono ?_; rintro e w1 ⟨rfl, rfl⟩)
        go_ret
        exact ⟨_, rfl, by rw [Ha.out]; simp, rfl⟩
      | false =>
        rw [hp] at cc
        have Hp := Lib.hid hp
        clear hp
        go_wp2_with (go_at_call 84; refine cc.out.mono ?_; rintro e w1 ⟨rfl, rfl⟩)
        go_round
        case rel =>
          refine ⟨k + 1, by omega, by go_num, fun j hj hjk => ?_⟩
          by_cases e : j = k
          · subst e; exact Hp.out
          · exact Hn.out j hj (by omega)
        case measure => simp [intOf]; omega
    · obtain rfl : k = l.length := by omega
      have Ha := Lib.hid (show l.any p = false by
        rw [List.any_eq_false]
        intro x hx
        obtain ⟨i, hi, rfl⟩ := List.getElem_of_mem hx
        rw [hn i hi hi]; simp)
      clear hn
      go_wp2_with fail
      go_ret
      exact ⟨_, rfl, by rw [Ha.out]; simp, rfl⟩
theorem contains84 (A : Option Addr) (c B g : Nat) (l : List Int) (p : Int → Bool) (w : World) (h : IntsAt B w A l) (hm : l.length ≤ 1000)
    (hC : ∀ x ∈ l, Calls Tryd.prog 84 #[.int .i64 x, .pointer (some ⟨g, 0, none⟩)] w fun e w' => e = .returned (.bool (p x)) ∧ w = w') :
    Calls Tryd.prog 83 #[.slice A l.length c, .func (.func 84) #[] #[.pointer (some ⟨g, 0, none⟩)]] w fun e w' => e = .returned (.bool (l.any p)) ∧ w = w' := by
  have ci := Lib.hid (index84 A c B g l p w h hm hC)
  generalize l.any p = a at ci ⊢
  clear h hC
  go_enter Tryd.func83, Tryd.ntmps83
  go_wp2_with (go_at_call 110; refine ci.out.mono ?_; rintro e w1 ⟨z, rfl, hz, rfl⟩)
  go_ret
  exact ⟨by rw [← hz]; rfl, rfl⟩

set_option maxRecDepth 100000 in
set_option maxHeartbeats 1000000 in
theorem index107 (A : Option Addr) (c B g : Nat) (l : List Int) (p : Int → Bool) (w : World) (h : IntsAt B w A l) (hm : l.length ≤ 1000)
    (hC : ∀ x ∈ l, Calls Tryd.prog 107 #[.int .i64 x, .pointer (some ⟨g, 0, none⟩)] w fun e w' => e = .returned (.bool (p x)) ∧ w = w') :
    Calls Tryd.prog 110 #[.slice A l.length c, .func (.func 107) #[] #[.pointer (some ⟨g, 0, none⟩)]] w fun e w' => ∃ z : Int, e = .returned (.int .i64 z) ∧ decide (0 ≤ z) = l.any p ∧ w = w' := by
  have HC := Lib.hid hC
  clear hC
  go_enter Tryd.func110, Tryd.ntmps110
  go_wp2_with fail
  go_loop [8] (fun i => ∃ k : Nat, k ≤ l.length ∧ i = .int .i64 k ∧ ∀ j (hj : j < l.length), j < k → p l[j] = false) (fun i => l.length - (intOf i).toNat)
  case atStart => exact ⟨0, Nat.zero_le _, rfl, fun j hj hk => by omega⟩
  case round =>
    obtain ⟨k, hk, rfl, hn⟩ := hrel
    by_cases hlt : k < l.length
    · obtain ⟨b, off, rfl, hbB, c0⟩ := h.at hlt
      have cc := Lib.hid (HC.out l[k] (List.getElem_mem hlt))
      have Hn := Lib.hid hn
      clear hn
      cases hp : p l[k] with
      | true =>
        rw [hp] at cc
        have Ha := Lib.hid (show l.any p = true from List.any_eq_true.2 ⟨l[k], List.getElem_mem hlt, hp⟩)
        clear hp
        go_wp2_with (go_at_call 107; refine cc.out.mono ?_; rintro e w1 ⟨rfl, rfl⟩)
        go_ret
        exact ⟨_, rfl, by rw [Ha.out]; simp, rfl⟩
      | false =>
        rw [hp] at cc
        have Hp := Lib.hid hp
        clear hp
        go_wp2_with (go_at_call 107; refine cc.out.mono ?_; rintro e w1 ⟨rfl, rfl⟩)
        go_round
        case rel =>
          refine ⟨k + 1, by omega, by go_num, fun j hj hjk => ?_⟩
          by_cases e : j = k
          · subst e; exact Hp.out
          · exact Hn.out j hj (by omega)
        case measure => simp [intOf]; omega
    · obtain rfl : k = l.length := by omega
      have Ha := Lib.hid (show l.any p = false by
        rw [List.any_eq_false]
        intro x hx
        obtain ⟨i, hi, rfl⟩ := List.getElem_of_mem hx
        rw [hn i hi hi]; simp)
      clear hn
      go_wp2_with fail
      go_ret
      exact ⟨_, rfl, by rw [Ha.out]; simp, rfl⟩
theorem contains107 (A : Option Addr) (c B g : Nat) (l : List Int) (p : Int → Bool) (w : World) (h : IntsAt B w A l) (hm : l.length ≤ 1000)
    (hC : ∀ x ∈ l, Calls Tryd.prog 107 #[.int .i64 x, .pointer (some ⟨g, 0, none⟩)] w fun e w' => e = .returned (.bool (p x)) ∧ w = w') :
    Calls Tryd.prog 83 #[.slice A l.length c, .func (.func 107) #[] #[.pointer (some ⟨g, 0, none⟩)]] w fun e w' => e = .returned (.bool (l.any p)) ∧ w = w' := by
  have ci := Lib.hid (index107 A c B g l p w h hm hC)
  generalize l.any p = a at ci ⊢
  clear h hC
  go_enter Tryd.func83, Tryd.ntmps83
  go_wp2_with (go_at_call 110; refine ci.out.mono ?_; rintro e w1 ⟨z, rfl, hz, rfl⟩)
  go_ret
  exact ⟨by rw [← hz]; rfl, rfl⟩

/-- The error of a table. -/
def vtR (l : List Int) (d : Int) : Int := if d < 0 ∨ 8 < d then 1 else if 8 < l.length then 4 else if l.any (fun x => decide (x < 0 ∨ (2 : Int) ^ d.toNat ≤ x)) then 1 else 0
set_option maxRecDepth 100000 in
set_option maxHeartbeats 1000000 in
theorem vt_any (A : Option Addr) (c B : Nat) (l : List Int) (d : Int) (w : World) (hB : B ≤ w.heap.size) (h : IntsAt B w A l) (hm : l.length ≤ 1000) :
    Calls Tryd.prog 39 #[.slice A l.length c, .int .i64 d] w fun e w' => e = .returned (.int .i64 (vtR l d)) ∧ Below w.heap.size w w' := by
  by_cases h1 : d < 0 ∨ 8 < d
  · have Hr := Lib.hid (show vtR l d = 1 from if_pos h1)
    rcases h1 with h1 | h1
    all_goals
      go_enter Tryd.func39, Tryd.ntmps39
      go_wp2
      go_ret
      exact ⟨by rw [Hr.out]; rfl, (Below.refl _ _).alloc (Nat.le_refl _) _⟩
  · obtain ⟨d, rfl⟩ := Int.eq_ofNat_of_zero_le (show 0 ≤ d by omega)
    have hd8 : d ≤ 8 := by omega
    have h1' := Lib.hid h1
    clear h1
    by_cases h2 : 8 < l.length
    · have Hr := Lib.hid (show vtR l d = 4 by rw [vtR, if_neg h1'.out, if_pos h2])
      go_enter Tryd.func39, Tryd.ntmps39
      go_wp2
      go_ret
      exact ⟨by rw [Hr.out]; rfl, (Below.refl _ _).alloc (Nat.le_refl _) _⟩
    · have hb0 := Blk.new w 3 #[.int .i64 (d : Int)]
      have hw0 : Below w.heap.size w (w.alloc (.cells #[.int .i64 (d : Int)] 3)) := (Below.refl _ _).alloc (Nat.le_refl _) _
      have cc := Lib.hid (contains84 A c w.heap.size w.heap.size l (fun x => decide (x < 0 ∨ (2 : Int) ^ d ≤ x)) (w.alloc (.cells #[.int .i64 (d : Int)] 3)) ((h.below (Below.refl _ _) hB).below hw0 (Nat.le_refl _)) hm (fun x _ => bad_any x d w.heap.size hd8 _ (hb0.cell 0)))
      have Hr := Lib.hid (show vtR l d = if l.any (fun x => decide (x < 0 ∨ (2 : Int) ^ d ≤ x)) then 1 else 0 by rw [vtR, if_neg h1'.out, if_neg h2]; rfl)
      generalize l.any (fun x => decide (x < 0 ∨ (2 : Int) ^ d ≤ x)) = a at cc Hr
      clear h hb0
      cases a
      all_goals
        go_enter Tryd.func39, Tryd.ntmps39
        go_wp2_with (go_at_call 83; refine cc.out.mono ?_; rintro e w1 ⟨rfl, rfl⟩)
        go_ret
        exact ⟨by rw [Hr.out]; rfl, hw0⟩
/-- Every child can eat a dish of a set. -/
def fdR (l : List Nat) (m : Nat) : Bool := !l.any fun x => x &&& m == 0
def intL (l : List Nat) : List Int := l.map fun x : Nat => (x : Int)
set_option maxRecDepth 100000 in
set_option maxHeartbeats 1000000 in
theorem feeds_any (A : Option Addr) (c B : Nat) (l : List Nat) (m : Nat) (w : World) (hB : B ≤ w.heap.size) (h : IntsAt B w A (intL l)) (hm : l.length ≤ 1000) (hl : ∀ x ∈ l, x < 1152921504606846976) (hmm : m < 1152921504606846976) :
    Calls Tryd.prog 64 #[.slice A l.length c, .int .i64 m] w fun e w' => e = .returned (.bool (fdR l m)) ∧ Below w.heap.size w w' := by
  have hb0 := Blk.new w 3 #[.int .i64 (m : Int)]
  have hw0 : Below w.heap.size w (w.alloc (.cells #[.int .i64 (m : Int)] 3)) := (Below.refl _ _).alloc (Nat.le_refl _) _
  have hll : (intL l).length = l.length := by simp [intL]
  have cc0 := contains107 A c w.heap.size w.heap.size (intL l) (fun x => x.toNat &&& m == 0) (w.alloc (.cells #[.int .i64 (m : Int)] 3)) ((h.below (Below.refl _ _) hB).below hw0 (Nat.le_refl _)) (by rw [hll]; exact hm) (fun x hx => by
    simp only [intL, List.mem_map] at hx
    obtain ⟨y, hy, rfl⟩ := hx
    exact none_any y m w.heap.size (hl y hy) hmm _ (hb0.cell 0))
  have ha : (intL l).any (fun x => x.toNat &&& m == 0) = l.any fun x => x &&& m == 0 := by
    rw [intL, List.any_map]; rfl
  rw [hll, ha] at cc0
  have cc := Lib.hid cc0
  unfold fdR
  generalize (l.any fun x => x &&& m == 0) = a at cc ⊢
  clear h hb0 hll cc0 ha hl
  go_enter Tryd.func64, Tryd.ntmps64
  go_wp2_with (go_at_call 83; refine cc.out.mono ?_; rintro e w1 ⟨rfl, rfl⟩)
  go_ret
  exact ⟨rfl, hw0⟩
end Go.Proofs.YtgoojcjfhghmgaaDoor

/- The reference's table and feeds; SameInts. -/
namespace Go.Proofs.YtgoojcjfhghmgaaDoor
open Go.RowKit

/-- Equal as far as they have been looked at. -/
def EqTo (a b : List Int) (k : Nat) : Prop := a.take k = b.take k
theorem EqTo.succ {a b : List Int} {k : Nat} (h : EqTo a b k) (ha : k < a.length) (hb : k < b.length) (e : a[k] = b[k]) : EqTo a b (k + 1) := by
  unfold EqTo at h ⊢
  rw [List.take_succ_eq_append_getElem ha, List.take_succ_eq_append_getElem hb, h, e]
theorem sameI_len {a b : List Int} (h : ¬ a.length = b.length) : decide (a = b) = false := by
  rw [decide_eq_false_iff_not]; intro e; exact h (by rw [e])
theorem sameI_ne {a b : List Int} {k : Nat} (ha : k < a.length) (hb : k < b.length) (e : ¬ a[k] = b[k]) : decide (a = b) = false := by
  rw [decide_eq_false_iff_not]; rintro rfl; exact e rfl
theorem sameI_all {a b : List Int} (hl : a.length = b.length) (h : EqTo a b a.length) : decide (a = b) = true := by
  rw [decide_eq_true_eq]
  unfold EqTo at h
  rwa [List.take_length, hl, List.take_length] at h

set_option maxRecDepth 100000 in
set_option maxHeartbeats 1000000 in
/-- SameInts: equal lists. -/
theorem sameInts_ref (A A' : Option Addr) (c c' B : Nat) (x y : List Int) (w : World) (h : IntsAt B w A x) (h' : IntsAt B w A' y) (hm : x.length ≤ 1000000) :
    Calls Tryd.prog 25 #[.slice A x.length c, .slice A' y.length c'] w fun e w' => e = .returned (.bool (decide (x = y))) ∧ Drew w w' := by
  by_cases hl : x.length = y.length
  · have hl1 : ((x.length : Int) != (y.length : Int)) = false := by simp [hl]
    have Hl := Lib.hid hl
    clear hl
    go_enter Tryd.func25, Tryd.ntmps25
    go_wp2_with fail
    go_loopw [5] (fun i wr => ∃ k : Nat, k ≤ x.length ∧ i = .int .i64 k ∧ EqTo x y k ∧ Drew w wr) (fun i _ => x.length - (intOf i).toNat)
    case atStart => exact ⟨0, Nat.zero_le _, rfl, rfl, 0, rfl⟩
    case round =>
      obtain ⟨k, hk, rfl, heq, hb⟩ := hrel
      have Hb := Lib.hid hb
      clear hb
      by_cases hlt : k < x.length
      · have hlt2 : k < y.length := by rw [← Hl.out]; exact hlt
        obtain ⟨b, off, rfl, hbB, hc⟩ := h.at hlt
        obtain ⟨b', off', rfl, hbB', hc'⟩ := h'.at hlt2
        have d0 := (Hb.out.cell _).trans hc
        have d1 := (Hb.out.cell _).trans hc'
        have k0 : (0 : Int) ≤ (k : Int) := by omega
        have k1 : (k : Int) < (x.length : Int) := by omega
        have k2 : (k : Int) < (y.length : Int) := by omega
        clear hc hc'
        by_cases he : x[k] = y[k]
        · have he1 : (x[k] != y[k]) = false := by simpa using he
          have Heq := Lib.hid (heq.succ hlt hlt2 he)
          clear he
          go_wp2_with fail
          go_quiet (fail)
          go_wp2_with fail
          go_roundw
          case rel => exact ⟨k + 1, by omega, by go_num, Heq.out, Hb.out.drewN _⟩
          case measure => simp [intOf]; omega
        · have he1 : (x[k] != y[k]) = true := by simpa using he
          have Hx := Lib.hid (sameI_ne hlt hlt2 he)
          clear he
          go_wp2_with fail
          go_quiet (fail)
          go_wp2_with fail
          go_ret
          exact ⟨by rw [Hx.out]; rfl, Hb.out.drewN _⟩
      · obtain rfl : k = x.length := by omega
        have Hx := Lib.hid (sameI_all Hl.out heq)
        go_wp2_with fail
        go_ret
        exact ⟨by rw [Hx.out]; rfl, Hb.out⟩
  · have hl1 : ((x.length : Int) != (y.length : Int)) = true := by simp; omega
    have Hx := Lib.hid (sameI_len hl)
    clear hl
    go_enter Tryd.func25, Tryd.ntmps25
    go_wp2_with fail
    go_ret
    exact ⟨by rw [Hx.out]; rfl, 0, rfl⟩

set_option maxRecDepth 100000 in
set_option maxHeartbeats 1000000 in
theorem vt_ref (A : Option Addr) (c B : Nat) (l : List Int) (d : Int) (w : World) (h : IntsAt B w A l) (hm : l.length ≤ 1000) :
    Calls Tryd.prog 40 #[.slice A l.length c, .int .i64 d] w fun e w' => e = .returned (.int .i64 (vtR l d)) ∧ Below w.heap.size w w' := by
  by_cases h1 : d < 0 ∨ 8 < d
  · have Hr := Lib.hid (show vtR l d = 1 from if_pos h1)
    rcases h1 with h1 | h1
    all_goals
      go_enter Tryd.func40, Tryd.ntmps40
      go_wp2
      go_ret
      exact ⟨by rw [Hr.out]; rfl, Below.refl _ _⟩
  · obtain ⟨d, rfl⟩ := Int.eq_ofNat_of_zero_le (show 0 ≤ d by omega)
    have hd8 : d ≤ 8 := by omega
    have h1' := Lib.hid h1
    clear h1
    by_cases h2 : 8 < l.length
    · have Hr := Lib.hid (show vtR l d = 4 by rw [vtR, if_neg h1'.out, if_pos h2])
      go_enter Tryd.func40, Tryd.ntmps40
      go_wp2
      go_ret
      exact ⟨by rw [Hr.out]; rfl, Below.refl _ _⟩
    · have Hr := Lib.hid (show vtR l d = if l.any (fun x => decide (x < 0 ∨ (2 : Int) ^ d ≤ x)) then 1 else 0 by rw [vtR, if_neg h1'.out, if_neg h2]; rfl)
      have hp := pow_wrap (show d < 63 by omega)
      go_enter Tryd.func40, Tryd.ntmps40
      go_wp2_with fail
      go_loopw [5] (fun i wr => ∃ k : Nat, k ≤ l.length ∧ i = .int .i64 k ∧ (∀ j (hj : j < l.length), j < k → ¬ (l[j] < 0 ∨ (2 : Int) ^ d ≤ l[j])) ∧ Drew w wr) (fun i _ => l.length - (intOf i).toNat)
      case atStart => exact ⟨0, Nat.zero_le _, rfl, fun j hj hk => by omega, 0, rfl⟩
      case round =>
        obtain ⟨k, hk, rfl, hn, hdr⟩ := hrel
        by_cases hlt : k < l.length
        · obtain ⟨b, off, rfl, hbB, c0⟩ := h.at hlt
          have d0 := (hdr.cell _).trans c0
          have Hn := Lib.hid hn
          have Hd := Lib.hid hdr
          have hcase : (decide (l[k] < 0) = true ∧ l[k] < 0) ∨ ((decide (l[k] < 0) = false ∧ 0 ≤ l[k]) ∧ (decide ((2 : Int) ^ d ≤ l[k]) = true ∨ decide ((2 : Int) ^ d ≤ l[k]) = false)) := by
            rcases Int.lt_or_le l[k] 0 with h3 | h3
            · exact .inl ⟨by simpa using h3, h3⟩
            · refine .inr ⟨⟨by simp; omega, h3⟩, ?_⟩
              cases decide ((2 : Int) ^ d ≤ l[k])
              · exact .inr rfl
              · exact .inl rfl
          have Hc := Lib.hid hcase
          obtain ⟨x, hx⟩ : ∃ x, l[k] = x := ⟨_, rfl⟩
          rw [hx] at d0 hcase
          have Hx := Lib.hid hx
          clear hn hdr c0 hx
          rcases hcase with ⟨h3, h4⟩ | ⟨⟨h3, h4⟩, h5 | h5⟩
          · have Ha := Lib.hid (show l.any (fun x => decide (x < 0 ∨ (2 : Int) ^ d ≤ x)) = true from List.any_eq_true.2 ⟨l[k], List.getElem_mem hlt, by rw [Hx.out]; simp; exact .inl h4⟩)
            go_wp2_with fail
            go_quiet (fail)
            go_wp2_with fail
            go_ret
            exact ⟨by rw [Hr.out, Ha.out]; rfl, below_drewN (Hd.out.below _) _⟩
          · have Ha := Lib.hid (show l.any (fun x => decide (x < 0 ∨ (2 : Int) ^ d ≤ x)) = true from List.any_eq_true.2 ⟨l[k], List.getElem_mem hlt, by rw [Hx.out]; simp; exact .inr (by simpa using h5)⟩)
            go_wp2_with fail
            go_quiet (fail)
            go_wp2_with fail
            go_ret
            exact ⟨by rw [Hr.out, Ha.out]; rfl, below_drewN (Hd.out.below _) _⟩
          · have H5 := Lib.hid (show ¬ (l[k] < 0 ∨ (2 : Int) ^ d ≤ l[k]) by rw [Hx.out]; simp at h5; omega)
            go_wp2_with fail
            go_quiet (fail)
            go_wp2_with fail
            go_roundw
            case rel =>
              refine ⟨k + 1, by omega, by go_num, fun j hj hjk => ?_, Hd.out.drewN _⟩
              by_cases e : j = k
              · subst e; exact H5.out
              · exact Hn.out j hj (by omega)
            case measure => simp [intOf]; omega
        · obtain rfl : k = l.length := by omega
          have Ha := Lib.hid (show l.any (fun x => decide (x < 0 ∨ (2 : Int) ^ d ≤ x)) = false by
            rw [List.any_eq_false]
            intro x hx
            obtain ⟨i, hi, rfl⟩ := List.getElem_of_mem hx
            simpa using hn i hi hi)
          clear hn
          go_wp2_with fail
          go_ret
          exact ⟨by rw [Hr.out, Ha.out]; rfl, hdr.below _⟩

set_option maxRecDepth 100000 in
set_option maxHeartbeats 1000000 in
theorem feeds_ref (A : Option Addr) (c B : Nat) (l : List Nat) (m : Nat) (w : World) (h : IntsAt B w A (intL l)) (hm : l.length ≤ 1000) (hl : ∀ x ∈ l, x < 1152921504606846976) (hmm : m < 1152921504606846976) :
    Calls Tryd.prog 66 #[.slice A l.length c, .int .i64 m] w fun e w' => e = .returned (.bool (fdR l m)) ∧ w = w' := by
  have hll : (intL l).length = l.length := by simp [intL]
  go_enter Tryd.func66, Tryd.ntmps66
  go_wp2_with fail
  go_loop [5] (fun i => ∃ k : Nat, k ≤ l.length ∧ i = .int .i64 k ∧ ∀ j (hj : j < l.length), j < k → (l[j] &&& m == 0) = false) (fun i => l.length - (intOf i).toNat)
  case atStart => exact ⟨0, Nat.zero_le _, rfl, fun j hj hk => by omega⟩
  case round =>
    obtain ⟨k, hk, rfl, hn⟩ := hrel
    by_cases hlt : k < l.length
    · obtain ⟨b, off, rfl, hbB, c0⟩ := h.at (k := k) (by omega)
      have e1 : (intL l)[k]'(by omega) = ((l[k] : Nat) : Int) := by simp [intL]
      rw [e1] at c0
      have hx := hl l[k] (List.getElem_mem hlt)
      have key := and_nat l[k] m (by omega) (by omega)
      have h2 : (((l[k] &&& m : Nat) : Int) == 0) = (l[k] &&& m == 0) := by rw [Bool.eq_iff_iff]; simp
      have Hn := Lib.hid hn
      clear hn e1
      cases hz : (l[k] &&& m == 0) with
      | true =>
        have Ha := Lib.hid (show fdR l m = false by
          have : (l.any fun x => x &&& m == 0) = true := List.any_eq_true.2 ⟨l[k], List.getElem_mem hlt, hz⟩
          rw [fdR, this]; rfl)
        rw [hz] at h2
        clear hz
        go_wp2_with fail
        go_ret
        exact ⟨by rw [Ha.out]; rfl, rfl⟩
      | false =>
        rw [hz] at h2
        have Hz := Lib.hid hz
        clear hz
        go_wp2_with fail
        go_round
        case rel =>
          refine ⟨k + 1, by omega, by go_num, fun j hj hjk => ?_⟩
          by_cases e : j = k
          · subst e; exact Hz.out
          · exact Hn.out j hj (by omega)
        case measure => simp [intOf]; omega
    · obtain rfl : k = l.length := by omega
      have Ha := Lib.hid (show fdR l m = true by
        have : (l.any fun x => x &&& m == 0) = false := by
          rw [List.any_eq_false]
          intro x hx
          obtain ⟨i, hi, rfl⟩ := List.getElem_of_mem hx
          rw [hn i hi hi]; simp
        rw [fdR, this]; rfl)
      clear hn
      go_wp2_with fail
      go_ret
      exact ⟨by rw [Ha.out]; rfl, rfl⟩
end Go.Proofs.YtgoojcjfhghmgaaDoor

/- Menus. -/
namespace Go.Proofs.YtgoojcjfhghmgaaDoor
open Go.RowKit

theorem clear_bit {m : Nat} (h0 : m ≠ 0) (hm : m < 18446744073709551616) (i : Nat) : (m &&& (m - 1)).testBit i = (m.testBit i && decide (i ≠ Lib.ctz 64 m)) := by
  obtain ⟨q, hq, _⟩ := Lib.ctzFrom_spec 64 m (by omega) hm
  have hc : Lib.ctz 64 m = Lib.ctzFrom 64 m := by unfold Lib.ctz; rw [if_neg h0]
  rw [hc]
  generalize Lib.ctzFrom 64 m = k at hq ⊢
  have hp : 0 < 2 ^ k := Nat.two_pow_pos k
  have e1 : m = 2 ^ k * (2 * q + 1) + 0 := by omega
  have e2 : m - 1 = 2 ^ k * (2 * q) + (2 ^ k - 1) := by
    rw [hq, Nat.mul_add, Nat.mul_one]; omega
  rw [Nat.testBit_and]
  have t1 : m.testBit i = if i < k then Nat.testBit 0 i else (2 * q + 1).testBit (i - k) := by
    rw [e1]; exact Nat.testBit_two_pow_mul_add _ hp i
  have t2 : (m - 1).testBit i = if i < k then (2 ^ k - 1).testBit i else (2 * q).testBit (i - k) := by
    rw [e2]; exact Nat.testBit_two_pow_mul_add _ (by omega) i
  rw [t1, t2]
  by_cases h1 : i < k
  · simp [h1]
  · rw [if_neg h1, if_neg h1]
    by_cases h2 : i = k
    · subst h2; simp
    · obtain ⟨j, rfl⟩ : ∃ j, i = k + (j + 1) := ⟨i - k - 1, by omega⟩
      have e3 : k + (j + 1) - k = j + 1 := by omega
      rw [e3, Nat.testBit_succ, Nat.testBit_succ]
      have d1 : (2 * q + 1) / 2 = q := by omega
      have d2 : 2 * q / 2 = q := by omega
      rw [d1, d2]
      simp
theorem ctz_bit {m : Nat} (h0 : m ≠ 0) (hm : m < 18446744073709551616) : m.testBit (Lib.ctz 64 m) = true := by
  obtain ⟨q, hq, _⟩ := Lib.ctzFrom_spec 64 m (by omega) hm
  have hc : Lib.ctz 64 m = Lib.ctzFrom 64 m := by unfold Lib.ctz; rw [if_neg h0]
  rw [hc]
  generalize Lib.ctzFrom 64 m = k at hq ⊢
  have e1 : m = 2 ^ k * (2 * q + 1) + 0 := by omega
  rw [e1, Nat.testBit_two_pow_mul_add _ (Nat.two_pow_pos k)]
  simp
/-- The places are those of the bits. -/
theorem mem_bl : ∀ (m : Nat) (_ : m < 18446744073709551616) (i : Nat), i ∈ bl m ↔ m.testBit i = true := by
  intro m
  induction m using Nat.strongRecOn with
  | _ m ih =>
    intro hm i
    by_cases h0 : m = 0
    · subst h0; rw [bl_zero]; simp
    · rw [bl_pos h0, List.mem_cons, ih _ (clear_lt h0) (by have := clear_lt h0; omega), clear_bit h0 hm]
      simp only [Bool.and_eq_true, decide_eq_true_eq]
      constructor
      · rintro (rfl | ⟨h, _⟩)
        · exact ctz_bit h0 hm
        · exact h
      · intro h
        by_cases e : i = Lib.ctz 64 m
        · exact .inl e
        · exact .inr ⟨h, e⟩
theorem bl_lt {m n : Nat} (hm : m < 2 ^ n) (hn : n ≤ 60) {i : Nat} (hi : i ∈ bl m) : i < n := by
  have h1 : m < 18446744073709551616 := Nat.lt_of_lt_of_le hm (Nat.le_trans (Nat.pow_le_pow_right (by decide) hn) (by decide))
  have h2 := (mem_bl m h1 i).1 hi
  apply Classical.byContradiction
  intro hge
  rw [Nat.testBit_lt_two_pow (Nat.lt_of_lt_of_le hm (Nat.pow_le_pow_right (by decide) (by omega)))] at h2
  cases h2
theorem bl_nodup : ∀ (m : Nat) (_ : m < 18446744073709551616), (bl m).Nodup := by
  intro m
  induction m using Nat.strongRecOn with
  | _ m ih =>
    intro hm
    by_cases h0 : m = 0
    · subst h0; rw [bl_zero]; exact List.nodup_nil
    · rw [bl_pos h0, List.nodup_cons]
      refine ⟨fun h => ?_, ih _ (clear_lt h0) (by have := clear_lt h0; omega)⟩
      rw [mem_bl _ (by have := clear_lt h0; omega), clear_bit h0 hm] at h
      simp at h
theorem nodup_len : ∀ (n : Nat) (l : List Nat), l.Nodup → (∀ i ∈ l, i < n) → l.length ≤ n
  | 0, l, _, h => by
    cases l with
    | nil => simp
    | cons x l => exact absurd (h x (by simp)) (by omega)
  | n + 1, l, hn, h => by
    by_cases hm : n ∈ l
    · have h1 := nodup_len n (l.erase n) (hn.erase n) fun i hi => by
        rw [hn.mem_erase_iff] at hi
        have := h i hi.2
        have := hi.1
        omega
      rw [List.length_erase_of_mem hm] at h1
      omega
    · have h1 := nodup_len n l hn fun i hi => by
        have h2 := h i hi
        have h3 : i ≠ n := fun e => hm (e ▸ hi)
        omega
      omega
theorem bl_length {m n : Nat} (hm : m < 2 ^ n) (hn : n ≤ 60) : (bl m).length ≤ n := by
  have h1 : m < 18446744073709551616 := Nat.lt_of_lt_of_le hm (Nat.le_trans (Nat.pow_le_pow_right (by decide) hn) (by decide))
  exact nodup_len n _ (bl_nodup m h1) fun i hi => bl_lt hm hn hi
end Go.Proofs.YtgoojcjfhghmgaaDoor

/- The program's Menus. -/
namespace Go.Proofs.YtgoojcjfhghmgaaDoor
open Go.RowKit

/-- A smallest set of dishes. -/
def lsM (l : List Nat) (m : Nat) : Bool := fdR l m && (bl m).all fun i => !fdR l (m - 2 ^ i)
def mnTo (l : List Nat) (k : Nat) : List Nat := (List.range k).filter (lsM l)
theorem mnTo_succ (l : List Nat) (k : Nat) : mnTo l (k + 1) = mnTo l k ++ if lsM l k then [k] else [] := by
  simp only [mnTo, List.range_succ, List.filter_append, List.filter_cons, List.filter_nil]
theorem mnTo_length (l : List Nat) (k : Nat) : (mnTo l k).length ≤ k := by
  have := List.length_filter_le (lsM l) (List.range k)
  simpa [mnTo] using this
theorem andNot_bit {m i : Nat} (hm : m < 256) (hi : i < 8) (hb : m.testBit i = true) : bits BinOp.andNot IntKind.i64 (m : Int) (wrap64 ((2 : Int) ^ i)) = ((m - 2 ^ i : Nat) : Int) := by
  have : ∀ i : Nat, i < 8 → ∀ m : Nat, m < 256 → m.testBit i = true → bits BinOp.andNot IntKind.i64 (m : Int) (wrap64 ((2 : Int) ^ i)) = ((m - 2 ^ i : Nat) : Int) := by decide +kernel
  exact this i hi m hm hb
theorem own_cell {w : World} {base e n c : Nat} {A : Option Addr} {xs : List Value} (h : w.ownsRow base e 1 (.slice A n c) n xs) {k : Nat} (hk : k < n) {u : Value} (hu : xs[k]? = some u) :
    ∃ g, A = some ⟨g, 0, none⟩ ∧ g < w.heap.size ∧ base ≤ g ∧ w.cell? ⟨g, k, none⟩ = some u := by
  rcases h.2 with ⟨e1, e2⟩ | ⟨g, cap, cur, e1, hb, _⟩
  · omega
  · injection e1 with e1 e3 e4
    subst e1 e4
    have := h.cells (g := g) rfl k u hu
    rw [Addr.add_lit, Nat.zero_add] at this
    exact ⟨g, rfl, (h.lt g rfl).2, hb, this⟩
theorem natV_get {ds : List Nat} {j : Nat} (hj : j < ds.length) : (natV ds)[j]? = some (.int .i64 ((ds[j] : Nat) : Int)) := by simp [natV, hj]

set_option maxRecDepth 100000 in
set_option maxHeartbeats 2000000 in
theorem Menus_any (A : Option Addr) (c B : Nat) (l : List Nat) (d : Nat) (w : World) (hB : B ≤ w.heap.size) (h : IntsAt B w A (intL l)) (hm : l.length ≤ 60) (hT : Tab w) (hv : vtR (intL l) d = 0) (hl : ∀ x ∈ l, x < 1152921504606846976) (hd : d ≤ 8) :
    Calls Tryd.prog 23 #[.slice A l.length c, .int .i64 d] w fun e w' => ∃ v, e = .returned (.tuple #[v, .int .i64 0]) ∧ w'.ownsRow w.heap.size 3 1 v (mnTo l (2 ^ d)).length (natV (mnTo l (2 ^ d))) ∧ Below w.heap.size w w' := by
  have hll : (intL l).length = l.length := by simp [intL]
  have hI := h.below (Below.refl _ _) hB
  have cv0 := vt_any A c B (intL l) d w hB h (by omega)
  rw [hll, hv] at cv0
  have cv := Lib.hid cv0
  have cf := Lib.hid (fun (m : Nat) W (hW : Below w.heap.size w W) (hmm : m < 1152921504606846976) => feeds_any A c w.heap.size l m W hW.size (hI.below hW (Nat.le_refl _)) (by omega) hl hmm)
  have ct := Lib.hid (fun (m : Nat) (hmm : m < 256) W (hW : Below w.heap.size w W) => list_any m (by omega) W (hT.below hW hT.2) (by have := bl_length (n := 8) (m := m) (by simpa using hmm) (by decide); omega))
  have hp : wrap64 ((2 : Int) ^ d) = ((2 ^ d : Nat) : Int) := by rw [pow_wrap (show d < 63 by omega)]; simp
  have hN : 2 ^ d ≤ 256 := Nat.le_trans (Nat.pow_le_pow_right (by decide) hd) (by decide)
  obtain ⟨j0, hj, hy0, hy1, hy2⟩ := info_parts info3
  clear h hI cv0 hll hv hl hT
  generalize 2 ^ d = N at hp hN ⊢
  go_enter Tryd.func23, Tryd.ntmps23
  go_wp2_with (go_at_call 39; refine cv.out.mono ?_; rintro e w1 ⟨rfl, hb1⟩)
  try rw [hp]
  clear hp
  go_loopw [7, 20] (fun out i wr => ∃ k : Nat, k ≤ N ∧ i = .int .i64 k ∧ wr.ownsRow w.heap.size 3 1 out (mnTo l k).length (natV (mnTo l k)) ∧ Below w.heap.size w wr) (fun _ i _ => N - (intOf i).toNat)
  case atStart => exact ⟨0, Nat.zero_le _, rfl, World.ownsRow_nil _ _ _ _, hb1⟩
  case round =>
    obtain ⟨k, hk, rfl, hown, hb⟩ := hrel
    by_cases hlt : k < N
    · have HO := Lib.hid hown
      have hlen := mnTo_length l k
      have Hs := Lib.hid (mnTo_succ l k)
      have cf1 := Lib.hid (cf.out k wr hb (by omega))
      clear hown
      cases hf : fdR l k with
      | false =>
        rw [hf] at cf1
        have Hf := Lib.hid (show mnTo l (k + 1) = mnTo l k by rw [Hs.out, lsM, hf]; simp)
        clear hf
        go_wp2_with (go_at_call 64; refine cf1.out.mono ?_; rintro e w2 ⟨rfl, hb2⟩)
        go_roundw
        case rel => exact ⟨k + 1, by omega, by go_num, by rw [Hf.out]; exact own_below HO.out hb2, hb.trans (hb2.mono hb.size)⟩
        case measure => simp [intOf]; omega
      | true =>
        rw [hf] at cf1
        have Hls := Lib.hid (show lsM l k = (bl k).all fun i => !fdR l (k - 2 ^ i) by rw [lsM, hf]; simp)
        have hk256 : k < 256 := by omega
        clear hf
        go_wp2_with (first
          | (go_at_call 64; refine cf1.out.mono ?_; rintro e w2 ⟨rfl, hd2⟩; have hb2 := hb.trans (hd2.mono hb.size); have HO2 := Lib.hid (own_below HO.out hd2))
          | (go_at_call 65; refine (ct.out k hk256 _ hb2).mono ?_; rintro e w3 ⟨v3, rfl, hown3, hd3⟩; have hb3 := hb2.trans (hd3.mono hb2.size); have HO3 := Lib.hid (own_below HO2.out hd3); obtain ⟨A5, c5, rfl⟩ := own_form hown3))
        have hbll : (bl k).length ≤ 8 := bl_length (n := 8) (by simpa using hk256) (by decide)
        have hblm : ∀ i ∈ bl k, i < 8 ∧ k.testBit i = true := fun i hi => ⟨bl_lt (n := 8) (by simpa using hk256) (by decide) hi, (mem_bl k (by omega) i).1 hi⟩
        have Hbl := Lib.hid hblm
        generalize bl k = L at hown3 Hls hbll Hbl
        have HL := Lib.hid hown3
        clear hblm hown3
        go_loopw [9, 30] (fun x i wr => ∃ j : Nat, j ≤ L.length ∧ i = .int .i64 j ∧ x = .bool ((L.take j).all fun i => !fdR l (k - 2 ^ i)) ∧ Below w3.heap.size w3 wr) (fun _ i _ => L.length - (intOf i).toNat)
        case atStart => exact ⟨0, Nat.zero_le _, rfl, rfl, Below.refl _ _⟩
        case round =>
          obtain ⟨j, hj2, rfl, rfl, hb4⟩ := hrel
          by_cases hlt2 : j < L.length
          · obtain ⟨g5, rfl, hg5, _, hcell⟩ := own_cell HL.out hlt2 (natV_get hlt2)
            have q0 := (hb4.cell (p := ⟨g5, j, none⟩) hg5).trans hcell
            have hsn := Lib.hid (show (L.take (j + 1)).all (fun i => !fdR l (k - 2 ^ i)) = ((L.take j).all (fun i => !fdR l (k - 2 ^ i)) && !fdR l (k - 2 ^ L[j])) by rw [List.take_succ_eq_append_getElem hlt2, List.all_append]; simp)
            obtain ⟨hz1, hz2⟩ := Hbl.out L[j] (List.getElem_mem hlt2)
            have hb5 := hb3.trans (hb4.mono hb3.size)
            have cf2 := Lib.hid (cf.out (k - 2 ^ L[j]) wr hb5 (Nat.lt_of_le_of_lt (Nat.sub_le _ _) (by omega)))
            have ha := andNot_bit hk256 hz1 hz2
            generalize (L.take j).all (fun i => !fdR l (k - 2 ^ i)) = x at hsn ⊢
            generalize fdR l (k - 2 ^ L[j]) = y at hsn cf2
            generalize L[j] = z at q0 ha hz1 cf2
            clear hcell hz2
            cases x
            · go_wp2_with fail
              go_roundw
              case rel => exact ⟨j + 1, by omega, by go_num, by rw [hsn.out]; rfl, hb4⟩
              case measure => simp [intOf]; omega
            · go_wp2_with (go_at_call 64; refine cf2.out.mono ?_; rintro e w6 ⟨rfl, hd6⟩)
              go_roundw
              case rel => exact ⟨j + 1, by omega, by go_num, by rw [hsn.out]; rfl, hb4.trans (hd6.mono hb4.size)⟩
              case measure => simp [intOf]; omega
          · obtain rfl : j = L.length := by omega
            rw [List.take_length, ← Hls.out]
            have HO4 := Lib.hid (own_below HO3.out hb4)
            have hb5 := hb3.trans (hb4.mono hb3.size)
            cases hls : lsM l k with
            | false =>
              have Hf := Lib.hid (show mnTo l (k + 1) = mnTo l k by rw [Hs.out, hls]; simp)
              clear hls
              go_wp2_with fail
              go_roundw
              case rel => exact ⟨k + 1, by omega, by go_num, by rw [Hf.out]; exact HO4.out, hb5⟩
              case measure => simp [intOf]; omega
            | true =>
              have Hf := Lib.hid (show mnTo l (k + 1) = mnTo l k ++ [k] by rw [Hs.out, hls]; simp)
              clear hls
              go_wp2_with (at_builtin; refine wpList_append_own _ rfl _ _ 32 rfl w.heap.size 3 j0 _ 1 8 Tryd.underlying32 hj hy0 hy1 hy2 rfl (by decide) _ _ _ rfl (HO4.out.alloc _) ⟨wr.heap.size, 0, none⟩ 1 1 _ rfl rfl (cell_one_new _ _ _) (by simp [Value.oneCell']) (by simp only [maxLen]; omega) (by omega) (hb5.alloc hb5.size _).size ?_; intro v' w7 hown7 hg7 _)
              have b7 : Below w.heap.size w w7 := (hb5.alloc hb5.size _).grown hg7 (hb5.alloc hb5.size _).size (fun x hx => (HO4.out.lt x hx).1)
              go_roundw
              case rel => exact ⟨k + 1, by omega, by go_num, by rw [Hf.out, List.length_append, natV, List.map_append]; exact hown7, b7⟩
              case measure => simp [intOf]; omega
    · obtain rfl : k = N := by omega
      go_wp2_with fail
      go_ret2
      exact ⟨_, rfl, hown, hb⟩
end Go.Proofs.YtgoojcjfhghmgaaDoor

/- The reference's Menus. -/
namespace Go.Proofs.YtgoojcjfhghmgaaDoor
open Go.RowKit

def okTo (l : List Nat) (m j : Nat) : Bool := fdR l m && (List.range j).all fun i => !m.testBit i || !fdR l (m - 2 ^ i)
theorem okTo_succ (l : List Nat) (m j : Nat) : okTo l m (j + 1) = (okTo l m j && (!m.testBit j || !fdR l (m - 2 ^ j))) := by
  simp only [okTo, List.range_succ, List.all_append, List.all_cons, List.all_nil, Bool.and_true, Bool.and_assoc]
theorem okTo_false {l : List Nat} {m j : Nat} (h : okTo l m j = false) : ∀ d, j ≤ d → okTo l m d = false := by
  intro d hd
  obtain ⟨e, rfl⟩ : ∃ e, d = j + e := ⟨d - j, by omega⟩
  clear hd
  induction e with
  | zero => exact h
  | succ e ih => rw [← Nat.add_assoc, okTo_succ, ih]; rfl
theorem okTo_all {l : List Nat} {m d : Nat} (hm : m < 2 ^ d) (hd : d ≤ 8) : okTo l m d = lsM l m := by
  unfold okTo lsM
  congr 1
  have h64 : m < 18446744073709551616 := Nat.lt_of_lt_of_le hm (Nat.le_trans (Nat.pow_le_pow_right (by decide) hd) (by decide))
  rw [Bool.eq_iff_iff, List.all_eq_true, List.all_eq_true]
  constructor
  · intro h i hi
    have h1 := (mem_bl m h64 i).1 hi
    have h2 := h i (List.mem_range.2 (bl_lt hm (by omega) hi))
    rw [h1] at h2; simpa using h2
  · intro h i hi
    cases hb : m.testBit i
    · rfl
    · have := h i ((mem_bl m h64 i).2 hb)
      simpa using this

theorem bit_at {k j : Nat} (hk : k < 256) (hj : j < 8) : (bits BinOp.and IntKind.i64 ((k : Int) / (2 : Int) ^ j) 1 == 0) = !k.testBit j := by
  have : ∀ j : Nat, j < 8 → ∀ k : Nat, k < 256 → (bits BinOp.and IntKind.i64 ((k : Int) / (2 : Int) ^ j) 1 == 0) = !k.testBit j := by decide +kernel
  exact this j hj k hk
theorem sub_bit {k j : Nat} (hk : k < 256) (hj : j < 8) (hb : k.testBit j = true) : wrap64 ((k : Int) - wrap64 ((2 : Int) ^ j)) = ((k - 2 ^ j : Nat) : Int) := by
  have : ∀ j : Nat, j < 8 → ∀ k : Nat, k < 256 → k.testBit j = true → wrap64 ((k : Int) - wrap64 ((2 : Int) ^ j)) = ((k - 2 ^ j : Nat) : Int) := by decide +kernel
  exact this j hj k hk hb

set_option maxRecDepth 100000 in
set_option maxHeartbeats 2000000 in
theorem Menus_ref (A : Option Addr) (c B : Nat) (l : List Nat) (d : Nat) (w : World) (hB : B ≤ w.heap.size) (h : IntsAt B w A (intL l)) (hm : l.length ≤ 60) (hv : vtR (intL l) d = 0) (hl : ∀ x ∈ l, x < 1152921504606846976) (hd : d ≤ 8) :
    Calls Tryd.prog 24 #[.slice A l.length c, .int .i64 d] w fun e w' => ∃ v, e = .returned (.tuple #[v, .int .i64 0]) ∧ w'.ownsRow w.heap.size 3 1 v (mnTo l (2 ^ d)).length (natV (mnTo l (2 ^ d))) ∧ Below w.heap.size w w' := by
  have hll : (intL l).length = l.length := by simp [intL]
  have hI := h.below (Below.refl _ _) hB
  have cv0 := vt_ref A c B (intL l) d w h (by omega)
  rw [hll, hv] at cv0
  have cv := Lib.hid cv0
  have cf := Lib.hid (fun (m : Nat) W (hW : Below w.heap.size w W) (hmm : m < 1152921504606846976) => feeds_ref A c w.heap.size l m W (hI.below hW (Nat.le_refl _)) (by omega) hl hmm)
  have hp : wrap64 ((2 : Int) ^ d) = ((2 ^ d : Nat) : Int) := by rw [pow_wrap (show d < 63 by omega)]; simp
  have hN : 2 ^ d ≤ 256 := Nat.le_trans (Nat.pow_le_pow_right (by decide) hd) (by decide)
  have HL := Lib.hid (fun m (hm : m < 2 ^ d) => okTo_all (l := l) hm hd)
  obtain ⟨j0, hj, hy0, hy1, hy2⟩ := info_parts info3
  clear h hI cv0 hll hv hl
  generalize 2 ^ d = N at hp hN HL ⊢
  go_enter Tryd.func24, Tryd.ntmps24
  go_wp2_with (go_at_call 40; refine cv.out.mono ?_; rintro e w1 ⟨rfl, hb1⟩)
  go_loopw [7, 8] (fun out i wr => ∃ k : Nat, k ≤ N ∧ i = .int .i64 k ∧ wr.ownsRow w.heap.size 3 1 out (mnTo l k).length (natV (mnTo l k)) ∧ Below w.heap.size w wr) (fun _ i _ => N - (intOf i).toNat)
  case atStart => exact ⟨0, Nat.zero_le _, rfl, World.ownsRow_nil _ _ _ _, hb1⟩
  case round =>
    obtain ⟨k, hk, rfl, hown, hb⟩ := hrel
    by_cases hlt : k < N
    · have HO := Lib.hid hown
      have hlen := mnTo_length l k
      have Hs := Lib.hid (mnTo_succ l k)
      have cf1 := Lib.hid (cf.out k wr hb (by omega))
      have hlN : (k : Int) < (N : Int) := by omega
      have hk256 : k < 256 := by omega
      have Hok := Lib.hid (HL.out k hlt)
      have Hf0 := Lib.hid (show okTo l k 0 = fdR l k by simp [okTo])
      clear hown
      obtain ⟨wo, hwo⟩ : ∃ wo : World, wo = wr := ⟨_, rfl⟩
      subst hwo
      generalize fdR l k = f0 at cf1 Hf0
      go_wp2_with (go_at_call 66; refine cf1.out.mono ?_; rintro e w2 ⟨rfl, rfl⟩)
      go_loop [9, 10] (fun x i => ∃ j : Nat, j ≤ d ∧ i = .int .i64 j ∧ x = .bool (okTo l k j)) (fun _ i => d - (intOf i).toNat)
      case atStart => exact ⟨0, Nat.zero_le _, rfl, by rw [Hf0.out]⟩
      case round =>
        obtain ⟨j, hj2, rfl, rfl⟩ := hrel
        by_cases hx : j < d ∧ okTo l k j = true
        · obtain ⟨hjd, hok⟩ := hx
          have hsn := Lib.hid (show okTo l k (j + 1) = (!k.testBit j || !fdR l (k - 2 ^ j)) by rw [okTo_succ, hok]; rfl)
          rw [hok]
          clear hok
          have kb := bit_at hk256 (show j < 8 by omega)
          cases hbt : k.testBit j with
          | false =>
            rw [hbt] at kb hsn
            clear hbt
            simp only [Bool.not_false] at kb
            go_wp2_with fail
            go_round
            case rel => exact ⟨j + 1, by omega, by go_num, by rw [hsn.out]; rfl⟩
            case measure => simp [intOf]; omega
          | true =>
            rw [hbt] at kb hsn
            have kw := sub_bit hk256 (show j < 8 by omega) hbt
            have cf2 := Lib.hid (cf.out (k - 2 ^ j) wo hb (Nat.lt_of_le_of_lt (Nat.sub_le _ _) (by omega)))
            generalize fdR l (k - 2 ^ j) = y at hsn cf2
            clear hbt
            simp only [Bool.not_true] at kb
            go_wp2_with (go_at_call 66; refine cf2.out.mono ?_; rintro e w3 ⟨rfl, rfl⟩)
            go_round
            case rel => exact ⟨j + 1, by omega, by go_num, by rw [hsn.out]; rfl⟩
            case measure => simp [intOf]; omega
        · have hfin : okTo l k j = lsM l k := by
            rw [← Hok.out]
            by_cases hjd : j < d
            · have h1 : okTo l k j = false := by
                cases h2 : okTo l k j
                · rfl
                · exact absurd ⟨hjd, h2⟩ hx
              rw [h1, okTo_false h1 d (by omega)]
            · rw [show j = d by omega]
          have hx2 : (decide ((j : Int) < d) = false ∧ (d : Int) ≤ j) ∨ ((decide ((j : Int) < d) = true ∧ (j : Int) < d) ∧ okTo l k j = false) := by
            by_cases hjd : j < d
            · refine .inr ⟨⟨by simpa using hjd, by omega⟩, ?_⟩
              cases h2 : okTo l k j
              · rfl
              · exact absurd ⟨hjd, h2⟩ hx
            · exact .inl ⟨by simpa using hjd, by omega⟩
          rw [hfin] at hx2 ⊢
          clear hfin hx
          cases hls : lsM l k with
          | false =>
            have Hf := Lib.hid (show mnTo l (k + 1) = mnTo l k by rw [Hs.out, hls]; simp)
            rw [hls] at hx2
            clear hls
            rcases hx2 with ⟨h1, g1⟩ | ⟨⟨h1, g1⟩, _⟩
            all_goals
              go_wp2_with fail
              go_roundw
              case rel => exact ⟨k + 1, by omega, by go_num, by rw [Hf.out]; exact HO.out, hb⟩
              case measure => simp [intOf]; omega
          | true =>
            have Hf := Lib.hid (show mnTo l (k + 1) = mnTo l k ++ [k] by rw [Hs.out, hls]; simp)
            rw [hls] at hx2
            clear hls
            rcases hx2 with ⟨h1, g1⟩ | ⟨_, h1⟩
            · go_wp2_with (at_builtin; refine wpList_append_own _ rfl _ _ 32 rfl w.heap.size 3 j0 _ 1 8 Tryd.underlying32 hj hy0 hy1 hy2 rfl (by decide) _ _ _ rfl (HO.out.alloc _) ⟨wo.heap.size, 0, none⟩ 1 1 _ rfl rfl (cell_one_new _ _ _) (by simp [Value.oneCell']) (by simp only [maxLen]; omega) (by omega) (hb.alloc hb.size _).size ?_; intro v' w7 hown7 hg7 _)
              have b7 : Below w.heap.size w w7 := (hb.alloc hb.size _).grown hg7 (hb.alloc hb.size _).size (fun x hx => (HO.out.lt x hx).1)
              go_roundw
              case rel => exact ⟨k + 1, by omega, by go_num, by rw [Hf.out, List.length_append, natV, List.map_append]; exact hown7, b7⟩
              case measure => simp [intOf]; omega
            · cases h1
    · obtain rfl : k = N := by omega
      go_wp2_with fail
      go_ret2
      exact ⟨_, rfl, hown, hb⟩
end Go.Proofs.YtgoojcjfhghmgaaDoor
