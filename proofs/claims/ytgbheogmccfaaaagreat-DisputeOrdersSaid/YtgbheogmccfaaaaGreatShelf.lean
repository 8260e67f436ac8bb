/- The library's sort and its like at this program: the shelf's contracts, laid by the kit's tool in plain words. -/
import Derived.Shelf.Small.Bits
import Derived.Shelf.Small.Strs
import Derived.Shelf.Small.Wraps
import Derived.Shelf.Strconv.Itoa0
import Derived.Shelf.Sort.Plain
import Derived.Shelf.Bits.Mul64
import Derived.Ground.Names2Prog
import Derived.Shelf.Slices.SearchI
import Derived.Shelf.Slices.In.SortNone
import Derived.Ground.SlgnProg
import Derived.Shelf.SlicesG.SearchI
import Derived.Test.YtgbheogmccfaaaaGreatProg
namespace Go.Proofs
open Go.Shelf
def Tryz.lays106_ren : Go.Shelf.Ren := ⟨fun | 106 => 57 | 213 => 85 | 265 => 114 | n => n, fun | 9 => 9 | 3 => 3 | n => n, fun | n => n⟩
theorem Tryz.lays106 : Go.Proofs.Lays.n106 Tryz.prog Tryz.lays106_ren := {
  mixed := by kernel_rfl
  f106 := Tryz.func57.trans (congrArg some (by kernel_rfl))
  f213 := Tryz.func85.trans (congrArg some (by kernel_rfl))
  f265 := Tryz.func114.trans (congrArg some (by kernel_rfl))
  t3 := Tryz.underlying3
  a3 := Tryz.isAgg3
  z3 := Tryz.sizeOf3
  v3 := Tryz.zeroValue3
  t9 := Tryz.underlying9
  a9 := Tryz.isAgg9
  z9 := Tryz.sizeOf9
  v9 := Tryz.zeroValue9 }
open Go.RowKit in
/-- strings.Compare: "Compare returns an integer comparing two strings lexicographically. The result will be 0 if a == b, -1 if a < b, and +1 if a > b.": IT RETURNS 'Lib.compareBytes a b'; the world is as it was. (LAID: no walk: one application.) -/
theorem Tryz.strings_Compare (a b : ByteArray) (w : World) :
    Calls Tryz.prog 57 #[.string a, .string b] w fun e w' => e = .returned (.int .i64 (Lib.compareBytes a.data.toList b.data.toList)) ∧ w' = w := Any.strings_Compare Tryz.lays106 a b w
def Tryz.lays215_ren : Go.Shelf.Ren := ⟨fun | 215 => 80 | n => n, fun | 3 => 3 | 4 => 4 | n => n, fun | n => n⟩
theorem Tryz.lays215 : Go.Proofs.Lays.n215 Tryz.prog Tryz.lays215_ren := {
  mixed := by kernel_rfl
  f215 := Tryz.func80.trans (congrArg some (by kernel_rfl))
  t3 := Tryz.underlying3
  a3 := Tryz.isAgg3
  z3 := Tryz.sizeOf3
  v3 := Tryz.zeroValue3
  t4 := Tryz.underlying4
  a4 := Tryz.isAgg4
  z4 := Tryz.sizeOf4
  v4 := Tryz.zeroValue4 }
open Go.RowKit in
/-- cmp.isNaN at int: 'x != x': false. (LAID: no walk: one application.) -/
theorem Tryz.cmp_isNaN_int (x : Int) (w : World) :
    Calls Tryz.prog 80 #[.int .i64 x] w fun e w' => e = .returned (.bool false) ∧ w' = w := Any.cmp_isNaN_int Tryz.lays215 x w
def Tryz.lays122_ren : Go.Shelf.Ren := ⟨fun | 122 => 48 | 215 => 80 | n => n, fun | 3 => 3 | 4 => 4 | n => n, fun | n => n⟩
theorem Tryz.lays122 : Go.Proofs.Lays.n122 Tryz.prog Tryz.lays122_ren := {
  mixed := by kernel_rfl
  f122 := Tryz.func48.trans (congrArg some (by kernel_rfl))
  f215 := Tryz.func80.trans (congrArg some (by kernel_rfl))
  t3 := Tryz.underlying3
  a3 := Tryz.isAgg3
  z3 := Tryz.sizeOf3
  v3 := Tryz.zeroValue3
  t4 := Tryz.underlying4
  a4 := Tryz.isAgg4
  z4 := Tryz.sizeOf4
  v4 := Tryz.zeroValue4 }
open Go.RowKit in
/-- cmp.Compare at int: "Compare returns -1 if x is less than y, 0 if x equals y, +1 if x is greater than y.": IT RETURNS 'Lib.compareInt x y'; the world is as it was. (LAID: no walk: one application.) -/
theorem Tryz.cmp_Compare_int (x y : Int) (w : World) :
    Calls Tryz.prog 48 #[.int .i64 x, .int .i64 y] w fun e w' => e = .returned (.int .i64 (Lib.compareInt x y)) ∧ w' = w := Any.cmp_Compare_int Tryz.lays122 x y w
def Tryz.lays190_ren : Go.Shelf.Ren := ⟨fun | 190 => 52 | 125 => 37 | 258 => 84 | 128 => 69 | 129 => 70 | 302 => 105 | 303 => 106 | 304 => 107 | 305 => 108 | 306 => 109 | 307 => 110 | 308 => 111 | 309 => 112 | 310 => 113 | 333 => 119 | 329 => 88 | 330 => 89 | 334 => 120 | 335 => 121 | 336 => 122 | 344 => 124 | n => n, fun | 31 => 64 | 9 => 9 | 3 => 3 | 46 => 75 | 0 => 0 | 51 => 102 | 53 => 78 | 4 => 4 | 183 => 95 | 182 => 94 | 131 => 99 | 5 => 5 | 218 => 115 | 222 => 119 | 228 => 134 | 229 => 135 | n => n, fun | n => n⟩
theorem Tryz.lays190 : Go.Proofs.Lays.n190 Tryz.prog Tryz.lays190_ren := {
  mixed := by kernel_rfl
  f125 := Tryz.func37.trans (congrArg some (by kernel_rfl))
  f128 := Tryz.func69.trans (congrArg some (by kernel_rfl))
  f129 := Tryz.func70.trans (congrArg some (by kernel_rfl))
  f190 := Tryz.func52.trans (congrArg some (by kernel_rfl))
  f258 := Tryz.func84.trans (congrArg some (by kernel_rfl))
  f302 := Tryz.func105.trans (congrArg some (by kernel_rfl))
  f303 := Tryz.func106.trans (congrArg some (by kernel_rfl))
  f304 := Tryz.func107.trans (congrArg some (by kernel_rfl))
  f305 := Tryz.func108.trans (congrArg some (by kernel_rfl))
  f306 := Tryz.func109.trans (congrArg some (by kernel_rfl))
  f307 := Tryz.func110.trans (congrArg some (by kernel_rfl))
  f308 := Tryz.func111.trans (congrArg some (by kernel_rfl))
  f309 := Tryz.func112.trans (congrArg some (by kernel_rfl))
  f310 := Tryz.func113.trans (congrArg some (by kernel_rfl))
  f329 := Tryz.func88.trans (congrArg some (by kernel_rfl))
  f330 := Tryz.func89.trans (congrArg some (by kernel_rfl))
  f333 := Tryz.func119.trans (congrArg some (by kernel_rfl))
  f334 := Tryz.func120.trans (congrArg some (by kernel_rfl))
  f335 := Tryz.func121.trans (congrArg some (by kernel_rfl))
  f336 := Tryz.func122.trans (congrArg some (by kernel_rfl))
  f344 := Tryz.func124.trans (congrArg some (by kernel_rfl))
  t0 := Tryz.underlying0
  a0 := Tryz.isAgg0
  z0 := Tryz.sizeOf0
  v0 := Tryz.zeroValue0
  t3 := Tryz.underlying3
  a3 := Tryz.isAgg3
  z3 := Tryz.sizeOf3
  v3 := Tryz.zeroValue3
  t4 := Tryz.underlying4
  a4 := Tryz.isAgg4
  z4 := Tryz.sizeOf4
  v4 := Tryz.zeroValue4
  t5 := Tryz.underlying5
  a5 := Tryz.isAgg5
  z5 := Tryz.sizeOf5
  v5 := Tryz.zeroValue5
  t9 := Tryz.underlying9
  a9 := Tryz.isAgg9
  z9 := Tryz.sizeOf9
  v9 := Tryz.zeroValue9
  t31 := Tryz.underlying64
  a31 := Tryz.isAgg64
  z31 := Tryz.sizeOf64
  v31 := Tryz.zeroValue64
  t46 := Tryz.underlying75
  a46 := Tryz.isAgg75
  z46 := Tryz.sizeOf75
  v46 := Tryz.zeroValue75
  t51 := Tryz.underlying102
  a51 := Tryz.isAgg102
  z51 := Tryz.sizeOf102
  v51 := Tryz.zeroValue102
  t53 := Tryz.underlying78
  a53 := Tryz.isAgg78
  z53 := Tryz.sizeOf78
  v53 := Tryz.zeroValue78
  t131 := Tryz.underlying99
  a131 := Tryz.isAgg99
  z131 := Tryz.sizeOf99
  v131 := Tryz.zeroValue99
  t182 := Tryz.underlying94
  a182 := Tryz.isAgg94
  z182 := Tryz.sizeOf94
  v182 := Tryz.zeroValue94
  t183 := Tryz.underlying95
  a183 := Tryz.isAgg95
  z183 := Tryz.sizeOf95
  v183 := Tryz.zeroValue95
  t218 := Tryz.underlying115
  a218 := Tryz.isAgg115
  z218 := Tryz.sizeOf115
  v218 := Tryz.zeroValue115
  t222 := Tryz.underlying119
  a222 := Tryz.isAgg119
  z222 := Tryz.sizeOf119
  v222 := Tryz.zeroValue119
  t228 := Tryz.underlying134
  a228 := Tryz.isAgg134
  z228 := Tryz.sizeOf134
  v228 := Tryz.zeroValue134
  t229 := Tryz.underlying135
  a229 := Tryz.isAgg135
  z229 := Tryz.sizeOf135
  v229 := Tryz.zeroValue135 }
open Go.Sort Go.RowKit in
theorem Tryz.slices_Sort_string (blk off cap : Nat) (ss : List (List UInt8)) (w : World) (hH : Holds encStr w blk off ss.toArray) (hblk : blk < w.heap.size) (hsz : ss.length < 4611686018427387904) :
    Calls Tryz.prog 52 #[.slice (some ⟨blk, off, none⟩) ss.length cap] w fun e w' =>
      e = .returned (.tuple #[]) ∧ ∃ n os, w' = grow (putRow encStr (Sort.ahead w n) blk off (ss.mergeSort fun x y => decide (x ≤ y)).toArray) os := Any.slices_Sort_string Tryz.lays190 blk off cap ss w hH hblk hsz
def Tryz.laysNm237_ren : Go.Shelf.Ren := ⟨fun | 37 => 80 | n => n, fun | 3 => 3 | 4 => 4 | n => n, fun | n => n⟩
theorem Tryz.laysNm237 : Go.Proofs.Lays2.n37 Tryz.prog Tryz.laysNm237_ren := {
  mixed := by kernel_rfl
  f37 := Tryz.func80.trans (congrArg some (by kernel_rfl))
  t3 := Tryz.underlying3
  a3 := Tryz.isAgg3
  z3 := Tryz.sizeOf3
  v3 := Tryz.zeroValue3
  t4 := Tryz.underlying4
  a4 := Tryz.isAgg4
  z4 := Tryz.sizeOf4
  v4 := Tryz.zeroValue4 }
open Go.RowKit Go.Lib in
/-- cmp.isNaN[int]: 'x != x': false. (LAID: no walk: one application.) -/
theorem Tryz.cmp_isNaN_int2 (x : Int) (w : World) :
    Calls Tryz.prog 80 #[.int .i64 x] w fun e w' => e = .returned (.bool false) ∧ w' = w := Any.cmp_isNaN_int2 Tryz.laysNm237 x w
open Go.RowKit Go.Sort in
/-- .. and plain. (LAID: no walk: one application.) -/
theorem Tryz.slices_Sort_string_none (p : Option Addr) (cap : Nat) (w : World) :
    Calls Tryz.prog 52 #[.slice p 0 cap] w fun e w' => e = .returned (.tuple #[]) ∧ w' = w := Any.slices_Sort_string_none Tryz.lays190 p cap w
def Tryz.laysSlN68_f86_ren : Go.Shelf.Ren := ⟨fun | 68 => 86 | n => n, fun | 23 => 2 | 4 => 4 | n => n, fun | n => n⟩
theorem Tryz.laysSlN68_f86 : Go.Proofs.SlLaysN.n68 Tryz.prog Tryz.laysSlN68_f86_ren := {
  mixed := by kernel_rfl
  f68 := ⟨Tryz.f86.name, by decide, Tryz.func86.trans (congrArg some (by kernel_rfl))⟩
  t4 := Tryz.underlying4
  a4 := Tryz.isAgg4
  z4 := Tryz.sizeOf4
  v4 := Tryz.zeroValue4
  t23 := Tryz.underlying2
  a23 := Tryz.isAgg2
  z23 := Tryz.sizeOf2
  v23 := Tryz.zeroValue2 }
open Go.RowKit Go.Lib in
/-- cmp.isNaN[int]: 'x != x': false. (LAID AT THE INSTANCE 'cmp.isNaN[int64]': no walk: one application.) -/
theorem Tryz.cmp_isNaN_int2_f86 (x : Int) (w : World) :
    Calls Tryz.prog 86 #[.int .i64 x] w fun e w' => e = .returned (.bool false) ∧ w' = w := AnyG.cmp_isNaN_int2 Tryz.laysSlN68_f86 x w
end Go.Proofs
