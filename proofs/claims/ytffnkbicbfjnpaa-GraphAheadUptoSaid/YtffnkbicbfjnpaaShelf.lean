/-
  DERIVED: THE SHELF's CONTRACTS AT THIS DUMP, IN PLAIN WORDS (tools/lay-plain.mjs out of 'YtffnkbicbfjnpaaShelfLay.lean', which tools/lay-shelf.mjs wrote): THE SAME DECLARATIONS UNDER THE SAME NAMES: 'import', 'namespace', 'open', 'def', 'theorem' AND NOTHING ELSE: no command of the shelf's: FOR A HAND-IN. Each laying: the table of numbers ('.._ren') and one theorem, a field a fact of the dump's own or the kernel's comparison; each contract: ONE APPLICATION.
-/
import Derived.Shelf.Sort.Plain
import Derived.Shelf.Slices.Reverse
import Derived.Shelf.Slices.In.SortNone
import Derived.Shelf.Slices.Empties
import Derived.Test.YtffnkbicbfjnpaaProg
namespace Go.Proofs
open Go.Shelf
def Try.lays189_ren : Go.Shelf.Ren := ⟨fun | 189 => 41 | 125 => 89 | 257 => 88 | 128 => 120 | 129 => 121 | 294 => 112 | 295 => 113 | 296 => 114 | 297 => 115 | 298 => 116 | 299 => 117 | 216 => 100 | 300 => 118 | 301 => 119 | 328 => 131 | 329 => 132 | 330 => 133 | 331 => 134 | 332 => 135 | 215 => 127 | 343 => 136 | n => n, fun | 28 => 40 | 3 => 3 | 46 => 144 | 0 => 0 | 51 => 180 | 53 => 182 | 4 => 4 | 183 => 174 | 182 => 173 | 131 => 45 | 5 => 5 | 9 => 9 | 218 => 190 | 222 => 194 | 228 => 196 | 229 => 197 | n => n, fun | n => n⟩
theorem Try.lays189 : Go.Proofs.Lays.n189 Try.prog Try.lays189_ren := {
  mixed := by kernel_rfl
  f125 := Try.func89.trans (congrArg some (by kernel_rfl))
  f128 := Try.func120.trans (congrArg some (by kernel_rfl))
  f129 := Try.func121.trans (congrArg some (by kernel_rfl))
  f189 := Try.func41.trans (congrArg some (by kernel_rfl))
  f215 := Try.func127.trans (congrArg some (by kernel_rfl))
  f216 := Try.func100.trans (congrArg some (by kernel_rfl))
  f257 := Try.func88.trans (congrArg some (by kernel_rfl))
  f294 := Try.func112.trans (congrArg some (by kernel_rfl))
  f295 := Try.func113.trans (congrArg some (by kernel_rfl))
  f296 := Try.func114.trans (congrArg some (by kernel_rfl))
  f297 := Try.func115.trans (congrArg some (by kernel_rfl))
  f298 := Try.func116.trans (congrArg some (by kernel_rfl))
  f299 := Try.func117.trans (congrArg some (by kernel_rfl))
  f300 := Try.func118.trans (congrArg some (by kernel_rfl))
  f301 := Try.func119.trans (congrArg some (by kernel_rfl))
  f328 := Try.func131.trans (congrArg some (by kernel_rfl))
  f329 := Try.func132.trans (congrArg some (by kernel_rfl))
  f330 := Try.func133.trans (congrArg some (by kernel_rfl))
  f331 := Try.func134.trans (congrArg some (by kernel_rfl))
  f332 := Try.func135.trans (congrArg some (by kernel_rfl))
  f343 := Try.func136.trans (congrArg some (by kernel_rfl))
  t0 := Try.underlying0
  a0 := Try.isAgg0
  z0 := Try.sizeOf0
  v0 := Try.zeroValue0
  t3 := Try.underlying3
  a3 := Try.isAgg3
  z3 := Try.sizeOf3
  v3 := Try.zeroValue3
  t4 := Try.underlying4
  a4 := Try.isAgg4
  z4 := Try.sizeOf4
  v4 := Try.zeroValue4
  t5 := Try.underlying5
  a5 := Try.isAgg5
  z5 := Try.sizeOf5
  v5 := Try.zeroValue5
  t9 := Try.underlying9
  a9 := Try.isAgg9
  z9 := Try.sizeOf9
  v9 := Try.zeroValue9
  t28 := Try.underlying40
  a28 := Try.isAgg40
  z28 := Try.sizeOf40
  v28 := Try.zeroValue40
  t46 := Try.underlying144
  a46 := Try.isAgg144
  z46 := Try.sizeOf144
  v46 := Try.zeroValue144
  t51 := Try.underlying180
  a51 := Try.isAgg180
  z51 := Try.sizeOf180
  v51 := Try.zeroValue180
  t53 := Try.underlying182
  a53 := Try.isAgg182
  z53 := Try.sizeOf182
  v53 := Try.zeroValue182
  t131 := Try.underlying45
  a131 := Try.isAgg45
  z131 := Try.sizeOf45
  v131 := Try.zeroValue45
  t182 := Try.underlying173
  a182 := Try.isAgg173
  z182 := Try.sizeOf173
  v182 := Try.zeroValue173
  t183 := Try.underlying174
  a183 := Try.isAgg174
  z183 := Try.sizeOf174
  v183 := Try.zeroValue174
  t218 := Try.underlying190
  a218 := Try.isAgg190
  z218 := Try.sizeOf190
  v218 := Try.zeroValue190
  t222 := Try.underlying194
  a222 := Try.isAgg194
  z222 := Try.sizeOf194
  v222 := Try.zeroValue194
  t228 := Try.underlying196
  a228 := Try.isAgg196
  z228 := Try.sizeOf196
  v228 := Try.zeroValue196
  t229 := Try.underlying197
  a229 := Try.isAgg197
  z229 := Try.sizeOf197
  v229 := Try.zeroValue197 }
open Go.Sort Go.RowKit in
theorem Try.slices_Sort_int (blk off cap : Nat) (zs : List Int) (w : World) (hH : Holds (Value.int .i64) w blk off zs.toArray) (hblk : blk < w.heap.size) (hsz : zs.length < 4611686018427387904) :
    Calls Try.prog 41 #[.slice (some ⟨blk, off, none⟩) zs.length cap] w fun e w' =>
      e = .returned (.tuple #[]) ∧ ∃ n os, w' = grow (putRow (Value.int .i64) (Sort.ahead w n) blk off (zs.mergeSort fun x y => decide (x ≤ y)).toArray) os := Any.slices_Sort_int Try.lays189 blk off cap zs w hH hblk hsz
def Try.lays112_ren : Go.Shelf.Ren := ⟨fun | 112 => 82 | n => n, fun | 28 => 40 | 3 => 3 | 4 => 4 | 0 => 0 | n => n, fun | n => n⟩
theorem Try.lays112 : Go.Proofs.Lays.n112 Try.prog Try.lays112_ren := {
  mixed := by kernel_rfl
  f112 := Try.func82.trans (congrArg some (by kernel_rfl))
  t0 := Try.underlying0
  a0 := Try.isAgg0
  z0 := Try.sizeOf0
  v0 := Try.zeroValue0
  t3 := Try.underlying3
  a3 := Try.isAgg3
  z3 := Try.sizeOf3
  v3 := Try.zeroValue3
  t4 := Try.underlying4
  a4 := Try.isAgg4
  z4 := Try.sizeOf4
  v4 := Try.zeroValue4
  t28 := Try.underlying40
  a28 := Try.isAgg40
  z28 := Try.sizeOf40
  v28 := Try.zeroValue40 }
open Go.RowKit Go.Lib Go.Sort in
/-- slices.Reverse at []int: "Reverse reverses the elements of the slice in place.": THE SLICE's CELLS HOLD 'zs.reverse' BEHIND THE CALL; all else is as it was, but for the count of draws (the exchange 's[i], s[j] = s[j], s[i]' draws its order, once a round). IN THE WORDS OF slices.Sort's CONTRACT: 'Holds': the cells hold zs and none is frozen; 'putRow': the world with those cells holding another array. A slice of length 0 that is not nil is among them ('zs = []'); nil: '.._nil'. (LAID: no walk: one application.) -/
theorem Try.slices_Reverse_int (blk off cap : Nat) (zs : List Int) (w : World) (hH : Holds (Value.int .i64) w blk off zs.toArray) (hsz : zs.length ≤ 9223372036854775807) :
    Calls Try.prog 82 #[.slice (some ⟨blk, off, none⟩) zs.length cap] w fun e w' => e = .returned (.tuple #[]) ∧ ∃ n, w' = putRow (Value.int .i64) (Sort.ahead w n) blk off zs.reverse.toArray := Any.slices_Reverse_int Try.lays112 blk off cap zs w hH hsz
open Go.RowKit Go.Lib Go.Sort in
/-- The same at a slice of length 0, a nil one too: nothing is read, nothing written, nothing drawn. (LAID: no walk: one application.) -/
theorem Try.slices_Reverse_int_empty (a : Option Addr) (cap : Nat) (w : World) :
    Calls Try.prog 82 #[.slice a 0 cap] w fun e w' => e = .returned (.tuple #[]) ∧ w' = w := Any.slices_Reverse_int_empty Try.lays112 a cap w
open Go.RowKit Go.Sort in
/-- .. and plain. (LAID: no walk: one application.) -/
theorem Try.slices_Sort_int_none (p : Option Addr) (cap : Nat) (w : World) :
    Calls Try.prog 41 #[.slice p 0 cap] w fun e w' => e = .returned (.tuple #[]) ∧ w' = w := Any.slices_Sort_int_none Try.lays189 p cap w
end Go.Proofs
