/- The library's contracts at this program's numbers. -/
import Derived.Shelf.Sort.Plain
import Derived.Shelf.Slices.In.SortNone
import Derived.Test.YtooaelpfbamebaaProg
namespace Go.Proofs
open Go.Shelf
def Try.lays189_ren : Go.Shelf.Ren := ⟨fun | 189 => 37 | 125 => 52 | 257 => 51 | 128 => 69 | 129 => 70 | 294 => 60 | 295 => 61 | 296 => 62 | 297 => 63 | 298 => 64 | 299 => 65 | 216 => 66 | 300 => 67 | 301 => 68 | 328 => 76 | 329 => 77 | 330 => 78 | 331 => 79 | 332 => 80 | 215 => 81 | 343 => 84 | n => n, fun | 28 => 31 | 3 => 3 | 46 => 101 | 0 => 0 | 51 => 119 | 53 => 38 | 4 => 4 | 183 => 113 | 182 => 112 | 131 => 94 | 5 => 5 | 9 => 9 | 218 => 125 | 222 => 129 | 228 => 133 | 229 => 67 | n => n, fun | n => n⟩
theorem Try.lays189 : Go.Proofs.Lays.n189 Try.prog Try.lays189_ren := {
  mixed := by kernel_rfl
  f125 := Try.func52.trans (congrArg some (by kernel_rfl))
  f128 := Try.func69.trans (congrArg some (by kernel_rfl))
  f129 := Try.func70.trans (congrArg some (by kernel_rfl))
  f189 := Try.func37.trans (congrArg some (by kernel_rfl))
  f215 := Try.func81.trans (congrArg some (by kernel_rfl))
  f216 := Try.func66.trans (congrArg some (by kernel_rfl))
  f257 := Try.func51.trans (congrArg some (by kernel_rfl))
  f294 := Try.func60.trans (congrArg some (by kernel_rfl))
  f295 := Try.func61.trans (congrArg some (by kernel_rfl))
  f296 := Try.func62.trans (congrArg some (by kernel_rfl))
  f297 := Try.func63.trans (congrArg some (by kernel_rfl))
  f298 := Try.func64.trans (congrArg some (by kernel_rfl))
  f299 := Try.func65.trans (congrArg some (by kernel_rfl))
  f300 := Try.func67.trans (congrArg some (by kernel_rfl))
  f301 := Try.func68.trans (congrArg some (by kernel_rfl))
  f328 := Try.func76.trans (congrArg some (by kernel_rfl))
  f329 := Try.func77.trans (congrArg some (by kernel_rfl))
  f330 := Try.func78.trans (congrArg some (by kernel_rfl))
  f331 := Try.func79.trans (congrArg some (by kernel_rfl))
  f332 := Try.func80.trans (congrArg some (by kernel_rfl))
  f343 := Try.func84.trans (congrArg some (by kernel_rfl))
  t0 := Try.underlying0
  a0 := Try.isAgg0
  z0 := Try.sizeOf0
  v0 := Try.zeroValue0
  t3 := Try.underlying3
  a3 := Try.isAgg3
  z3 := Try.sizeOf3
  v3 := Try.zeroValue3
  t4 := Try.underlying4
  a4 := Try.isAgg4
  z4 := Try.sizeOf4
  v4 := Try.zeroValue4
  t5 := Try.underlying5
  a5 := Try.isAgg5
  z5 := Try.sizeOf5
  v5 := Try.zeroValue5
  t9 := Try.underlying9
  a9 := Try.isAgg9
  z9 := Try.sizeOf9
  v9 := Try.zeroValue9
  t28 := Try.underlying31
  a28 := Try.isAgg31
  z28 := Try.sizeOf31
  v28 := Try.zeroValue31
  t46 := Try.underlying101
  a46 := Try.isAgg101
  z46 := Try.sizeOf101
  v46 := Try.zeroValue101
  t51 := Try.underlying119
  a51 := Try.isAgg119
  z51 := Try.sizeOf119
  v51 := Try.zeroValue119
  t53 := Try.underlying38
  a53 := Try.isAgg38
  z53 := Try.sizeOf38
  v53 := Try.zeroValue38
  t131 := Try.underlying94
  a131 := Try.isAgg94
  z131 := Try.sizeOf94
  v131 := Try.zeroValue94
  t182 := Try.underlying112
  a182 := Try.isAgg112
  z182 := Try.sizeOf112
  v182 := Try.zeroValue112
  t183 := Try.underlying113
  a183 := Try.isAgg113
  z183 := Try.sizeOf113
  v183 := Try.zeroValue113
  t218 := Try.underlying125
  a218 := Try.isAgg125
  z218 := Try.sizeOf125
  v218 := Try.zeroValue125
  t222 := Try.underlying129
  a222 := Try.isAgg129
  z222 := Try.sizeOf129
  v222 := Try.zeroValue129
  t228 := Try.underlying133
  a228 := Try.isAgg133
  z228 := Try.sizeOf133
  v228 := Try.zeroValue133
  t229 := Try.underlying67
  a229 := Try.isAgg67
  z229 := Try.sizeOf67
  v229 := Try.zeroValue67 }
open Go.Sort Go.RowKit in
theorem Try.slices_Sort_int (blk off cap : Nat) (zs : List Int) (w : World) (hH : Holds (Value.int .i64) w blk off zs.toArray) (hblk : blk < w.heap.size) (hsz : zs.length < 4611686018427387904) :
    Calls Try.prog 37 #[.slice (some ⟨blk, off, none⟩) zs.length cap] w fun e w' =>
      e = .returned (.tuple #[]) ∧ ∃ n os, w' = grow (putRow (Value.int .i64) (Sort.ahead w n) blk off (zs.mergeSort fun x y => decide (x ≤ y)).toArray) os := Any.slices_Sort_int Try.lays189 blk off cap zs w hH hblk hsz
open Go.RowKit Go.Sort in
theorem Try.slices_Sort_int_none (p : Option Addr) (cap : Nat) (w : World) :
    Calls Try.prog 37 #[.slice p 0 cap] w fun e w' => e = .returned (.tuple #[]) ∧ w' = w := Any.slices_Sort_int_none Try.lays189 p cap w
end Go.Proofs
