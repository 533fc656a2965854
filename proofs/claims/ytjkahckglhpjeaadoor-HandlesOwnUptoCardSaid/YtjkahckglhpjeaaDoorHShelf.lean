/- The library sort at numbers, by its contract off the shelf. -/
import Derived.Shelf.Sort.Plain
import Derived.Shelf.Slices.SearchI
import Derived.Shelf.Slices.In.SortNone
import Derived.Test.YtjkahckglhpjeaaDoorProg
namespace Go.Proofs
open Go.Shelf
def Tryd.lays189_ren : Go.Shelf.Ren := ⟨fun | 189 => 22 | 125 => 30 | 257 => 29 | 128 => 43 | 129 => 44 | 294 => 34 | 295 => 35 | 296 => 36 | 297 => 37 | 298 => 38 | 299 => 39 | 216 => 40 | 300 => 41 | 301 => 42 | 328 => 45 | 329 => 46 | 330 => 47 | 331 => 48 | 332 => 49 | 215 => 50 | 343 => 51 | n => n, fun | 28 => 36 | 3 => 3 | 46 => 75 | 0 => 0 | 51 => 26 | 53 => 91 | 4 => 4 | 183 => 83 | 182 => 82 | 131 => 50 | 5 => 5 | 9 => 9 | 218 => 103 | 222 => 107 | 228 => 109 | 229 => 110 | n => n, fun | n => n⟩
theorem Tryd.lays189 : Go.Proofs.Lays.n189 Tryd.prog Tryd.lays189_ren := {
  mixed := by kernel_rfl
  f125 := Tryd.func30.trans (congrArg some (by kernel_rfl))
  f128 := Tryd.func43.trans (congrArg some (by kernel_rfl))
  f129 := Tryd.func44.trans (congrArg some (by kernel_rfl))
  f189 := Tryd.func22.trans (congrArg some (by kernel_rfl))
  f215 := Tryd.func50.trans (congrArg some (by kernel_rfl))
  f216 := Tryd.func40.trans (congrArg some (by kernel_rfl))
  f257 := Tryd.func29.trans (congrArg some (by kernel_rfl))
  f294 := Tryd.func34.trans (congrArg some (by kernel_rfl))
  f295 := Tryd.func35.trans (congrArg some (by kernel_rfl))
  f296 := Tryd.func36.trans (congrArg some (by kernel_rfl))
  f297 := Tryd.func37.trans (congrArg some (by kernel_rfl))
  f298 := Tryd.func38.trans (congrArg some (by kernel_rfl))
  f299 := Tryd.func39.trans (congrArg some (by kernel_rfl))
  f300 := Tryd.func41.trans (congrArg some (by kernel_rfl))
  f301 := Tryd.func42.trans (congrArg some (by kernel_rfl))
  f328 := Tryd.func45.trans (congrArg some (by kernel_rfl))
  f329 := Tryd.func46.trans (congrArg some (by kernel_rfl))
  f330 := Tryd.func47.trans (congrArg some (by kernel_rfl))
  f331 := Tryd.func48.trans (congrArg some (by kernel_rfl))
  f332 := Tryd.func49.trans (congrArg some (by kernel_rfl))
  f343 := Tryd.func51.trans (congrArg some (by kernel_rfl))
  t0 := Tryd.underlying0
  a0 := Tryd.isAgg0
  z0 := Tryd.sizeOf0
  v0 := Tryd.zeroValue0
  t3 := Tryd.underlying3
  a3 := Tryd.isAgg3
  z3 := Tryd.sizeOf3
  v3 := Tryd.zeroValue3
  t4 := Tryd.underlying4
  a4 := Tryd.isAgg4
  z4 := Tryd.sizeOf4
  v4 := Tryd.zeroValue4
  t5 := Tryd.underlying5
  a5 := Tryd.isAgg5
  z5 := Tryd.sizeOf5
  v5 := Tryd.zeroValue5
  t9 := Tryd.underlying9
  a9 := Tryd.isAgg9
  z9 := Tryd.sizeOf9
  v9 := Tryd.zeroValue9
  t28 := Tryd.underlying36
  a28 := Tryd.isAgg36
  z28 := Tryd.sizeOf36
  v28 := Tryd.zeroValue36
  t46 := Tryd.underlying75
  a46 := Tryd.isAgg75
  z46 := Tryd.sizeOf75
  v46 := Tryd.zeroValue75
  t51 := Tryd.underlying26
  a51 := Tryd.isAgg26
  z51 := Tryd.sizeOf26
  v51 := Tryd.zeroValue26
  t53 := Tryd.underlying91
  a53 := Tryd.isAgg91
  z53 := Tryd.sizeOf91
  v53 := Tryd.zeroValue91
  t131 := Tryd.underlying50
  a131 := Tryd.isAgg50
  z131 := Tryd.sizeOf50
  v131 := Tryd.zeroValue50
  t182 := Tryd.underlying82
  a182 := Tryd.isAgg82
  z182 := Tryd.sizeOf82
  v182 := Tryd.zeroValue82
  t183 := Tryd.underlying83
  a183 := Tryd.isAgg83
  z183 := Tryd.sizeOf83
  v183 := Tryd.zeroValue83
  t218 := Tryd.underlying103
  a218 := Tryd.isAgg103
  z218 := Tryd.sizeOf103
  v218 := Tryd.zeroValue103
  t222 := Tryd.underlying107
  a222 := Tryd.isAgg107
  z222 := Tryd.sizeOf107
  v222 := Tryd.zeroValue107
  t228 := Tryd.underlying109
  a228 := Tryd.isAgg109
  z228 := Tryd.sizeOf109
  v228 := Tryd.zeroValue109
  t229 := Tryd.underlying110
  a229 := Tryd.isAgg110
  z229 := Tryd.sizeOf110
  v229 := Tryd.zeroValue110 }
open Go.Sort Go.RowKit in
theorem Tryd.slices_Sort_int (blk off cap : Nat) (zs : List Int) (w : World) (hH : Holds (Value.int .i64) w blk off zs.toArray) (hblk : blk < w.heap.size) (hsz : zs.length < 4611686018427387904) :
    Calls Tryd.prog 22 #[.slice (some ⟨blk, off, none⟩) zs.length cap] w fun e w' =>
      e = .returned (.tuple #[]) ∧ ∃ n os, w' = grow (putRow (Value.int .i64) (Sort.ahead w n) blk off (zs.mergeSort fun x y => decide (x ≤ y)).toArray) os := Any.slices_Sort_int Tryd.lays189 blk off cap zs w hH hblk hsz
open Go.RowKit Go.Sort in
/-- .. and plain. (LAID: no walk: one application.) -/
theorem Tryd.slices_Sort_int_none (p : Option Addr) (cap : Nat) (w : World) :
    Calls Tryd.prog 22 #[.slice p 0 cap] w fun e w' => e = .returned (.tuple #[]) ∧ w' = w := Any.slices_Sort_int_none Tryd.lays189 p cap w
end Go.Proofs
