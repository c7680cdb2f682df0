/-
  slices.Sort and slices.Compact at ints: the library's own contracts at this program's numbers. (The laying was printed by the kit's lay-plain.mjs for the seat Ytbiedadgejgnoaa.)
-/
import Derived.Shelf.Sort.Plain
import Derived.Shelf.Slices.CompactI
import Derived.Shelf.Slices.In.SortNone
import Derived.Test.YtkcmkpljpmfiaaaDoorProg
namespace Go.Proofs.YtkcmkpljpmfiaaaDoor
open Go.Shelf
def srtInts_ren : Go.Shelf.Ren := ⟨fun | 189 => 46 | 125 => 29 | 257 => 56 | 128 => 42 | 129 => 43 | 294 => 71 | 295 => 72 | 296 => 73 | 297 => 74 | 298 => 75 | 299 => 76 | 216 => 77 | 300 => 78 | 301 => 79 | 328 => 85 | 329 => 49 | 330 => 50 | 331 => 86 | 332 => 87 | 215 => 30 | 343 => 89 | n => n, fun | 28 => 22 | 3 => 3 | 46 => 67 | 0 => 0 | 51 => 79 | 53 => 81 | 4 => 4 | 183 => 72 | 182 => 71 | 131 => 76 | 5 => 5 | 9 => 9 | 218 => 92 | 222 => 96 | 228 => 109 | 229 => 110 | n => n, fun | n => n⟩
theorem srtInts : Go.Proofs.Lays.n189 Tryd.prog srtInts_ren := {
  mixed := by kernel_rfl,
  f125 := Tryd.func29.trans (congrArg some (by kernel_rfl)),
  f128 := Tryd.func42.trans (congrArg some (by kernel_rfl)),
  f129 := Tryd.func43.trans (congrArg some (by kernel_rfl)),
  f189 := Tryd.func46.trans (congrArg some (by kernel_rfl)),
  f215 := Tryd.func30.trans (congrArg some (by kernel_rfl)),
  f216 := Tryd.func77.trans (congrArg some (by kernel_rfl)),
  f257 := Tryd.func56.trans (congrArg some (by kernel_rfl)),
  f294 := Tryd.func71.trans (congrArg some (by kernel_rfl)),
  f295 := Tryd.func72.trans (congrArg some (by kernel_rfl)),
  f296 := Tryd.func73.trans (congrArg some (by kernel_rfl)),
  f297 := Tryd.func74.trans (congrArg some (by kernel_rfl)),
  f298 := Tryd.func75.trans (congrArg some (by kernel_rfl)),
  f299 := Tryd.func76.trans (congrArg some (by kernel_rfl)),
  f300 := Tryd.func78.trans (congrArg some (by kernel_rfl)),
  f301 := Tryd.func79.trans (congrArg some (by kernel_rfl)),
  f328 := Tryd.func85.trans (congrArg some (by kernel_rfl)),
  f329 := Tryd.func49.trans (congrArg some (by kernel_rfl)),
  f330 := Tryd.func50.trans (congrArg some (by kernel_rfl)),
  f331 := Tryd.func86.trans (congrArg some (by kernel_rfl)),
  f332 := Tryd.func87.trans (congrArg some (by kernel_rfl)),
  f343 := Tryd.func89.trans (congrArg some (by kernel_rfl)),
  t0 := Tryd.underlying0,
  a0 := Tryd.isAgg0,
  z0 := Tryd.sizeOf0,
  v0 := Tryd.zeroValue0,
  t3 := Tryd.underlying3,
  a3 := Tryd.isAgg3,
  z3 := Tryd.sizeOf3,
  v3 := Tryd.zeroValue3,
  t4 := Tryd.underlying4,
  a4 := Tryd.isAgg4,
  z4 := Tryd.sizeOf4,
  v4 := Tryd.zeroValue4,
  t5 := Tryd.underlying5,
  a5 := Tryd.isAgg5,
  z5 := Tryd.sizeOf5,
  v5 := Tryd.zeroValue5,
  t9 := Tryd.underlying9,
  a9 := Tryd.isAgg9,
  z9 := Tryd.sizeOf9,
  v9 := Tryd.zeroValue9,
  t28 := Tryd.underlying22,
  a28 := Tryd.isAgg22,
  z28 := Tryd.sizeOf22,
  v28 := Tryd.zeroValue22,
  t46 := Tryd.underlying67,
  a46 := Tryd.isAgg67,
  z46 := Tryd.sizeOf67,
  v46 := Tryd.zeroValue67,
  t51 := Tryd.underlying79,
  a51 := Tryd.isAgg79,
  z51 := Tryd.sizeOf79,
  v51 := Tryd.zeroValue79,
  t53 := Tryd.underlying81,
  a53 := Tryd.isAgg81,
  z53 := Tryd.sizeOf81,
  v53 := Tryd.zeroValue81,
  t131 := Tryd.underlying76,
  a131 := Tryd.isAgg76,
  z131 := Tryd.sizeOf76,
  v131 := Tryd.zeroValue76,
  t182 := Tryd.underlying71,
  a182 := Tryd.isAgg71,
  z182 := Tryd.sizeOf71,
  v182 := Tryd.zeroValue71,
  t183 := Tryd.underlying72,
  a183 := Tryd.isAgg72,
  z183 := Tryd.sizeOf72,
  v183 := Tryd.zeroValue72,
  t218 := Tryd.underlying92,
  a218 := Tryd.isAgg92,
  z218 := Tryd.sizeOf92,
  v218 := Tryd.zeroValue92,
  t222 := Tryd.underlying96,
  a222 := Tryd.isAgg96,
  z222 := Tryd.sizeOf96,
  v222 := Tryd.zeroValue96,
  t228 := Tryd.underlying109,
  a228 := Tryd.isAgg109,
  z228 := Tryd.sizeOf109,
  v228 := Tryd.zeroValue109,
  t229 := Tryd.underlying110,
  a229 := Tryd.isAgg110,
  z229 := Tryd.sizeOf110,
  v229 := Tryd.zeroValue110 }
open Go.Sort Go.RowKit in
theorem slices_Sort_int (blk off cap : Nat) (zs : List Int) (w : World) (hH : Holds (Value.int .i64) w blk off zs.toArray) (hblk : blk < w.heap.size) (hsz : zs.length < 4611686018427387904) :
    Calls Tryd.prog 46 #[.slice (some ⟨blk, off, none⟩) zs.length cap] w fun e w' =>
      e = .returned (.tuple #[]) ∧ ∃ n os, w' = grow (putRow (Value.int .i64) (Sort.ahead w n) blk off (zs.mergeSort fun x y => decide (x ≤ y)).toArray) os := Any.slices_Sort_int srtInts blk off cap zs w hH hblk hsz
def cmpInts_ren : Go.Shelf.Ren := ⟨fun | 20 => 47 | n => n, fun | 22 => 22 | 3 => 3 | 4 => 4 | 0 => 0 | n => n, fun | n => n⟩
theorem cmpInts : Go.Proofs.Lays2.n20 Tryd.prog cmpInts_ren := {
  mixed := by kernel_rfl,
  f20 := Tryd.func47.trans (congrArg some (by kernel_rfl)),
  t0 := Tryd.underlying0,
  a0 := Tryd.isAgg0,
  z0 := Tryd.sizeOf0,
  v0 := Tryd.zeroValue0,
  t3 := Tryd.underlying3,
  a3 := Tryd.isAgg3,
  z3 := Tryd.sizeOf3,
  v3 := Tryd.zeroValue3,
  t4 := Tryd.underlying4,
  a4 := Tryd.isAgg4,
  z4 := Tryd.sizeOf4,
  v4 := Tryd.zeroValue4,
  t22 := Tryd.underlying22,
  a22 := Tryd.isAgg22,
  z22 := Tryd.sizeOf22,
  v22 := Tryd.zeroValue22,
  i3 := by kernel_rfl }
open Go.RowKit Go.Lib Go.Sort in
theorem slices_Compact_int (blk off cap : Nat) (zs : List Int) (w : World) (hH : Holds (Value.int .i64) w blk off zs.toArray) (hsz : zs.length ≤ 9223372036854775807) (hcap : zs.length ≤ cap) :
    Calls Tryd.prog 47 #[.slice (some ⟨blk, off, none⟩) zs.length cap] w fun e w' => e = .returned (.slice (some ⟨blk, off, none⟩) (Lib.compact zs).length cap) ∧ ∃ q, w' = putRow (Value.int .i64) (Sort.ahead w q) blk off (Lib.compact zs ++ List.replicate (zs.length - (Lib.compact zs).length) 0).toArray := Any.slices_Compact_int cmpInts blk off cap zs w hH hsz hcap
open Go.RowKit Go.Sort in
theorem slices_Sort_int_none (p : Option Addr) (cap : Nat) (w : World) :
    Calls Tryd.prog 46 #[.slice p 0 cap] w fun e w' => e = .returned (.tuple #[]) ∧ w' = w := Any.slices_Sort_int_none srtInts p cap w

end Go.Proofs.YtkcmkpljpmfiaaaDoor
