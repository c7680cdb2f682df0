/-
  slices.Sort and slices.Compact at ints: the library's own contracts at this program's numbers. (The laying was printed by the kit's lay-plain.mjs for the seat Ytbiedadgejgnoaa.)
-/
import Derived.Shelf.Sort.Plain
import Derived.Shelf.Slices.CompactI
import Derived.Shelf.Slices.In.SortNone
import Derived.Test.YtdhiefgbajogcaaProg
namespace Go.Proofs.Ytdhiefgbajogcaa
open Go.Shelf
def srtInts_ren : Go.Shelf.Ren := ⟨fun | 189 => 73 | 125 => 92 | 257 => 91 | 128 => 109 | 129 => 110 | 294 => 100 | 295 => 101 | 296 => 102 | 297 => 103 | 298 => 104 | 299 => 105 | 216 => 106 | 300 => 107 | 301 => 108 | 328 => 115 | 329 => 116 | 330 => 117 | 331 => 118 | 332 => 119 | 215 => 68 | 343 => 122 | n => n, fun | 28 => 23 | 3 => 3 | 46 => 125 | 0 => 0 | 51 => 139 | 53 => 141 | 4 => 4 | 183 => 133 | 182 => 132 | 131 => 54 | 5 => 5 | 9 => 9 | 218 => 146 | 222 => 150 | 228 => 152 | 229 => 45 | n => n, fun | n => n⟩
theorem srtInts : Go.Proofs.Lays.n189 Try.prog srtInts_ren := {
  mixed := by kernel_rfl,
  f125 := Try.func92.trans (congrArg some (by kernel_rfl)),
  f128 := Try.func109.trans (congrArg some (by kernel_rfl)),
  f129 := Try.func110.trans (congrArg some (by kernel_rfl)),
  f189 := Try.func73.trans (congrArg some (by kernel_rfl)),
  f215 := Try.func68.trans (congrArg some (by kernel_rfl)),
  f216 := Try.func106.trans (congrArg some (by kernel_rfl)),
  f257 := Try.func91.trans (congrArg some (by kernel_rfl)),
  f294 := Try.func100.trans (congrArg some (by kernel_rfl)),
  f295 := Try.func101.trans (congrArg some (by kernel_rfl)),
  f296 := Try.func102.trans (congrArg some (by kernel_rfl)),
  f297 := Try.func103.trans (congrArg some (by kernel_rfl)),
  f298 := Try.func104.trans (congrArg some (by kernel_rfl)),
  f299 := Try.func105.trans (congrArg some (by kernel_rfl)),
  f300 := Try.func107.trans (congrArg some (by kernel_rfl)),
  f301 := Try.func108.trans (congrArg some (by kernel_rfl)),
  f328 := Try.func115.trans (congrArg some (by kernel_rfl)),
  f329 := Try.func116.trans (congrArg some (by kernel_rfl)),
  f330 := Try.func117.trans (congrArg some (by kernel_rfl)),
  f331 := Try.func118.trans (congrArg some (by kernel_rfl)),
  f332 := Try.func119.trans (congrArg some (by kernel_rfl)),
  f343 := Try.func122.trans (congrArg some (by kernel_rfl)),
  t0 := Try.underlying0,
  a0 := Try.isAgg0,
  z0 := Try.sizeOf0,
  v0 := Try.zeroValue0,
  t3 := Try.underlying3,
  a3 := Try.isAgg3,
  z3 := Try.sizeOf3,
  v3 := Try.zeroValue3,
  t4 := Try.underlying4,
  a4 := Try.isAgg4,
  z4 := Try.sizeOf4,
  v4 := Try.zeroValue4,
  t5 := Try.underlying5,
  a5 := Try.isAgg5,
  z5 := Try.sizeOf5,
  v5 := Try.zeroValue5,
  t9 := Try.underlying9,
  a9 := Try.isAgg9,
  z9 := Try.sizeOf9,
  v9 := Try.zeroValue9,
  t28 := Try.underlying23,
  a28 := Try.isAgg23,
  z28 := Try.sizeOf23,
  v28 := Try.zeroValue23,
  t46 := Try.underlying125,
  a46 := Try.isAgg125,
  z46 := Try.sizeOf125,
  v46 := Try.zeroValue125,
  t51 := Try.underlying139,
  a51 := Try.isAgg139,
  z51 := Try.sizeOf139,
  v51 := Try.zeroValue139,
  t53 := Try.underlying141,
  a53 := Try.isAgg141,
  z53 := Try.sizeOf141,
  v53 := Try.zeroValue141,
  t131 := Try.underlying54,
  a131 := Try.isAgg54,
  z131 := Try.sizeOf54,
  v131 := Try.zeroValue54,
  t182 := Try.underlying132,
  a182 := Try.isAgg132,
  z182 := Try.sizeOf132,
  v182 := Try.zeroValue132,
  t183 := Try.underlying133,
  a183 := Try.isAgg133,
  z183 := Try.sizeOf133,
  v183 := Try.zeroValue133,
  t218 := Try.underlying146,
  a218 := Try.isAgg146,
  z218 := Try.sizeOf146,
  v218 := Try.zeroValue146,
  t222 := Try.underlying150,
  a222 := Try.isAgg150,
  z222 := Try.sizeOf150,
  v222 := Try.zeroValue150,
  t228 := Try.underlying152,
  a228 := Try.isAgg152,
  z228 := Try.sizeOf152,
  v228 := Try.zeroValue152,
  t229 := Try.underlying45,
  a229 := Try.isAgg45,
  z229 := Try.sizeOf45,
  v229 := Try.zeroValue45 }
open Go.Sort Go.RowKit in
theorem slices_Sort_int (blk off cap : Nat) (zs : List Int) (w : World) (hH : Holds (Value.int .i64) w blk off zs.toArray) (hblk : blk < w.heap.size) (hsz : zs.length < 4611686018427387904) :
    Calls Try.prog 73 #[.slice (some ⟨blk, off, none⟩) zs.length cap] w fun e w' =>
      e = .returned (.tuple #[]) ∧ ∃ n os, w' = grow (putRow (Value.int .i64) (Sort.ahead w n) blk off (zs.mergeSort fun x y => decide (x ≤ y)).toArray) os := Any.slices_Sort_int srtInts blk off cap zs w hH hblk hsz
def cmpInts_ren : Go.Shelf.Ren := ⟨fun | 20 => 74 | n => n, fun | 22 => 23 | 3 => 3 | 4 => 4 | 0 => 0 | n => n, fun | n => n⟩
theorem cmpInts : Go.Proofs.Lays2.n20 Try.prog cmpInts_ren := {
  mixed := by kernel_rfl,
  f20 := Try.func74.trans (congrArg some (by kernel_rfl)),
  t0 := Try.underlying0,
  a0 := Try.isAgg0,
  z0 := Try.sizeOf0,
  v0 := Try.zeroValue0,
  t3 := Try.underlying3,
  a3 := Try.isAgg3,
  z3 := Try.sizeOf3,
  v3 := Try.zeroValue3,
  t4 := Try.underlying4,
  a4 := Try.isAgg4,
  z4 := Try.sizeOf4,
  v4 := Try.zeroValue4,
  t22 := Try.underlying23,
  a22 := Try.isAgg23,
  z22 := Try.sizeOf23,
  v22 := Try.zeroValue23,
  i3 := by kernel_rfl }
open Go.RowKit Go.Lib Go.Sort in
theorem slices_Compact_int (blk off cap : Nat) (zs : List Int) (w : World) (hH : Holds (Value.int .i64) w blk off zs.toArray) (hsz : zs.length ≤ 9223372036854775807) (hcap : zs.length ≤ cap) :
    Calls Try.prog 74 #[.slice (some ⟨blk, off, none⟩) zs.length cap] w fun e w' => e = .returned (.slice (some ⟨blk, off, none⟩) (Lib.compact zs).length cap) ∧ ∃ q, w' = putRow (Value.int .i64) (Sort.ahead w q) blk off (Lib.compact zs ++ List.replicate (zs.length - (Lib.compact zs).length) 0).toArray := Any.slices_Compact_int cmpInts blk off cap zs w hH hsz hcap
open Go.RowKit Go.Sort in
theorem slices_Sort_int_none (p : Option Addr) (cap : Nat) (w : World) :
    Calls Try.prog 73 #[.slice p 0 cap] w fun e w' => e = .returned (.tuple #[]) ∧ w' = w := Any.slices_Sort_int_none srtInts p cap w

end Go.Proofs.Ytdhiefgbajogcaa
