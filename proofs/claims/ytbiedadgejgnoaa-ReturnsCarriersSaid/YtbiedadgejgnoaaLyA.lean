/-
  slices.Sort and slices.Compact at ints: the library's own contracts at this program's numbers. (The laying was printed by the kit's lay-plain.mjs for the seat Ytbiedadgejgnoaa.)
-/
import Derived.Shelf.Sort.Plain
import Derived.Shelf.Slices.CompactI
import Derived.Shelf.Slices.In.SortNone
import Derived.Test.YtbiedadgejgnoaaProg
namespace Go.Proofs.Ytbiedadgejgnoaa
open Go.Shelf
def srtInts_ren : Go.Shelf.Ren := ⟨fun | 189 => 60 | 125 => 79 | 257 => 81 | 128 => 93 | 129 => 94 | 294 => 95 | 295 => 96 | 296 => 97 | 297 => 98 | 298 => 99 | 299 => 100 | 216 => 101 | 300 => 102 | 301 => 103 | 328 => 113 | 329 => 109 | 330 => 110 | 331 => 114 | 332 => 115 | 215 => 80 | 343 => 119 | n => n, fun | 28 => 22 | 3 => 3 | 46 => 111 | 0 => 0 | 51 => 124 | 53 => 126 | 4 => 4 | 183 => 118 | 182 => 117 | 131 => 36 | 5 => 5 | 9 => 9 | 218 => 135 | 222 => 139 | 228 => 143 | 229 => 101 | n => n, fun | n => n⟩
theorem srtInts : Go.Proofs.Lays.n189 Try.prog srtInts_ren := {
  mixed := by kernel_rfl,
  f125 := Try.func79.trans (congrArg some (by kernel_rfl)),
  f128 := Try.func93.trans (congrArg some (by kernel_rfl)),
  f129 := Try.func94.trans (congrArg some (by kernel_rfl)),
  f189 := Try.func60.trans (congrArg some (by kernel_rfl)),
  f215 := Try.func80.trans (congrArg some (by kernel_rfl)),
  f216 := Try.func101.trans (congrArg some (by kernel_rfl)),
  f257 := Try.func81.trans (congrArg some (by kernel_rfl)),
  f294 := Try.func95.trans (congrArg some (by kernel_rfl)),
  f295 := Try.func96.trans (congrArg some (by kernel_rfl)),
  f296 := Try.func97.trans (congrArg some (by kernel_rfl)),
  f297 := Try.func98.trans (congrArg some (by kernel_rfl)),
  f298 := Try.func99.trans (congrArg some (by kernel_rfl)),
  f299 := Try.func100.trans (congrArg some (by kernel_rfl)),
  f300 := Try.func102.trans (congrArg some (by kernel_rfl)),
  f301 := Try.func103.trans (congrArg some (by kernel_rfl)),
  f328 := Try.func113.trans (congrArg some (by kernel_rfl)),
  f329 := Try.func109.trans (congrArg some (by kernel_rfl)),
  f330 := Try.func110.trans (congrArg some (by kernel_rfl)),
  f331 := Try.func114.trans (congrArg some (by kernel_rfl)),
  f332 := Try.func115.trans (congrArg some (by kernel_rfl)),
  f343 := Try.func119.trans (congrArg some (by kernel_rfl)),
  t0 := Try.underlying0,
  a0 := Try.isAgg0,
  z0 := Try.sizeOf0,
  v0 := Try.zeroValue0,
  t3 := Try.underlying3,
  a3 := Try.isAgg3,
  z3 := Try.sizeOf3,
  v3 := Try.zeroValue3,
  t4 := Try.underlying4,
  a4 := Try.isAgg4,
  z4 := Try.sizeOf4,
  v4 := Try.zeroValue4,
  t5 := Try.underlying5,
  a5 := Try.isAgg5,
  z5 := Try.sizeOf5,
  v5 := Try.zeroValue5,
  t9 := Try.underlying9,
  a9 := Try.isAgg9,
  z9 := Try.sizeOf9,
  v9 := Try.zeroValue9,
  t28 := Try.underlying22,
  a28 := Try.isAgg22,
  z28 := Try.sizeOf22,
  v28 := Try.zeroValue22,
  t46 := Try.underlying111,
  a46 := Try.isAgg111,
  z46 := Try.sizeOf111,
  v46 := Try.zeroValue111,
  t51 := Try.underlying124,
  a51 := Try.isAgg124,
  z51 := Try.sizeOf124,
  v51 := Try.zeroValue124,
  t53 := Try.underlying126,
  a53 := Try.isAgg126,
  z53 := Try.sizeOf126,
  v53 := Try.zeroValue126,
  t131 := Try.underlying36,
  a131 := Try.isAgg36,
  z131 := Try.sizeOf36,
  v131 := Try.zeroValue36,
  t182 := Try.underlying117,
  a182 := Try.isAgg117,
  z182 := Try.sizeOf117,
  v182 := Try.zeroValue117,
  t183 := Try.underlying118,
  a183 := Try.isAgg118,
  z183 := Try.sizeOf118,
  v183 := Try.zeroValue118,
  t218 := Try.underlying135,
  a218 := Try.isAgg135,
  z218 := Try.sizeOf135,
  v218 := Try.zeroValue135,
  t222 := Try.underlying139,
  a222 := Try.isAgg139,
  z222 := Try.sizeOf139,
  v222 := Try.zeroValue139,
  t228 := Try.underlying143,
  a228 := Try.isAgg143,
  z228 := Try.sizeOf143,
  v228 := Try.zeroValue143,
  t229 := Try.underlying101,
  a229 := Try.isAgg101,
  z229 := Try.sizeOf101,
  v229 := Try.zeroValue101 }
open Go.Sort Go.RowKit in
theorem slices_Sort_int (blk off cap : Nat) (zs : List Int) (w : World) (hH : Holds (Value.int .i64) w blk off zs.toArray) (hblk : blk < w.heap.size) (hsz : zs.length < 4611686018427387904) :
    Calls Try.prog 60 #[.slice (some ⟨blk, off, none⟩) zs.length cap] w fun e w' =>
      e = .returned (.tuple #[]) ∧ ∃ n os, w' = grow (putRow (Value.int .i64) (Sort.ahead w n) blk off (zs.mergeSort fun x y => decide (x ≤ y)).toArray) os := Any.slices_Sort_int srtInts blk off cap zs w hH hblk hsz
def cmpInts_ren : Go.Shelf.Ren := ⟨fun | 20 => 61 | n => n, fun | 22 => 22 | 3 => 3 | 4 => 4 | 0 => 0 | n => n, fun | n => n⟩
theorem cmpInts : Go.Proofs.Lays2.n20 Try.prog cmpInts_ren := {
  mixed := by kernel_rfl,
  f20 := Try.func61.trans (congrArg some (by kernel_rfl)),
  t0 := Try.underlying0,
  a0 := Try.isAgg0,
  z0 := Try.sizeOf0,
  v0 := Try.zeroValue0,
  t3 := Try.underlying3,
  a3 := Try.isAgg3,
  z3 := Try.sizeOf3,
  v3 := Try.zeroValue3,
  t4 := Try.underlying4,
  a4 := Try.isAgg4,
  z4 := Try.sizeOf4,
  v4 := Try.zeroValue4,
  t22 := Try.underlying22,
  a22 := Try.isAgg22,
  z22 := Try.sizeOf22,
  v22 := Try.zeroValue22,
  i3 := by kernel_rfl }
open Go.RowKit Go.Lib Go.Sort in
theorem slices_Compact_int (blk off cap : Nat) (zs : List Int) (w : World) (hH : Holds (Value.int .i64) w blk off zs.toArray) (hsz : zs.length ≤ 9223372036854775807) (hcap : zs.length ≤ cap) :
    Calls Try.prog 61 #[.slice (some ⟨blk, off, none⟩) zs.length cap] w fun e w' => e = .returned (.slice (some ⟨blk, off, none⟩) (Lib.compact zs).length cap) ∧ ∃ q, w' = putRow (Value.int .i64) (Sort.ahead w q) blk off (Lib.compact zs ++ List.replicate (zs.length - (Lib.compact zs).length) 0).toArray := Any.slices_Compact_int cmpInts blk off cap zs w hH hsz hcap
open Go.RowKit Go.Sort in
theorem slices_Sort_int_none (p : Option Addr) (cap : Nat) (w : World) :
    Calls Try.prog 60 #[.slice p 0 cap] w fun e w' => e = .returned (.tuple #[]) ∧ w' = w := Any.slices_Sort_int_none srtInts p cap w

end Go.Proofs.Ytbiedadgejgnoaa
