/-
  Rows of numbers in memory; math/bits.RotateLeft32.
-/
import Derived.Test.YtgfnelpfoegdaaaDoorMem
import Derived.Test.YtgfnelpfoegdaaaDoorChecked
import Derived.Laws.Rows
import Derived.Deep.MidRow
import Derived.Laws.BitsLemmas
import Derived.Laws.BitsAllLaws
import Derived.RangeFuncBox
namespace Go.Proofs.YtgfnelpfoegdaaaDoor
open Go.RowKit

/-- Block g is a row of numbers. -/
def NRow (w : World) (k : IntKind) (g t : Nat) (xs : List Int) : Prop := w.heap[g]? = some (.cells (xs.map (Value.int k)).toArray t (0, 0))
theorem NRow.lt {w : World} {k : IntKind} {g t : Nat} {xs : List Int} (h : NRow w k g t xs) : g < w.heap.size := (Array.getElem?_eq_some_iff.1 h).1
theorem NRow.cell {w : World} {k : IntKind} {g t : Nat} {xs : List Int} (h : NRow w k g t xs) {i : Nat} (hi : i < xs.length) : w.cell? ⟨g, i, none⟩ = some (.int k xs[i]) := by
  rw [cell_of_row w g i _ t (0, 0) h]
  simp [hi]
theorem NRow.frozen {w : World} {k : IntKind} {g t : Nat} {xs : List Int} (h : NRow w k g t xs) (i : Nat) : w.frozen? ⟨g, i, none⟩ = false := frozen_of_row w g i _ t h
theorem NRow.set {w : World} {k : IntKind} {g t : Nat} {xs : List Int} (h : NRow w k g t xs) (i : Nat) (x : Int) : NRow (w.setCell ⟨g, i, none⟩ (.int k x)) k g t (xs.set i x) := by
  have e := heap_setCell_same w g i _ t (.int k x) h
  unfold NRow
  rw [e, List.map_set]
  simp
theorem NRow.other {w : World} {k : IntKind} {g t : Nat} {xs : List Int} (h : NRow w k g t xs) (a : Addr) (v : Value) (hne : g ≠ a.block) : NRow (w.setCell a v) k g t xs := (Below.heap_setCell _ _ _ _ hne).trans h
theorem NRow.below {w w' : World} {k : IntKind} {g t B : Nat} {xs : List Int} (h : NRow w k g t xs) (hb : Below B w w') (hg : g < B) : NRow w' k g t xs := (hb.block g hg).trans h
theorem NRow.alloc {w : World} {k : IntKind} {g t : Nat} {xs : List Int} (h : NRow w k g t xs) (o : Obj) : NRow (w.alloc o) k g t xs := ((World.grownBy_alloc w o none).block g h.lt (by simp)).trans h
theorem NRow.new (w : World) (k : IntKind) (t : Nat) (xs : List Int) : NRow (w.alloc (.cells (xs.map (Value.int k)).toArray t)) k w.heap.size t xs := World.alloc_heap_new w _
theorem NRow.drew {w : World} {k : IntKind} {g t : Nat} {xs : List Int} (h : NRow w k g t xs) : NRow w.drew k g t xs := h

/-- RotateLeft32. -/
def rotF (x : Int) (s : Nat) : Int := bits .or .u32 (x * 2 ^ s % 4294967296) (x / 2 ^ (32 - s))
def rotS (k : Int) : Nat := (k % 32).toNat
theorem rot_mask (k : Int) : bits .and .u64 (IntKind.u64.wrap k) 31 = ((rotS k : Nat) : Int) := by
  have hw : IntKind.u64.wrap k = k % 18446744073709551616 := by simp [IntKind.wrap, IntKind.bits, IntKind.signed]
  rw [hw, u64_and _ _ (by omega) (by omega) (by decide) (by decide)]
  have e : (31 : Int).toNat = 2 ^ 5 - 1 := rfl
  rw [e, Nat.and_two_pow_sub_one_eq_mod]
  unfold rotS
  omega
theorem rotl_any (x k : Int) (w : World) : Calls Tryd.prog 71 #[.int .u32 x, .int .i64 k] w fun e w' => e = .returned (.int .u32 (rotF x (rotS k))) ∧ w = w' := by
  have hm := rot_mask k
  obtain ⟨s, hs⟩ : ∃ s, rotS k = s := ⟨_, rfl⟩
  have hs32 : s < 32 := by rw [← hs]; unfold rotS; omega
  rw [hs] at hm ⊢
  have HE : Hid (rotF x s = bits .or .u32 (x * 2 ^ s % 4294967296) (x / 2 ^ (32 - s))) := rfl
  obtain ⟨R, hR⟩ : ∃ R, rotF x s = R := ⟨_, rfl⟩
  rw [hR] at HE ⊢
  clear hs hR
  have hsub : IntKind.u64.wrap (32 - (s : Int)) = ((32 - s : Nat) : Int) := by simp [IntKind.wrap, IntKind.bits, IntKind.signed]; omega
  go_enter Tryd.func71, Tryd.ntmps71
  go_wp2_with fail
  go_ret
  exact ⟨by rw [HE.out]; rfl, rfl⟩

theorem run_index_arr {P : Program} (t e : TypeId) (n : Nat) (cs : Array Value) (k k' : IntKind) (i : Nat) (v : Value) (w : World) (h : P.underlying t = some (.array n e)) (he : P.underlying e = some (.int k'))
    (hs : (P.info? e).map (·.size) = some 1) (hi : i < n) (hv : cs[i]? = some v) : (Instr.index t (.agg cs) (.int k (i : Int))).run P w = .ok v w := by
  have hn : (0 : Int) ≤ (i : Int) ∧ (i : Int) < (n : Int) := by omega
  cases hq : P.info? e with
  | none => simp [hq] at hs
  | some inf =>
    have hsz : inf.size = 1 := by simpa [hq] using hs
    simp [Instr.index, run_underlying h, asIntOf, hn, part, isAgg, run_underlying he, sizeOf, typeInfo, hq, hsz, hv, go_sem]
    omega

end Go.Proofs.YtgfnelpfoegdaaaDoor
