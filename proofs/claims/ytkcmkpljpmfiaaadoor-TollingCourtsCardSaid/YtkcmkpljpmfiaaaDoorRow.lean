/-
  A slice of integers as the frame opens it, as a readable slice.
-/
import Derived.Test.YtkcmkpljpmfiaaaDoorMem
import Derived.OpenShut
namespace Go.Proofs.YtkcmkpljpmfiaaaDoor
open Go.RowKit

theorem i64_of_wf {x : Int} (h : (Lit.int .i64 x).wf = true) : I64 x := bounds_i64 h

theorem isInts_of_cells {w : World} {x : Addr} {len cap : Nat} {zs : List Int} (hl : len ≤ cap) (hm : len ≤ maxLen) (hz : len ≤ zs.length)
    (hcell : ∀ i, i < zs.length → w.cell? (x.add i) = some (.int .i64 (zs.getD i 0))) (hwz : ∀ n ∈ zs, (Lit.int .i64 n).wf = true) :
    ∃ xs, IsInts w (.slice (some x) len cap) xs ∧ ∀ x ∈ xs, I64 x := by
  obtain ⟨b, off, spot⟩ := x
  rcases Nat.eq_zero_or_pos len with rfl | hpos
  · exact ⟨[], IsInts.nil _ _ _, by simp⟩
  refine ⟨zs.take len, ?_, fun n hn => i64_of_wf (hwz n (List.mem_of_mem_take hn))⟩
  have hlen : (zs.take len).length = len := by rw [List.length_take]; omega
  have hspot : spot = none := by simpa [Addr.add] using World.cell?_spot (hcell 0 (by omega))
  subst hspot
  refine ⟨by simp [ints], by omega, some ⟨b, off, none⟩, cap, by rw [hlen], by omega, fun j u hu => ⟨b, off, rfl, ?_⟩⟩
  have hj : j < len := by
    have := (List.getElem?_eq_some_iff.1 hu).1
    simp only [ints, List.length_map, hlen] at this
    exact this
  have hc := hcell j (by omega)
  rw [show (⟨b, off, none⟩ : Addr).add j = ⟨b, off + j, none⟩ from by unfold Addr.add; split <;> simp_all] at hc
  rw [hc]
  have hjz : j < zs.length := by omega
  have e : zs.getD j 0 = zs[j] := by simp [List.getD, List.getElem?_eq_getElem hjz]
  rw [e]
  simp only [ints, List.getElem?_map, List.getElem?_take, hj, if_true, List.getElem?_eq_getElem hjz, Option.map_some, Option.some.injEq] at hu
  rw [← hu]

theorem isInts_of_row {w : World} {a : Option Addr} {len cap : Nat} {zs : List Int}
    (h : (a = none ∧ len = 0 ∧ cap = 0 ∧ zs = []) ∨ ∃ x, a = some x ∧ len ≤ cap ∧ cap ≤ maxLen ∧ zs.length = cap ∧ (∀ i, i < zs.length → w.cell? (x.add i) = some (.int .i64 (zs.getD i 0))) ∧ ∀ n ∈ zs, (Lit.int .i64 n).wf = true) :
    ∃ xs, IsInts w (.slice a len cap) xs ∧ ∀ x ∈ xs, I64 x := by
  rcases h with ⟨rfl, rfl, rfl, rfl⟩ | ⟨x, rfl, hl, hm, hz, hcell, hwz⟩
  · exact ⟨[], IsInts.nil _ _ _, by simp⟩
  · exact isInts_of_cells hl (by omega) (by omega) hcell hwz

end Go.Proofs.YtkcmkpljpmfiaaaDoor
