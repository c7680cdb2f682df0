/-
  Parts of slices of returns. No program in sight.
-/
import Derived.Test.YtdhiefgbajogcaaRtM
namespace Go.Proofs.Ytdhiefgbajogcaa
open Go.RowKit

theorem IsRts.drop {w : World} {b off n cap : Nat} {l : List Ret} (h : IsRts w (.slice (some ⟨b, off, none⟩) n cap) l) (k : Nat) (hk : k ≤ l.length) : IsRts w (.slice (some ⟨b, off + k * 4, none⟩) (n - k) (cap - k)) (l.drop k) := by
  obtain ⟨h1, h2, a', cap', hv, hn, hc⟩ := h
  simp only [Value.slice.injEq] at hv
  obtain ⟨rfl, rfl, rfl⟩ := hv
  have hl : (l.drop k).length = l.length - k := List.length_drop
  refine ⟨by rw [rtCells_len], by omega, some ⟨b, off + k * 4, none⟩, cap - k, by rw [hl], by omega, fun j u hu => ⟨b, off + k * 4, rfl, ?_⟩⟩
  have hj : j < (l.length - k) * 4 := by
    have := (List.getElem?_eq_some_iff.1 hu).1
    rw [rtCells_len, hl] at this
    exact this
  obtain ⟨i, c, rfl, hi, hcc⟩ : ∃ i c, j = i * 4 + c ∧ i < l.length - k ∧ c < 4 := ⟨j / 4, j % 4, by omega, by omega, by omega⟩
  rw [rtCells_get _ i c (by omega) hcc] at hu
  obtain ⟨b', off', e', hcell⟩ := hc ((k + i) * 4 + c) u (by
    rw [rtCells_get _ (k + i) c (by omega) hcc]
    simpa using hu)
  simp only [Option.some.injEq, Addr.mk.injEq, and_true] at e'
  obtain ⟨rfl, rfl⟩ := e'
  rw [show off + k * 4 + (i * 4 + c) = off + ((k + i) * 4 + c) from by omega]
  exact hcell
theorem IsRts.take {w : World} {a : Option Addr} {n cap : Nat} {l : List Ret} (h : IsRts w (.slice a n cap) l) (k : Nat) (hk : k ≤ l.length) : IsRts w (.slice a k cap) (l.take k) := by
  obtain ⟨h1, h2, a', cap', hv, hn, hc⟩ := h
  simp only [Value.slice.injEq] at hv
  obtain ⟨rfl, rfl, rfl⟩ := hv
  have hl : (l.take k).length = k := by rw [List.length_take]; omega
  refine ⟨by rw [rtCells_len], by omega, a, cap, by rw [hl], by omega, fun j u hu => hc j u ?_⟩
  have hj : j < k * 4 := by
    have := (List.getElem?_eq_some_iff.1 hu).1
    rw [rtCells_len, hl] at this
    exact this
  obtain ⟨i, c, rfl, hi, hcc⟩ : ∃ i c, j = i * 4 + c ∧ i < k ∧ c < 4 := ⟨j / 4, j % 4, by omega, by omega, by omega⟩
  rw [rtCells_get _ i c (by omega) hcc] at hu
  rw [rtCells_get _ i c (by omega) hcc]
  simpa using hu
theorem litR0 (W : World) (B N : Nat) (hN : W.heap.size = N) (hB : B ≤ W.heap.size) : (W.alloc (.cells #[] 37)).ownsRow B 37 4 (.slice (some ⟨N, 0, none⟩) 0 0) 0 [] := by
  subst hN
  exact owns_mono (World.ownsRow_lit W #[] 0 (Nat.le_refl _) (Nat.zero_le _) rfl) hB

end Go.Proofs.Ytdhiefgbajogcaa
