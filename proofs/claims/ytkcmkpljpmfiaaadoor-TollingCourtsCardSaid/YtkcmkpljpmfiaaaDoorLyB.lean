/-
  slices.Sort and slices.Compact at ints, in the words of the walks.
-/
import Derived.Test.YtkcmkpljpmfiaaaDoorLyA
import Derived.Test.YtkcmkpljpmfiaaaDoorMem
namespace Go.Proofs.YtkcmkpljpmfiaaaDoor
open Go.RowKit

theorem putRow_row {w : World} {B E g cap n : Nat} {xs : List Value} (hown : w.ownsRow B E 1 (.slice (some ⟨g, 0, none⟩) n cap) n xs) (d : Array Int) (hd : d.size = n) (k : Nat) (os : Array Obj) (m : Nat) (hm : m ≤ n) :
    (Sort.grow (Sort.putRow (Value.int .i64) (Sort.ahead w k) g 0 d) os).ownsRow B E 1 (.slice (some ⟨g, 0, none⟩) m cap) m (ints (d.toList.take m)) ∧ w.grownBy (Sort.grow (Sort.putRow (Value.int .i64) (Sort.ahead w k) g 0 d) os) (some g) := by
  rcases hown.2 with ⟨h, -⟩ | ⟨g', cap', cur, h, hB, hg, hn, hmx, hcs, htk⟩
  · simp at h
  · simp only [Value.slice.injEq, Option.some.injEq, Addr.mk.injEq, and_true, true_and] at h
    obtain ⟨rfl, rfl⟩ := h
    have hlt : g < w.heap.size := (Array.getElem?_eq_some_iff.1 hg).1
    have hdl : (ints (d.toList.take m)).length = m := by simp [ints]; omega
    refine ⟨⟨by omega, .inr ⟨g, cap, Sort.putCells (Value.int .i64) 0 d cur, rfl, hB, ?_, by omega, hmx, ?_, ?_⟩⟩, rfl, rfl, rfl, ?_, fun j hj hne => ?_⟩
    · show (w.heap.modify g (Sort.onCells (Sort.putCells (Value.int .i64) 0 d)) ++ os)[g]? = _
      rw [Array.getElem?_append_left (by simpa using hlt), Array.getElem?_modify, if_pos rfl, hg]
      rfl
    · simp [Sort.putCells, hcs]
    · apply List.ext_getElem?
      intro t
      by_cases ht : t < m
      · have htc : t < cur.size := by omega
        have htd : t < d.size := by omega
        rw [List.getElem?_take, if_pos (by omega), Array.getElem?_toList]
        simp only [Sort.putCells, Array.getElem?_mapIdx, Array.getElem?_eq_getElem htc, Option.map_some]
        rw [if_pos ⟨Nat.zero_le _, by omega⟩]
        simp only [ints, List.getElem?_map, List.getElem?_take, if_pos ht, Array.getElem?_toList, Array.getElem?_eq_getElem htd, Option.map_some]
        rw [show t - 0 = t from rfl, getElem!_pos d t htd]
      · rw [List.getElem?_take, if_neg (by omega), List.getElem?_eq_none (by omega)]
    · show w.heap.size ≤ (w.heap.modify g (Sort.onCells (Sort.putCells (Value.int .i64) 0 d)) ++ os).size
      simp
    · show (w.heap.modify g (Sort.onCells (Sort.putCells (Value.int .i64) 0 d)) ++ os)[j]? = w.heap[j]?
      rw [Array.getElem?_append_left (by simpa using hj), Array.getElem?_modify, if_neg (fun e => hne (by rw [e]))]

theorem holds_row {w : World} {B E g cap : Nat} {zs : List Int} (hown : w.ownsRow B E 1 (.slice (some ⟨g, 0, none⟩) zs.length cap) zs.length (ints zs)) : Sort.Holds (Value.int .i64) w g 0 zs.toArray := by
  intro j hj
  have hj2 : j < zs.length := by simpa using hj
  have h1 := hown.cellAt j (by simp; exact hj2)
  have h2 := hown.frozenAt j
  refine ⟨?_, by simpa using h2⟩
  rw [Nat.zero_add, h1]
  simp [ints, hj2]

theorem sortI_any (B E g cap : Nat) (zs : List Int) (w : World) (hown : w.ownsRow B E 1 (.slice (some ⟨g, 0, none⟩) zs.length cap) zs.length (ints zs)) (hl : zs.length ≤ 1000000) :
    Calls Tryd.prog 46 #[.slice (some ⟨g, 0, none⟩) zs.length cap] w fun e w' => e = .returned (.tuple #[]) ∧ ∃ ys, Hid (ys.Perm zs ∧ ys.Pairwise (· ≤ ·)) ∧ w'.ownsRow B E 1 (.slice (some ⟨g, 0, none⟩) zs.length cap) zs.length (ints ys) ∧ w.grownBy w' (some g) := by
  have hlt : g < w.heap.size := (hown.lt g rfl).2
  refine Calls.mono (slices_Sort_int g 0 cap zs w (holds_row hown) hlt (by omega)) ?_
  rintro e w' ⟨rfl, n, os, rfl⟩
  refine ⟨rfl, zs.mergeSort (fun x y => decide (x ≤ y)), ⟨List.mergeSort_perm _ _, ?_⟩, ?_⟩
  · have h := List.pairwise_mergeSort (le := fun a b : Int => decide (a ≤ b)) (fun a b c h1 h2 => by simp at *; omega) (fun a b => by simp; omega) zs
    exact h.imp (fun h => by simpa using h)
  · have h := putRow_row hown (zs.mergeSort (fun x y => decide (x ≤ y))).toArray (by simp) n os zs.length (Nat.le_refl _)
    rw [List.take_of_length_le (by simp)] at h
    exact h

theorem compactUpTo_law (d : Array Int) (hs : ∀ i j, i < j → j < d.size → d[i]! ≤ d[j]!) : ∀ m, m ≤ d.size → (Lib.compactUpTo d m).Pairwise (· < ·) ∧ (∀ x, x ∈ Lib.compactUpTo d m ↔ ∃ j, j < m ∧ d[j]! = x) ∧ (Lib.compactUpTo d m).length ≤ m
  | 0, _ => by
    have e : Lib.compactUpTo d 0 = [] := by simp [Lib.compactUpTo]
    rw [e]
    exact ⟨List.Pairwise.nil, fun x => by simp, Nat.le_refl _⟩
  | m + 1, hm => by
    obtain ⟨h1, h2, h3⟩ := compactUpTo_law d hs m (by omega)
    rw [Lib.compactUpTo_succ]
    by_cases hk : Lib.keeps d m = true
    · rw [if_pos hk]
      refine ⟨?_, fun x => ?_, by simp; omega⟩
      · rw [List.pairwise_append]
        refine ⟨h1, by simp, fun a ha b hb => ?_⟩
        simp at hb
        subst hb
        obtain ⟨j, hj, rfl⟩ := (h2 a).1 ha
        have hle := hs j m hj (by omega)
        rcases Int.lt_or_eq_of_le hle with h | h
        · exact h
        · exfalso
          have hm1 : d[m]! = d[m - 1]! := by
            have g1 := hs (m - 1) m (by omega) (by omega)
            by_cases hjm : j = m - 1
            · subst hjm; exact h.symm
            · have g2 := hs j (m - 1) (by omega) (by omega)
              omega
          rw [Lib.keeps_neg (by omega) hm1] at hk
          cases hk
      · rw [List.mem_append, h2, List.mem_singleton]
        constructor
        · rintro (⟨j, hj, e⟩ | e)
          · exact ⟨j, by omega, e⟩
          · exact ⟨m, by omega, e.symm⟩
        · rintro ⟨j, hj, e⟩
          by_cases hjm : j = m
          · subst hjm; exact .inr e.symm
          · exact .inl ⟨j, by omega, e⟩
    · rw [if_neg hk, List.append_nil]
      refine ⟨h1, fun x => ?_, by omega⟩
      rw [h2]
      constructor
      · rintro ⟨j, hj, e⟩
        exact ⟨j, by omega, e⟩
      · rintro ⟨j, hj, e⟩
        by_cases hjm : j = m
        · subst hjm
          have hm0 : 0 < j := by
            rcases Nat.eq_zero_or_pos j with h0 | h0
            · subst h0; exact absurd (Lib.keeps_lt_one d 0 (by omega)) hk
            · exact h0
          have he : d[j]! = d[j - 1]! := by
            by_cases h : d[j]! = d[j - 1]!
            · exact h
            · exact absurd (Lib.keeps_pos h) hk
          exact ⟨j - 1, by omega, by rw [← he]; exact e⟩
        · exact ⟨j, by omega, e⟩
theorem compact_law {zs : List Int} (hs : zs.Pairwise (· ≤ ·)) : (Lib.compact zs).Pairwise (· < ·) ∧ ∀ x, x ∈ Lib.compact zs ↔ x ∈ zs := by
  obtain ⟨h1, h2, -⟩ := compactUpTo_law zs.toArray (fun i j hij hj => by
    rw [List.pairwise_iff_getElem] at hs
    have hj' : j < zs.length := by simpa using hj
    have := hs i j (by omega) hj' hij
    rw [getElem!_pos zs.toArray i (by simp; omega), getElem!_pos zs.toArray j hj]
    simpa using this) zs.length (by simp)
  refine ⟨h1, fun x => ?_⟩
  show x ∈ Lib.compactUpTo zs.toArray zs.length ↔ _
  rw [h2, List.mem_iff_getElem]
  constructor
  · rintro ⟨j, hj, e⟩
    rw [getElem!_pos zs.toArray j (by simpa using hj)] at e
    exact ⟨j, hj, by simpa using e⟩
  · rintro ⟨j, hj, e⟩
    exact ⟨j, hj, by rw [getElem!_pos zs.toArray j (by simpa using hj)]; simpa using e⟩
theorem compact_le (zs : List Int) : (Lib.compact zs).length ≤ zs.length := by
  have h : ∀ m, (Lib.compactUpTo zs.toArray m).length ≤ m := by
    intro m
    induction m with
    | zero => simp [Lib.compactUpTo]
    | succ m ih =>
      rw [Lib.compactUpTo_succ]
      by_cases hk : Lib.keeps zs.toArray m = true
      · rw [if_pos hk]; simp; omega
      · rw [if_neg hk]; simp; omega
  exact h zs.length

theorem compactI_any (B E g cap : Nat) (zs : List Int) (w : World) (hown : w.ownsRow B E 1 (.slice (some ⟨g, 0, none⟩) zs.length cap) zs.length (ints zs)) (hl : zs.length ≤ 1000000) :
    Calls Tryd.prog 47 #[.slice (some ⟨g, 0, none⟩) zs.length cap] w fun e w' => e = .returned (.slice (some ⟨g, 0, none⟩) (Lib.compact zs).length cap) ∧ w'.ownsRow B E 1 (.slice (some ⟨g, 0, none⟩) (Lib.compact zs).length cap) (Lib.compact zs).length (ints (Lib.compact zs)) ∧ w.grownBy w' (some g) := by
  obtain ⟨_, c', e', hnc, -⟩ := owns_slice hown
  simp only [Value.slice.injEq, true_and] at e'
  obtain ⟨-, rfl⟩ := e'
  have hle : (Lib.compact zs).length ≤ zs.length := compact_le zs
  refine Calls.mono (slices_Compact_int g 0 cap zs w (holds_row hown) (by omega) hnc) ?_
  rintro e w' ⟨rfl, q, rfl⟩
  refine ⟨rfl, ?_⟩
  have h := putRow_row hown (Lib.compact zs ++ List.replicate (zs.length - (Lib.compact zs).length) 0).toArray (by simp; omega) q #[] (Lib.compact zs).length hle
  rw [Sort.grow_empty] at h
  have e1 : (Lib.compact zs ++ List.replicate (zs.length - (Lib.compact zs).length) 0).toArray.toList.take (Lib.compact zs).length = Lib.compact zs := List.take_left
  rw [e1] at h
  exact h

end Go.Proofs.YtkcmkpljpmfiaaaDoor
