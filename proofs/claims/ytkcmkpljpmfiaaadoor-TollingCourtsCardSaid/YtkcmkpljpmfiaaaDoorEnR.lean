/-
  Rows of elements that are so many cells each; the insertion sort of the library at such a row, in the words of the walks.
-/
import Derived.Shelf.SlSortCmp.InsertionK
import Derived.Test.YtkcmkpljpmfiaaaDoorMem
import Derived.Test.YtkcmkpljpmfiaaaDoorProg
import Derived.Test.YtkcmkpljpmfiaaaDoorChecked
namespace Go.Proofs.YtkcmkpljpmfiaaaDoor
open Go.RowKit

section
variable {α : Type} (enc : α → List Value) (s : Nat)
def enC (l : List α) : List Value := (l.map enc).flatten
variable {enc} {s}
theorem enC_rows (hs : ∀ x, (enc x).length = s) (l : List α) : ∀ r ∈ l.map enc, r.length = s := fun r hr => by
  obtain ⟨x, -, rfl⟩ := List.mem_map.1 hr
  exact hs x
theorem enC_len (hs : ∀ x, (enc x).length = s) (l : List α) : (enC enc l).length = l.length * s := by
  rw [enC, flat_len s _ (enC_rows hs l), List.length_map]
theorem enC_get (hs : ∀ x, (enc x).length = s) (l : List α) (i k : Nat) (hi : i < l.length) (hk : k < s) : (enC enc l)[i * s + k]? = (enc l[i])[k]? := by
  rw [enC, flat_get s _ i k (by simpa using hi) (enC_rows hs l) hk, List.getElem_map]
theorem enC_append (l m : List α) : enC enc (l ++ m) = enC enc l ++ enC enc m := by simp [enC]
theorem enC_single (x : α) : enC enc [x] = enc x := by simp [enC]
theorem enC_one (h1 : ∀ x, ∀ v ∈ enc x, v.oneCell' = true) (l : List α) : ∀ u ∈ enC enc l, u.oneCell' = true := by
  intro u hu
  obtain ⟨r, hr, hur⟩ := List.mem_flatten.1 hu
  obtain ⟨x, -, rfl⟩ := List.mem_map.1 hr
  exact h1 x u hur

theorem flatK_enC [Inhabited α] (hs : ∀ x, (enc x).length = s) (h0 : 0 < s) (d : Array α) : (Sort.flatK enc s d).toList = enC enc d.toList := by
  apply List.ext_getElem?
  intro t
  by_cases ht : t < d.size * s
  · obtain ⟨i, k, rfl, hi, hk⟩ : ∃ i k, t = i * s + k ∧ i < d.size ∧ k < s := by
      have hm : t % s < s := Nat.mod_lt _ h0
      have hd : t / s < d.size := (Nat.div_lt_iff_lt_mul h0).2 ht
      exact ⟨t / s, t % s, by rw [Nat.mul_comm]; exact (Nat.div_add_mod t s).symm, hd, hm⟩
    rw [enC_get hs d.toList i k (by simpa using hi) hk]
    have e1 : (i * s + k) / s = i := by rw [Nat.mul_comm, Nat.mul_add_div h0, Nat.div_eq_of_lt hk, Nat.add_zero]
    have e2 : (i * s + k) % s = k := by rw [Nat.mul_comm, Nat.mul_add_mod, Nat.mod_eq_of_lt hk]
    have hss : i * s + k < (Sort.flatK enc s d).size := by simpa using ht
    have hg := Sort.get_flatK enc s d (i * s + k) ht
    rw [e1, e2] at hg
    rw [Array.getElem?_toList, Array.getElem?_eq_getElem hss]
    rw [getElem!_pos (Sort.flatK enc s d) (i * s + k) hss] at hg
    rw [hg, getElem!_pos d i hi, Array.getElem_toList]
    have hkl : k < (enc d[i]).length := by rw [hs]; exact hk
    rw [List.getElem?_eq_getElem hkl, getElem!_pos (enc d[i]) k hkl]
  · rw [List.getElem?_eq_none (by simp; omega), List.getElem?_eq_none (by rw [enC_len hs]; simp; omega)]

/-- The world of the sort: another block reads as before. -/
theorem sortWorldK_cell (w : World) (g m : Nat) (dk : Array α) [Inhabited α] (os : Array Obj) {p : Addr} (hp : p.block ≠ g) (hlt : p.block < w.heap.size) : (Go.Proofs.sortWorldK enc s w g 0 m dk os).cell? p = w.cell? p := by
  have hb : (Go.Proofs.sortWorldK enc s w g 0 m dk os).heap[p.block]? = w.heap[p.block]? := by
    show (w.heap.modify g (Sort.onCells (Sort.putCells id 0 (Sort.flatK enc s dk))) ++ os)[p.block]? = _
    rw [Array.getElem?_append_left (by simpa using hlt), Array.getElem?_modify, if_neg (fun e => hp e.symm)]
  unfold World.cell?
  rw [hb]
end

set_option maxHeartbeats 1000000 in
theorem insSort_any {α : Type} [Inhabited α] {enc : α → List Value} {s : Nat} {ρ : Go.Shelf.Ren} (L : Go.Proofs.SlLaysF0.n20 Tryd.prog ρ) (hs : ∀ x, (enc x).length = s) (h0 : 0 < s) (h1 : ∀ x, ∀ v ∈ enc x, v.oneCell' = true)
    (aE : ∀ w, (isAgg (ρ.t 24)).run Tryd.prog w = .ok true w) (zE : ∀ w, (Go.sizeOf (ρ.t 24)).run Tryd.prog w = .ok s w) (cf : α → α → Int) (hO : Sort.SWO (ltOf cf)) (K : Nat) (caps : Array Value)
    (eg : ∀ args w, (callFunc K args).run Tryd.prog w = .ok (.enter K args) w) (B E g cap : Nat) (l : List α) (w : World)
    (hown : w.ownsRow B E s (.slice (some ⟨g, 0, none⟩) l.length cap) l.length (enC enc l)) (hl : l.length ≤ 1000000)
    (hcmp : ∀ (m : Nat) (os : Array Obj) (dk : Array α), dk.size = l.length → ∀ x y : α, Calls Tryd.prog K (#[.agg (enc x).toArray, .agg (enc y).toArray] ++ caps) (Go.Proofs.sortWorldK enc s w g 0 m dk os) fun e w' => e = .returned (.int .i64 (cf x y)) ∧ ∃ q os', w' = Sort.grow ((Go.Proofs.sortWorldK enc s w g 0 m dk os).drewN q) os') :
    Calls Tryd.prog (ρ.f 20) #[.slice (some ⟨g, 0, none⟩) l.length cap, .int .i64 0, .int .i64 l.length, .func (.func K) #[] caps] w fun e w' =>
      e = .returned (.tuple #[]) ∧ ∃ l', l'.Perm l ∧ w'.ownsRow B E s (.slice (some ⟨g, 0, none⟩) l.length cap) l.length (enC enc l') ∧ w.grownBy w' (some g) := by
  rcases hown.2 with ⟨h, -⟩ | ⟨g', cap', cur, h, hB, hg, hn, hm, hcs, htk⟩
  · simp at h
  · simp only [Value.slice.injEq, Option.some.injEq, Addr.mk.injEq, and_true, true_and] at h
    obtain ⟨rfl, rfl⟩ := h
    have hlt : g < w.heap.size := (Array.getElem?_eq_some_iff.1 hg).1
    have hcl : l.length * s ≤ cur.size := by
      rw [hcs]
      exact Nat.mul_le_mul_right s hn
    have hH : Sort.HoldsK enc s w g 0 l.toArray := by
      intro j hj
      have hj2 : j < l.length * s := by simpa using hj
      have hjc : j < cur.size := by omega
      have e : (Sort.flatK enc s l.toArray)[j]! = cur[j] := by
        have h1 : (Sort.flatK enc s l.toArray).toList = cur.toList.take (l.length * s) := by rw [flatK_enC hs h0, htk]
        have h2 : (Sort.flatK enc s l.toArray).toList[j]? = (cur.toList.take (l.length * s))[j]? := by rw [h1]
        rw [List.getElem?_take, if_pos hj2, Array.getElem?_toList, Array.getElem?_toList, Array.getElem?_eq_getElem hj, Array.getElem?_eq_getElem hjc] at h2
        rw [getElem!_pos (Sort.flatK enc s l.toArray) j hj]
        exact Option.some.inj h2
      rw [e]
      constructor
      · simp [World.cell?, hg, hjc]
      · simp [World.frozen?, hg]
    have hcon := AnyQ.insertionSortCmpFunc L s aE zE enc hs h1 cf K caps g 0 cap 0 l.length l.toArray w eg (fun m os dk hd x y => hcmp m os dk (by simpa using hd) x y) hH hlt (Nat.zero_le _) (by simp) (by simp; omega)
    refine Calls.mono (by simpa using hcon) ?_
    rintro e w' ⟨rfl, n, os, rfl⟩
    obtain ⟨hp, -⟩ := Sort.insertionSort_holds (lt := ltOf cf) hO l.toArray 0 l.length (Nat.zero_le _) (by simp)
    generalize Sort.insertionSort (ltOf cf) l.toArray 0 l.length = d' at *
    obtain ⟨hp1, -, hp3⟩ := hp
    have hsz : d'.size = l.length := by simpa using hp1
    have hperm : d'.toList.Perm l := by
      have h1 : (d'.extract 0 l.length).toList = d'.toList := by
        rw [show l.length = d'.size from hsz.symm, Array.extract_size]
      have h2 : (l.toArray.extract 0 l.length).toList = l := by
        rw [show l.length = l.toArray.size from by simp, Array.extract_size]
      rw [h1, h2] at hp3
      exact hp3
    refine ⟨rfl, d'.toList, hperm, ?_, ?_⟩
    · have hF : (Sort.flatK enc s d').size = l.length * s := by simp [hsz]
      refine ⟨by rw [enC_len hs]; simp [hsz], .inr ⟨g, cap, Sort.putCells id 0 (Sort.flatK enc s d') cur, rfl, hB, ?_, hn, hm, ?_, ?_⟩⟩
      · show (w.heap.modify g (Sort.onCells (Sort.putCells id 0 (Sort.flatK enc s d'))) ++ os)[g]? = _
        rw [Array.getElem?_append_left (by simpa using hlt), Array.getElem?_modify, if_pos rfl, hg]
        rfl
      · simp [Sort.putCells, hcs]
      · rw [← flatK_enC hs h0]
        apply List.ext_getElem?
        intro t
        by_cases ht : t < l.length * s
        · have htc : t < cur.size := by omega
          have htf : t < (Sort.flatK enc s d').size := by rw [hF]; exact ht
          rw [List.getElem?_take, if_pos ht, Array.getElem?_toList, Array.getElem?_toList, Array.getElem?_eq_getElem htf]
          simp only [Sort.putCells, Array.getElem?_mapIdx, Array.getElem?_eq_getElem htc, Option.map_some]
          rw [if_pos ⟨Nat.zero_le _, by rw [Nat.zero_add]; exact htf⟩]
          simp only [Nat.sub_zero, id_eq]
          rw [getElem!_pos (Sort.flatK enc s d') t htf]
        · rw [List.getElem?_eq_none (by rw [List.length_take]; omega), List.getElem?_eq_none (by rw [Array.length_toList, hF]; omega)]
    · refine ⟨rfl, rfl, rfl, ?_, fun k hk hne => ?_⟩
      · show _ ≤ (w.heap.modify g _ ++ os).size
        simp
      · show (w.heap.modify g _ ++ os)[k]? = _
        rw [Array.getElem?_append_left (by simpa using hk), Array.getElem?_modify, if_neg (fun e => hne (by rw [e]))]

end Go.Proofs.YtkcmkpljpmfiaaaDoor
