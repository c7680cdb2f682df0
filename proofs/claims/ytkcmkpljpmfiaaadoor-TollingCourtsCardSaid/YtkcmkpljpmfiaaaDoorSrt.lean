/-
  slices.SortFunc at spans, by their first days: the contract in the words of the walks.
-/
import Derived.Test.YtkcmkpljpmfiaaaDoorLay
import Derived.Test.YtkcmkpljpmfiaaaDoorSpn
namespace Go.Proofs.YtkcmkpljpmfiaaaDoor
open Go.RowKit

theorem isNaN_any (x : Int) (w : World) : Calls Tryd.prog 30 #[.int .i64 x] w fun e w' => e = .returned (.bool false) ∧ w = w' := by
  go_enter Tryd.func30, Tryd.ntmps30
  go_wp2
  go_ret
  simp

def cmpF (x y : Int) : Int := if x < y then -1 else if y < x then 1 else 0

theorem compare_any (x y : Int) (w : World) : Calls Tryd.prog 23 #[.int .i64 x, .int .i64 y] w fun e w' => e = .returned (.int .i64 (cmpF x y)) ∧ w = w' := by
  obtain ⟨r, hr⟩ : ∃ r, cmpF x y = r := ⟨_, rfl⟩
  rw [hr]
  by_cases h1 : x < y
  · have hr1 : r = -1 := by rw [← hr]; unfold cmpF; rw [if_pos h1]
    subst hr1
    clear hr
    go_enter Tryd.func23, Tryd.ntmps23
    go_wp2_with (go_at_call 30; refine (isNaN_any _ _).mono ?_; rintro e w' ⟨rfl, rfl⟩)
    go_ret
    exact ⟨rfl, rfl⟩
  · have h1' : y ≤ x := by omega
    by_cases h2 : y < x
    · have hr1 : r = 1 := by rw [← hr]; unfold cmpF; rw [if_neg h1, if_pos h2]
      subst hr1
      clear hr
      go_enter Tryd.func23, Tryd.ntmps23
      go_wp2_with (go_at_call 30; refine (isNaN_any _ _).mono ?_; rintro e w' ⟨rfl, rfl⟩)
      go_ret
      exact ⟨rfl, rfl⟩
    · have hr1 : r = 0 := by rw [← hr]; unfold cmpF; rw [if_neg h1, if_neg h2]
      subst hr1
      clear hr
      go_enter Tryd.func23, Tryd.ntmps23
      go_wp2_with (go_at_call 30; refine (isNaN_any _ _).mono ?_; rintro e w' ⟨rfl, rfl⟩)
      go_ret
      exact ⟨rfl, rfl⟩

theorem closure_any (x y : Int × Int) (W : World) : Calls Tryd.prog 22 #[.agg #[.int .i64 x.1, .int .i64 x.2], .agg #[.int .i64 y.1, .int .i64 y.2]] W fun e w' => e = .returned (.int .i64 (cmpF x.1 y.1)) ∧ ∃ q os', w' = Sort.grow (W.drewN q) os' := by
  have hcon := fun W' => compare_any x.1 y.1 W'
  generalize cmpF x.1 y.1 = r at hcon ⊢
  go_enter Tryd.func22, Tryd.ntmps22
  go_wp2_with (go_at_call 23; refine (hcon _).mono ?_; rintro e w' ⟨rfl, rfl⟩)
  go_ret
  exact ⟨rfl, 0, _, by rw [Sort.alloc_eq_grow, Sort.alloc_eq_grow, Sort.grow_grow]; rfl⟩

theorem ltOf_span (x y : Int × Int) : ltOf (fun x y : Int × Int => cmpF x.1 y.1) x y = decide (x.1 < y.1) := by
  unfold ltOf cmpF
  by_cases h1 : x.1 < y.1
  · simp [h1]
  · by_cases h2 : y.1 < x.1 <;> simp [h1, h2]

theorem swo_span : Sort.SWO (ltOf fun x y : Int × Int => cmpF x.1 y.1) where
  irrefl x := by rw [ltOf_span]; simp
  trans x y z h1 h2 := by rw [ltOf_span] at *; simp at *; omega
  ntrans x y z h1 h2 := by rw [ltOf_span] at *; simp at *; omega

theorem flatK_spans (d : Array (Int × Int)) : (Sort.flatK spRow 2 d).toList = spCells d.toList := by
  apply List.ext_getElem?
  intro t
  by_cases ht : t < d.size * 2
  · obtain ⟨i, k, rfl, hi, hk⟩ : ∃ i k, t = i * 2 + k ∧ i < d.size ∧ k < 2 := ⟨t / 2, t % 2, by omega, by omega, by omega⟩
    rw [spCells_get d.toList i k (by simpa using hi) hk]
    have e1 : (i * 2 + k) / 2 = i := by omega
    have e2 : (i * 2 + k) % 2 = k := by omega
    have hs : i * 2 + k < (Sort.flatK spRow 2 d).size := by simpa using ht
    have hg := Sort.get_flatK spRow 2 d (i * 2 + k) ht
    rw [e1, e2] at hg
    rw [Array.getElem?_toList, Array.getElem?_eq_getElem hs]
    rw [getElem!_pos (Sort.flatK spRow 2 d) (i * 2 + k) hs] at hg
    rw [hg, getElem!_pos d i hi]
    rw [Array.getElem_toList]
    rcases (by omega : k = 0 ∨ k = 1) with rfl | rfl <;> rfl
  · rw [List.getElem?_eq_none (by simp; omega), List.getElem?_eq_none (by rw [spCells_len]; simp; omega)]

set_option maxHeartbeats 1000000 in
theorem sort_any (B E g cap : Nat) (l : List (Int × Int)) (w : World) (hown : w.ownsRow B E 2 (.slice (some ⟨g, 0, none⟩) l.length cap) l.length (spCells l)) (hl : l.length ≤ 1000000) :
    Calls Tryd.prog 21 #[.slice (some ⟨g, 0, none⟩) l.length cap, .func (.func 22) #[] #[]] w fun e w' =>
      e = .returned (.tuple #[]) ∧ ∃ l', l'.Perm l ∧ l'.Pairwise (fun a b => a.1 ≤ b.1) ∧ w'.ownsRow B E 2 (.slice (some ⟨g, 0, none⟩) l.length cap) l.length (spCells l') ∧ w.grownBy w' (some g) := by
  have eg : ∀ args w, (callFunc 22 args).run Tryd.prog w = .ok (.enter 22 args) w := enters_of Tryd.func22 (by kernel_rfl) rfl
  rcases hown.2 with ⟨h, -⟩ | ⟨g', cap', cur, h, hB, hg, hn, hm, hcs, htk⟩
  · simp at h
  · simp only [Value.slice.injEq, Option.some.injEq, Addr.mk.injEq, and_true, true_and] at h
    obtain ⟨rfl, rfl⟩ := h
    have hlt : g < w.heap.size := (Array.getElem?_eq_some_iff.1 hg).1
    have hH : Sort.HoldsK spRow 2 w g 0 l.toArray := by
      intro j hj
      have hj2 : j < l.length * 2 := by simpa using hj
      have hjc : j < cur.size := by omega
      have e : (Sort.flatK spRow 2 l.toArray)[j]! = cur[j] := by
        have h1 : (Sort.flatK spRow 2 l.toArray).toList = cur.toList.take (l.length * 2) := by rw [flatK_spans, htk]
        have h2 : (Sort.flatK spRow 2 l.toArray).toList[j]? = (cur.toList.take (l.length * 2))[j]? := by rw [h1]
        rw [List.getElem?_take, if_pos hj2, Array.getElem?_toList, Array.getElem?_toList, Array.getElem?_eq_getElem hj, Array.getElem?_eq_getElem hjc] at h2
        rw [getElem!_pos (Sort.flatK spRow 2 l.toArray) j hj]
        exact Option.some.inj h2
      rw [e]
      constructor
      · simp [World.cell?, hg, hjc]
      · simp [World.frozen?, hg]
    have hcon := AnyQ.slices_SortFunc sortSpan 2 Tryd.isAgg36 Tryd.sizeOf36 spRow (fun _ => rfl) (fun x v hv => by simp [spRow] at hv; rcases hv with rfl | rfl <;> rfl) (fun x y => cmpF x.1 y.1) swo_span 22 #[] g 0 cap l.toArray w eg (fun _ _ _ _ x y => closure_any x y _) hH hlt (by simp; omega)
    change Calls Tryd.prog 21 _ _ _ at hcon
    refine Calls.mono hcon ?_
    rintro e w' ⟨rfl, d', n, os, hp, hs, rfl⟩
    obtain ⟨hp1, -, hp3⟩ := hp
    have hsz : d'.size = l.length := by simpa using hp1
    have hperm : d'.toList.Perm l := by
      have h1 : (d'.extract 0 l.toArray.size).toList = d'.toList := by
        rw [show l.toArray.size = d'.size from by simp [hsz], Array.extract_size]
      have h2 : (l.toArray.extract 0 l.toArray.size).toList = l := by rw [Array.extract_size]
      rw [h1, h2] at hp3
      exact hp3
    refine ⟨rfl, d'.toList, hperm, ?_, ?_, ?_⟩
    · rw [List.pairwise_iff_getElem]
      intro i j hi hj hij
      have := hs i j (Nat.zero_le _) hij (by simp at hj; simp; omega)
      rw [ltOf_span] at this
      simp at this hi hj
      rw [getElem!_pos d' j hj, getElem!_pos d' i hi] at this
      simpa using this
    · have hF : (Sort.flatK spRow 2 d').size = l.length * 2 := by simp [hsz]
      refine ⟨by rw [spCells_len]; simp [hsz], .inr ⟨g, cap, Sort.putCells id 0 (Sort.flatK spRow 2 d') cur, rfl, hB, ?_, hn, hm, ?_, ?_⟩⟩
      · show (w.heap.modify g (Sort.onCells (Sort.putCells id 0 (Sort.flatK spRow 2 d'))) ++ os)[g]? = _
        rw [Array.getElem?_append_left (by simpa using hlt), Array.getElem?_modify, if_pos rfl, hg]
        rfl
      · simp [Sort.putCells, hcs]
      · rw [← flatK_spans]
        apply List.ext_getElem?
        intro t
        by_cases ht : t < l.length * 2
        · have htc : t < cur.size := by omega
          have htf : t < (Sort.flatK spRow 2 d').size := by omega
          rw [List.getElem?_take, if_pos ht, Array.getElem?_toList, Array.getElem?_toList, Array.getElem?_eq_getElem htf]
          simp only [Sort.putCells, Array.getElem?_mapIdx, Array.getElem?_eq_getElem htc, Option.map_some]
          rw [if_pos ⟨Nat.zero_le _, by omega⟩]
          simp only [Nat.sub_zero, id_eq]
          rw [getElem!_pos (Sort.flatK spRow 2 d') t htf]
        · rw [List.getElem?_eq_none (by simp; omega), List.getElem?_eq_none (by simp; omega)]
    · refine ⟨rfl, rfl, rfl, ?_, fun k hk hne => ?_⟩
      · show _ ≤ (w.heap.modify g _ ++ os).size
        simp
      · show (w.heap.modify g _ ++ os)[k]? = _
        rw [Array.getElem?_append_left (by simpa using hk), Array.getElem?_modify, if_neg (fun e => hne (by rw [e]))]

end Go.Proofs.YtkcmkpljpmfiaaaDoor
