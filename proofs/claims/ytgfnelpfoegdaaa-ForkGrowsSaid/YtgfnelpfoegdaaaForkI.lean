/-
  The record of branches in plain functions: what a remand does to the events of all branches. No program in sight.
-/
import Derived.Test.YtgfnelpfoegdaaaForkH
namespace Go.Proofs.Ytgfnelpfoegdaaa

theorem remandF_err {l : List Br} {b : Int} (h : (remandF l b).2 ≠ 0) : (remandF l b).1 = [] := by
  unfold remandF at h ⊢
  split
  · rfl
  · split
    · rfl
    · split
      · rfl
      · split
        · rfl
        · split
          · rfl
          · split
            · rfl
            · rename_i h1 _ x h2 h3 h4 _ y h5 h6
              exfalso
              apply h
              rw [if_neg h1, h2]
              simp only
              rw [if_neg h3, if_neg h4, h5]
              simp only
              rw [if_neg h6]

theorem remandF_ok {l : List Br} {k : Nat} (hg : Good l) (h : (remandF l k).2 = 0) : ∃ (p : Nat) (x y : Br), l[k]? = some x ∧ l[p]? = some y ∧ x.parent = p ∧ p < k ∧
    remandF l k = ((l.set p { y with own := y.own ++ x.own }).set k { x with opn := false }, 0) := by
  unfold remandF at h ⊢
  rw [if_neg (by omega)] at h ⊢
  simp only [Int.toNat_natCast] at h ⊢
  cases hx : l[k]? with
  | none => rw [hx] at h; simp at h
  | some x =>
    rw [hx] at h
    simp only at h ⊢
    by_cases h1 : x.opn = false
    · rw [if_pos h1] at h; simp at h
    · rw [if_neg h1] at h ⊢
      by_cases h2 : x.parent < 0 ∨ l.any (fun y => y.opn && y.parent == k) = true
      · rw [if_pos h2] at h; simp at h
      · rw [if_neg h2] at h ⊢
        obtain ⟨p, hp⟩ := Int.eq_ofNat_of_zero_le (by omega : 0 ≤ x.parent)
        have hpk := (hg.ok hx).p2
        rw [hp] at h ⊢
        simp only [Int.toNat_natCast] at h ⊢
        cases hy : l[p]? with
        | none => rw [hy] at h; simp at h
        | some y =>
          rw [hy] at h
          simp only at h ⊢
          by_cases h3 : 65536 < sz y + x.own.length
          · rw [if_pos h3] at h; simp at h
          · rw [if_neg h3]
            exact ⟨p, x, y, rfl, hy, hp, by omega, by rw [hp]⟩

theorem events_remand {l : List Br} {k p : Nat} {x y : Br} (hg : Good l) (hx : l[k]? = some x) (hy : l[p]? = some y) (hpk : p < k) :
    ∀ i : Nat, i < l.length → events ((l.set p { y with own := y.own ++ x.own }).set k { x with opn := false }) i = events l i ++ (if i = p then x.own else []) := by
  intro i
  induction i using Nat.strongRecOn with
  | ind i ih =>
    intro hi
    obtain ⟨z, hz⟩ : ∃ z, l[i]? = some z := ⟨_, List.getElem?_eq_getElem hi⟩
    have hok := hg.ok hz
    obtain ⟨z', hz', e1, e2, e3⟩ : ∃ z', ((l.set p { y with own := y.own ++ x.own }).set k { x with opn := false })[i]? = some z' ∧ z'.parent = z.parent ∧ z'.at_ = z.at_ ∧ z'.own = z.own ++ (if i = p then x.own else []) := by
      by_cases hik : i = k
      · subst hik
        rw [hx] at hz
        cases hz
        refine ⟨{ x with opn := false }, by rw [List.getElem?_set_self (by simpa using hi)], rfl, rfl, ?_⟩
        rw [if_neg (by omega)]
        simp
      · by_cases hip : i = p
        · subst hip
          rw [hy] at hz
          cases hz
          refine ⟨{ y with own := y.own ++ x.own }, by rw [List.getElem?_set_ne (by omega), List.getElem?_set_self hi], rfl, rfl, ?_⟩
          rw [if_pos rfl]
        · refine ⟨z, by rw [List.getElem?_set_ne (by omega), List.getElem?_set_ne (by omega)]; exact hz, rfl, rfl, ?_⟩
          rw [if_neg hip]
          simp
    rw [events_some hz' (by rw [e1]; exact hok.p2), events_some hz hok.p2, e1, e2, e3, ← List.append_assoc]
    congr 2
    by_cases h0 : z.parent < 0
    · rw [eventsZ_neg h0, eventsZ_neg h0]
    · obtain ⟨q, hq⟩ := Int.eq_ofNat_of_zero_le (by omega : 0 ≤ z.parent)
      have hm := eventsZ_most (hg.str i) hz
      have ha := hok.a2
      have hp2 := hok.p2
      rw [hq] at hm hp2 ⊢
      rw [eventsZ_nat] at hm ⊢
      rw [eventsZ_nat, ih q (by omega) (by omega), List.take_append_of_le_length (by omega)]

end Go.Proofs.Ytgfnelpfoegdaaa
