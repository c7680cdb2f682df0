/-
  Each operation that ends without an error keeps a record valid. No program in sight.
-/
import Derived.Test.YtgfnelpfoegdaaaForkG
import Derived.Test.YtgfnelpfoegdaaaFWc
namespace Go.Proofs.Ytgfnelpfoegdaaa

theorem good_add {l : List Br} {k : Nat} {x : Br} {ev : Int} (hg : Good l) (hx : l[k]? = some x) (hs : sz x < 65536) : Good (l.set k { x with own := x.own ++ [ev] }) := by
  have hk := (List.getElem?_eq_some_iff.1 hx).1
  refine good_rows hg (by simp) (fun j => ?_) (fun i y y' hy hy' ho => ?_)
  · by_cases e : j = k
    · subst e; rw [List.getElem?_set_self hk, hx]; rfl
    · rw [List.getElem?_set_ne (by omega)]
  · by_cases e : i = k
    · subst e
      rw [List.getElem?_set_self hk] at hy'
      rw [hx] at hy
      cases hy
      cases hy'
      refine ⟨rfl, rfl, ?_, ?_, fun h => h, fun h1 h2 => (Bool.false_ne_true (h1.symm.trans h2)).elim, fun h1 h2 => (Bool.false_ne_true (h2.symm.trans h1)).elim⟩
      · unfold sz at hs ⊢; simp only [List.length_append, List.length_cons, List.length_nil]; omega
      · unfold sz; simp only [List.length_append, List.length_cons, List.length_nil]; omega
    · rw [List.getElem?_set_ne (by omega), hy] at hy'
      cases hy'
      exact ⟨rfl, rfl, ho.s, Int.le_refl _, fun h => h, fun h1 h2 => (Bool.false_ne_true (h1.symm.trans h2)).elim, fun h1 h2 => (Bool.false_ne_true (h2.symm.trans h1)).elim⟩

theorem good_remand {l : List Br} {k p : Nat} {x y : Br} (hg : Good l) (hx : l[k]? = some x) (hy : l[p]? = some y) (hpar : x.parent = p) (hany : l.any (asked k) = false) (hs : sz y + x.own.length ≤ 65536) :
    Good ((l.set p { y with own := y.own ++ x.own }).set k { x with opn := false }) := by
  have hk := (List.getElem?_eq_some_iff.1 hx).1
  have hp := (List.getElem?_eq_some_iff.1 hy).1
  have hpk : p < k := by have := (hg.ok hx).p2; omega
  have hrow : ∀ i : Nat, ((l.set p { y with own := y.own ++ x.own }).set k { x with opn := false })[i]? = if i = k then some { x with opn := false } else if i = p then some { y with own := y.own ++ x.own } else l[i]? := fun i => by
    by_cases e : i = k
    · subst e; rw [if_pos rfl, List.getElem?_set_self (by simpa using hk)]
    · rw [if_neg e, List.getElem?_set_ne (by omega)]
      by_cases e2 : i = p
      · subst e2; rw [if_pos rfl, List.getElem?_set_self hp]
      · rw [if_neg e2, List.getElem?_set_ne (by omega)]
  refine good_rows hg (by simp) (fun j => ?_) (fun i z z' hz hz' ho => ?_)
  · rw [hrow]
    by_cases e : j = k
    · subst e; rw [if_pos rfl, hx]; rfl
    · rw [if_neg e]
      by_cases e2 : j = p
      · subst e2; rw [if_pos rfl, hy]; rfl
      · rw [if_neg e2]
  · rw [hrow] at hz'
    by_cases e : i = k
    · subst e
      rw [if_pos rfl] at hz'
      rw [hx] at hz
      cases hz
      cases hz'
      refine ⟨rfl, rfl, ho.s, Int.le_refl _, (fun h => by cases h), (fun _ _ => by omega), fun _ _ j q hq hqo hqp => ?_⟩
      rw [hrow] at hq
      have hjk : j ≠ i := by
        intro e
        subst e
        rw [if_pos rfl] at hq
        cases hq
        cases hqo
      rw [if_neg hjk] at hq
      have hall : ∀ (m : Nat) q', l[m]? = some q' → asked i q' = false := fun m q' hq' => by
        cases h : asked i q' with
        | false => rfl
        | true =>
          have := List.any_eq_true.2 ⟨q', List.mem_of_getElem? hq', h⟩
          rw [hany] at this
          cases this
      by_cases e2 : j = p
      · subst e2
        rw [if_pos rfl] at hq
        cases hq
        have := hall j y hy
        unfold asked at this
        simp only at hqo hqp
        rw [hqo, hqp] at this
        simp at this
      · rw [if_neg e2] at hq
        have := hall j q hq
        unfold asked at this
        rw [hqo, hqp] at this
        simp at this
    · rw [if_neg e] at hz'
      by_cases e2 : i = p
      · subst e2
        rw [if_pos rfl] at hz'
        rw [hy] at hz
        cases hz
        cases hz'
        refine ⟨rfl, rfl, ?_, ?_, fun h => h, fun h1 h2 => (Bool.false_ne_true (h1.symm.trans h2)).elim, fun h1 h2 => (Bool.false_ne_true (h2.symm.trans h1)).elim⟩
        · unfold sz at hs ⊢; simp only [List.length_append]; omega
        · unfold sz; simp only [List.length_append]; omega
      · rw [if_neg e2, hz] at hz'
        cases hz'
        exact ⟨rfl, rfl, ho.s, Int.le_refl _, fun h => h, fun h1 h2 => (Bool.false_ne_true (h1.symm.trans h2)).elim, fun h1 h2 => (Bool.false_ne_true (h2.symm.trans h1)).elim⟩

theorem rootF_good {l : List Br} {n : Int} (hg : Good l) (h : (rootF l n).2.2 = 0) : Good (rootF l n).1 := by
  unfold rootF at h ⊢
  by_cases hn : 0 ≤ n ∧ n < 16
  · rw [if_pos hn] at h ⊢
    by_cases hf : 256 ≤ l.length
    · rw [if_pos hf] at h; cases h
    · rw [if_neg hf]; exact good_root hg (by omega) hn.1 hn.2
  · rw [if_neg hn] at h; cases h

theorem forkF_good {l : List Br} {b n : Int} (hg : Good l) (h : (forkF l b n).2.2 = 0) : Good (forkF l b n).1 := by
  by_cases hin : 0 ≤ b ∧ b < l.length
  · obtain ⟨k, rfl⟩ := Int.eq_ofNat_of_zero_le hin.1
    have hx := List.getElem?_eq_getElem (show k < l.length by omega)
    unfold forkF at h ⊢
    rw [if_neg (by omega), Int.toNat_natCast, hx] at h ⊢
    simp only at h ⊢
    by_cases h1 : ¬ (0 ≤ n ∧ n < 16)
    · rw [if_pos h1] at h; cases h
    rw [if_neg h1] at h ⊢
    by_cases h2 : l[k].opn = false
    · rw [if_pos h2] at h; cases h
    rw [if_neg h2] at h ⊢
    by_cases h3 : 8 ≤ depth l k
    · rw [if_pos h3] at h; cases h
    rw [if_neg h3] at h ⊢
    by_cases h4 : 256 ≤ l.length
    · rw [if_pos h4] at h; cases h
    rw [if_neg h4]
    exact good_fork hg hx (by omega) (by omega) (by omega) (by simpa using h2) (by omega)
  · rw [forkF_out hin] at h; cases h

theorem addF_good {l : List Br} {b ev : Int} (hg : Good l) (h : (addF l b ev).2 = 0) : Good (addF l b ev).1 := by
  by_cases hin : 0 ≤ b ∧ b < l.length
  · obtain ⟨k, rfl⟩ := Int.eq_ofNat_of_zero_le hin.1
    have hx := List.getElem?_eq_getElem (show k < l.length by omega)
    rw [addF_in hx] at h ⊢
    by_cases h1 : l[k].opn = false
    · rw [if_pos h1] at h; cases h
    rw [if_neg h1] at h ⊢
    by_cases h2 : 65536 ≤ sz l[k]
    · rw [if_pos h2] at h; cases h
    rw [if_neg h2]
    exact good_add hg hx (by omega)
  · rw [addF_out hin] at h; cases h

theorem remandF_good {l : List Br} {b : Int} (hg : Good l) (h : (remandF l b).2 = 0) : Good (remandF l b).1 := by
  by_cases hin : 0 ≤ b ∧ b < l.length
  · obtain ⟨k, rfl⟩ := Int.eq_ofNat_of_zero_le hin.1
    have hk : k < l.length := by omega
    have hx := List.getElem?_eq_getElem hk
    cases h1 : l[k].opn with
    | false => rw [remandF_closed hx h1] at h; cases h
    | true =>
      by_cases h2 : l[k].parent < 0
      · rw [remandF_root hx h1 h2] at h; cases h
      · obtain ⟨p, hpar, hpk, hpl⟩ := parent_in (hg.ok hx) hk h2
        have hy := List.getElem?_eq_getElem hpl
        rw [remandF_mid hx h1 hpar hy] at h ⊢
        cases h3 : l.any (asked k) with
        | true => simp only [h3, if_true] at h; cases h
        | false =>
          rw [h3] at h
          rw [if_neg Bool.false_ne_true] at h ⊢
          by_cases h4 : 65536 < sz l[p] + l[k].own.length
          · rw [if_pos h4] at h; cases h
          rw [if_neg h4]
          exact good_remand hg hx hy hpar h3 (by omega)
  · rw [remandF_out hin] at h; cases h

end Go.Proofs.Ytgfnelpfoegdaaa
