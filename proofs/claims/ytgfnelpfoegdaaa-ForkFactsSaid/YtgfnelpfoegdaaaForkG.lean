/-
  The operations keep a record valid. No program in sight.
-/
import Derived.Test.YtgfnelpfoegdaaaForkF
namespace Go.Proofs.Ytgfnelpfoegdaaa

theorem chain_congr {l l' : List Br} : ∀ i : Nat, (∀ j, j ≤ i → (l[j]?).map Br.parent = (l'[j]?).map Br.parent) → chain l i = chain l' i := by
  intro i
  induction i using Nat.strongRecOn with
  | ind i ih =>
    intro h
    have h0 := h i (Nat.le_refl _)
    unfold chain
    cases hx : l[i]? with
    | none =>
      rw [hx] at h0
      cases hy : l'[i]? with
      | none => rfl
      | some y => rw [hy] at h0; cases h0
    | some x =>
      rw [hx] at h0
      cases hy : l'[i]? with
      | none => rw [hy] at h0; cases h0
      | some y =>
        rw [hy] at h0
        have hp : x.parent = y.parent := Option.some.inj h0
        simp only [hp]
        by_cases hc : 0 ≤ y.parent ∧ y.parent < i
        · rw [dif_pos hc, dif_pos hc, ih y.parent.toNat (by omega) (fun j hj => h j (by omega))]
        · rw [dif_neg hc, dif_neg hc]

theorem depth_congr {l l' : List Br} {i : Nat} (h : ∀ j, j ≤ i → (l[j]?).map Br.parent = (l'[j]?).map Br.parent) : depth l i = depth l' i := by
  unfold depth; rw [chain_congr i h]

/-- A branch stays valid where its own row is the same and its parent has not shrunk and is open still, if it was. -/
theorem OkBr.keep {l l' : List Br} {i : Nat} {x : Br} (h : OkBr l i x) (hd : depth l' i = depth l i) (hm : most l x ≤ most l' x) (hp : x.opn = true → popen l x = true → popen l' x = true) : OkBr l' i x :=
  ⟨h.p1, h.p2, h.c, h.a1, Int.le_trans h.a2 hm, by rw [hd]; exact h.d, h.s, fun ho => hp ho (h.o1 ho), h.o2⟩

theorem most_at {l : List Br} {x y : Br} {p : Nat} (hp : x.parent = p) (hy : l[p]? = some y) : most l x = sz y := by
  unfold most; rw [if_neg (by omega), hp, Int.toNat_natCast, hy]
theorem popen_at {l : List Br} {x y : Br} {p : Nat} (hp : x.parent = p) (hy : l[p]? = some y) : popen l x = y.opn := by
  unfold popen; rw [if_neg (by omega), hp, Int.toNat_natCast, hy]
theorem most_neg {l : List Br} {x : Br} (hp : x.parent < 0) : most l x = 0 := if_pos hp
theorem popen_neg {l : List Br} {x : Br} (hp : x.parent < 0) : popen l x = true := if_pos hp

/-- A new branch. -/
theorem good_push {l : List Br} {y : Br} (hg : Good l) (hlen : l.length < 256) (hy : OkBr (l ++ [y]) l.length y) : Good (l ++ [y]) := by
  refine ⟨by simp; omega, fun i x hi hx => ?_⟩
  simp at hi
  by_cases e : i < l.length
  · rw [List.getElem?_append_left e] at hx
    have ho := hg.ok hx
    have hsame : ∀ j, j ≤ i → ((l ++ [y])[j]?).map Br.parent = (l[j]?).map Br.parent := fun j hj => by rw [List.getElem?_append_left (by omega)]
    have hpp : ∀ p : Nat, x.parent = p → (l ++ [y])[p]? = l[p]? := fun p hp => by have := ho.p2; rw [List.getElem?_append_left (by omega)]
    by_cases hn : x.parent < 0
    · exact ho.keep (depth_congr hsame) (by rw [most_neg hn, most_neg hn]; exact Int.le_refl _) (fun _ _ => popen_neg hn)
    · obtain ⟨p, hp⟩ := Int.eq_ofNat_of_zero_le (by omega : 0 ≤ x.parent)
      have hpl : p < l.length := by have := ho.p2; omega
      have hz := List.getElem?_eq_getElem hpl
      have hz' := (hpp p hp).trans hz
      exact ho.keep (depth_congr hsame) (by rw [most_at hp hz, most_at hp hz']; exact Int.le_refl _) (fun _ h => by rw [popen_at hp hz']; rw [popen_at hp hz] at h; exact h)
  · obtain rfl : i = l.length := by omega
    simp at hx
    subst hx
    exact hy

theorem chain_root {l : List Br} {i : Nat} {x : Br} (hx : l[i]? = some x) (hp : x.parent < 0) : depth l i = 0 := by
  unfold depth chain
  rw [hx]
  simp only
  rw [dif_neg (by omega)]
  rfl

theorem good_root {l : List Br} {n : Int} (hg : Good l) (hlen : l.length < 256) (h0 : 0 ≤ n) (h1 : n < 16) : Good (l ++ [⟨-1, n, 0, [], true⟩]) := by
  refine good_push hg hlen ⟨by simp, by simp; omega, ⟨h0, h1⟩, by simp, ?_, ?_, by simp [sz], fun _ => popen_neg (by simp), fun h => by cases h⟩
  · rw [most_neg (by simp)]; simp
  · rw [chain_root (x := ⟨-1, n, 0, [], true⟩) (by simp) (by simp)]; omega

theorem good_fork {l : List Br} {k : Nat} {x : Br} {n : Int} (hg : Good l) (hx : l[k]? = some x) (hlen : l.length < 256) (h0 : 0 ≤ n) (h1 : n < 16) (ho : x.opn = true) (hd : depth l k < 8) :
    Good (l ++ [⟨k, n, sz x, [], true⟩]) := by
  have hk := (List.getElem?_eq_some_iff.1 hx).1
  have hok := hg.ok hx
  have hz : (l ++ [(⟨(k : Int), n, sz x, [], true⟩ : Br)])[k]? = some x := by rw [List.getElem?_append_left hk]; exact hx
  have hs0 : 0 ≤ sz x := by have := hok.a1; unfold sz; omega
  refine good_push hg hlen ⟨by simp only; omega, by simp only; omega, ⟨h0, h1⟩, hs0, ?_, ?_, ?_, fun _ => ?_, fun h => by cases h⟩
  · rw [most_at (p := k) rfl hz]; exact Int.le_refl _
  · have hc : chain (l ++ [(⟨(k : Int), n, sz x, [], true⟩ : Br)]) l.length = l.length :: chain l k := by
      rw [chain_some (x := ⟨(k : Int), n, sz x, [], true⟩) (by simp) (by simp only; omega)]
      simp only
      rw [chainZ_nat]
      congr 1
      exact chain_congr k (fun j hj => by rw [List.getElem?_append_left (by omega)])
    have hne : chain l k ≠ [] := by unfold chain; rw [hx]; simp
    have hpos : 0 < (chain l k).length := List.length_pos_iff.2 hne
    unfold depth at hd ⊢
    rw [hc, List.length_cons]
    omega
  · have := hok.s; unfold sz at this ⊢; simp only [List.length_nil]; omega
  · rw [popen_at (p := k) rfl hz]; exact ho

/-- Rows change, but no parent does: what is to be shown of each branch. -/
theorem good_rows {l l' : List Br} (hg : Good l) (hlen : l'.length = l.length) (hpar : ∀ j : Nat, (l'[j]?).map Br.parent = (l[j]?).map Br.parent)
    (h : ∀ i x x', l[i]? = some x → l'[i]? = some x' → OkBr l i x → x'.court = x.court ∧ x'.at_ = x.at_ ∧ sz x' ≤ 65536 ∧ sz x ≤ sz x' ∧ (x'.opn = true → x.opn = true) ∧ (x'.opn = false → x.opn = true → 0 ≤ x.parent) ∧
      (x.opn = true → x'.opn = false → ∀ (j : Nat) y, l'[j]? = some y → y.opn = true → y.parent ≠ i)) : Good l' := by
  refine ⟨by rw [hlen]; exact hg.1, fun i x' hi hx' => ?_⟩
  rw [hlen] at hi
  have hx := List.getElem?_eq_getElem hi
  have hok := hg.ok hx
  obtain ⟨g1, g2, g3, g4, g5, g6, g7⟩ := h i _ _ hx hx' hok
  have hp : x'.parent = l[i].parent := by
    have := hpar i
    rw [hx, hx'] at this
    exact Option.some.inj this
  have hd : depth l' i = depth l i := depth_congr (fun j _ => hpar j)
  refine ⟨by rw [hp]; exact hok.p1, by rw [hp]; exact hok.p2, by rw [g1]; exact hok.c, by rw [g2]; exact hok.a1, ?_, by rw [hd]; exact hok.d, g3, ?_, ?_⟩
  · rw [g2]
    by_cases hn : x'.parent < 0
    · rw [most_neg hn]
      have := hok.a2
      rw [most_neg (by rw [← hp]; exact hn)] at this
      exact this
    · obtain ⟨p, hpp⟩ := Int.eq_ofNat_of_zero_le (by omega : 0 ≤ x'.parent)
      have hpl : p < l.length := by have := hok.p2; omega
      have hz := List.getElem?_eq_getElem hpl
      have hz' := List.getElem?_eq_getElem (show p < l'.length by omega)
      rw [most_at hpp hz']
      have := hok.a2
      rw [most_at (hp.symm.trans hpp) hz] at this
      exact Int.le_trans this (h p _ _ hz hz' (hg.ok hz)).2.2.2.1
  · intro ho
    have ho1 := hok.o1 (g5 ho)
    by_cases hn : x'.parent < 0
    · exact popen_neg hn
    · obtain ⟨p, hpp⟩ := Int.eq_ofNat_of_zero_le (by omega : 0 ≤ x'.parent)
      have hpl : p < l.length := by have := hok.p2; omega
      have hz := List.getElem?_eq_getElem hpl
      have hz' := List.getElem?_eq_getElem (show p < l'.length by omega)
      rw [popen_at (hp.symm.trans hpp) hz] at ho1
      rw [popen_at hpp hz']
      cases hq : l'[p].opn with
      | true => rfl
      | false => exact absurd hpp ((h p _ _ hz hz' (hg.ok hz)).2.2.2.2.2.2 ho1 hq i x' hx' ho)
  · intro ho
    rw [hp]
    cases hq : l[i].opn with
    | true => exact g6 ho hq
    | false => exact hok.o2 hq

end Go.Proofs.Ytgfnelpfoegdaaa
