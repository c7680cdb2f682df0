/-
  The record of branches in plain functions: one step of a sequence of operations; what it does to the events of the branches that were there. No program in sight.
-/
import Derived.Test.YtgfnelpfoegdaaaForkK
namespace Go.Proofs.Ytgfnelpfoegdaaa

def rawF (l : List Br) (j b n : Int) : List Br × Int :=
  if j = 0 then ((rootF l n).1, (rootF l n).2.2)
  else if j = 1 ∨ j = 2 then ((forkF l b n).1, (forkF l b n).2.2)
  else if j = 3 then remandF l b
  else addF l b n

def stepF (l : List Br) (j b n : Int) : List Br × Int := if (rawF l j b n).2 = 0 then rawF l j b n else (l, (rawF l j b n).2)

theorem stepF_ok {l : List Br} {j b n : Int} (h : (rawF l j b n).2 = 0) : stepF l j b n = ((rawF l j b n).1, 0) := by
  unfold stepF; rw [if_pos h]; rw [← h]
theorem stepF_err {l : List Br} {j b n : Int} (h : (rawF l j b n).2 ≠ 0) : stepF l j b n = (l, (rawF l j b n).2) := by
  unfold stepF; rw [if_neg h]

theorem rootF_ok {l : List Br} {n : Int} (h : (rootF l n).2.2 = 0) : ∃ x, (rootF l n).1 = l ++ [x] := by
  unfold rootF at h ⊢
  by_cases hn : 0 ≤ n ∧ n < 16
  · rw [if_pos hn] at h ⊢
    by_cases hl : 256 ≤ l.length
    · rw [if_pos hl] at h; simp at h
    · rw [if_neg hl]; exact ⟨_, rfl⟩
  · rw [if_neg hn] at h; simp at h

theorem forkF_ok {l : List Br} {b n : Int} (h : (forkF l b n).2.2 = 0) : ∃ x, (forkF l b n).1 = l ++ [x] := by
  unfold forkF at h ⊢
  split at h
  · simp at h
  · rename_i h0
    rw [if_neg h0]
    split at h
    · simp at h
    · rename_i x hx
      by_cases h1 : ¬ (0 ≤ n ∧ n < 16)
      · rw [if_pos h1] at h; simp at h
      · rw [if_neg h1] at h ⊢
        by_cases h2 : x.opn = false
        · rw [if_pos h2] at h; simp at h
        · rw [if_neg h2] at h ⊢
          by_cases h3 : 8 ≤ depth l b.toNat
          · rw [if_pos h3] at h; simp at h
          · rw [if_neg h3] at h ⊢
            by_cases h4 : 256 ≤ l.length
            · rw [if_pos h4] at h; simp at h
            · rw [if_neg h4]; exact ⟨_, rfl⟩

theorem addF_okk {l : List Br} {b ev : Int} (h : (addF l b ev).2 = 0) : ∃ (k : Nat) (x : Br), b = k ∧ l[k]? = some x ∧ (addF l b ev).1 = l.set k { x with own := x.own ++ [ev] } := by
  unfold addF at h ⊢
  split at h
  · simp at h
  · rename_i h0
    rw [if_neg h0]
    split at h
    · simp at h
    · rename_i x hx
      by_cases h2 : x.opn = false
      · rw [if_pos h2] at h; simp at h
      · rw [if_neg h2] at h ⊢
        by_cases h3 : 65536 ≤ sz x
        · rw [if_pos h3] at h; simp at h
        · rw [if_neg h3]
          exact ⟨b.toNat, x, by omega, hx, rfl⟩

theorem events_push {l : List Br} {y : Br} (hg : Good l) : ∀ i : Nat, i < l.length → events (l ++ [y]) i = events l i := by
  intro i
  induction i using Nat.strongRecOn with
  | ind i ih =>
    intro hi
    have hz := List.getElem?_eq_getElem hi
    have hok := hg.ok hz
    rw [events_some hz hok.p2, events_some (x := l[i]) (by rw [List.getElem?_append_left hi]; exact hz) hok.p2]
    congr 2
    by_cases h0 : l[i].parent < 0
    · rw [eventsZ_neg h0, eventsZ_neg h0]
    · obtain ⟨q, hq⟩ := Int.eq_ofNat_of_zero_le (by omega : 0 ≤ l[i].parent)
      have hp2 := hok.p2
      rw [hq] at hp2 ⊢
      rw [eventsZ_nat, eventsZ_nat, ih q (by omega) (by omega)]

theorem events_add {l : List Br} {k : Nat} {x : Br} {ev : Int} (hg : Good l) (hx : l[k]? = some x) :
    ∀ i : Nat, i < l.length → events (l.set k { x with own := x.own ++ [ev] }) i = events l i ++ (if i = k then [ev] else []) := by
  intro i
  induction i using Nat.strongRecOn with
  | ind i ih =>
    intro hi
    obtain ⟨z, hz⟩ : ∃ z, l[i]? = some z := ⟨_, List.getElem?_eq_getElem hi⟩
    have hok := hg.ok hz
    obtain ⟨z', hz', e1, e2, e3⟩ : ∃ z', (l.set k { x with own := x.own ++ [ev] })[i]? = some z' ∧ z'.parent = z.parent ∧ z'.at_ = z.at_ ∧ z'.own = z.own ++ (if i = k then [ev] else []) := by
      by_cases hik : i = k
      · subst hik
        rw [hx] at hz
        cases hz
        refine ⟨{ x with own := x.own ++ [ev] }, by rw [List.getElem?_set_self hi], rfl, rfl, ?_⟩
        rw [if_pos rfl]
      · refine ⟨z, by rw [List.getElem?_set_ne (by omega)]; exact hz, rfl, rfl, ?_⟩
        rw [if_neg hik]
        simp
    rw [events_some hz' (by rw [e1]; exact hok.p2), events_some hz hok.p2, e1, e2, e3, ← List.append_assoc]
    congr 2
    by_cases h0 : z.parent < 0
    · rw [eventsZ_neg h0, eventsZ_neg h0]
    · obtain ⟨q, hq⟩ := Int.eq_ofNat_of_zero_le (by omega : 0 ≤ z.parent)
      have hm := eventsZ_most (hg.str i) hz
      have ha := hok.a2
      have hp2 := hok.p2
      rw [hq] at hm hp2 ⊢
      rw [eventsZ_nat] at hm ⊢
      rw [eventsZ_nat, ih q (by omega) (by omega), List.take_append_of_le_length (by omega)]

theorem stepF_len {l : List Br} {j b n : Int} (hg : Good l) : l.length ≤ (stepF l j b n).1.length := by
  by_cases h : (rawF l j b n).2 = 0
  · rw [stepF_ok h]
    simp only
    unfold rawF at h ⊢
    by_cases h0 : j = 0
    · rw [if_pos h0] at h ⊢
      obtain ⟨x, hx⟩ := rootF_ok h
      simp [hx]
    · rw [if_neg h0] at h ⊢
      by_cases h1 : j = 1 ∨ j = 2
      · rw [if_pos h1] at h ⊢
        obtain ⟨x, hx⟩ := forkF_ok h
        simp [hx]
      · rw [if_neg h1] at h ⊢
        by_cases h3 : j = 3
        · rw [if_pos h3] at h ⊢
          by_cases hb : b < 0
          · unfold remandF at h; rw [if_pos hb] at h; simp at h
          · obtain ⟨k, rfl⟩ := Int.eq_ofNat_of_zero_le (by omega : 0 ≤ b)
            obtain ⟨p, x, y, -, -, -, -, hm⟩ := remandF_ok hg h
            rw [hm]; simp
        · rw [if_neg h3] at h ⊢
          obtain ⟨k, x, -, -, hx⟩ := addF_okk h
          simp [hx]
  · rw [stepF_err h]; exact Nat.le_refl _

theorem stepF_good {l : List Br} {j b n : Int} (hg : Good l) : Good (stepF l j b n).1 := by
  by_cases h : (rawF l j b n).2 = 0
  · rw [stepF_ok h]
    simp only
    unfold rawF at h ⊢
    by_cases h0 : j = 0
    · rw [if_pos h0] at h ⊢; exact rootF_good hg h
    · rw [if_neg h0] at h ⊢
      by_cases h1 : j = 1 ∨ j = 2
      · rw [if_pos h1] at h ⊢; exact forkF_good hg h
      · rw [if_neg h1] at h ⊢
        by_cases h3 : j = 3
        · rw [if_pos h3] at h ⊢; exact remandF_good hg h
        · rw [if_neg h3] at h ⊢; exact addF_good hg h
  · rw [stepF_err h]; exact hg

theorem step_events {l : List Br} {j b n : Int} (hg : Good l) (hj : 0 ≤ j) (c : Nat) (hc : c < l.length) :
    ∃ more, events (stepF l j b n).1 c = events l c ++ more ∧ (((j ≠ 3 ∧ (j < 3 ∨ (c : Int) ≠ b)) ∨ (stepF l j b n).2 ≠ 0) → more = []) := by
  by_cases h : (rawF l j b n).2 = 0
  · rw [stepF_ok h]
    simp only
    unfold rawF at h ⊢
    by_cases h0 : j = 0
    · rw [if_pos h0] at h ⊢
      obtain ⟨x, hx⟩ := rootF_ok h
      exact ⟨[], by simp only [hx]; rw [events_push hg c hc]; simp, fun _ => rfl⟩
    · rw [if_neg h0] at h ⊢
      by_cases h1 : j = 1 ∨ j = 2
      · rw [if_pos h1] at h ⊢
        obtain ⟨x, hx⟩ := forkF_ok h
        exact ⟨[], by simp only [hx]; rw [events_push hg c hc]; simp, fun _ => rfl⟩
      · rw [if_neg h1] at h ⊢
        by_cases h3 : j = 3
        · rw [if_pos h3] at h ⊢
          by_cases hb : b < 0
          · unfold remandF at h; rw [if_pos hb] at h; simp at h
          · obtain ⟨k, rfl⟩ := Int.eq_ofNat_of_zero_le (by omega : 0 ≤ b)
            obtain ⟨p, x, y, hx, hy, -, hpk, hm⟩ := remandF_ok hg h
            rw [hm]
            refine ⟨_, events_remand hg hx hy hpk c hc, fun hs => ?_⟩
            rcases hs with hs | hs
            · exact absurd h3 hs.1
            · exact absurd rfl hs
        · rw [if_neg h3] at h ⊢
          obtain ⟨k, x, rfl, hx, hm⟩ := addF_okk h
          rw [hm]
          refine ⟨_, events_add hg hx c hc, fun hs => ?_⟩
          have hne : c ≠ k := by
            rcases hs with ⟨-, hs | hs⟩ | hs
            · exfalso
              omega
            · omega
            · exact absurd rfl hs
          rw [if_neg hne]
  · rw [stepF_err h]; exact ⟨[], by simp, fun _ => rfl⟩

end Go.Proofs.Ytgfnelpfoegdaaa
