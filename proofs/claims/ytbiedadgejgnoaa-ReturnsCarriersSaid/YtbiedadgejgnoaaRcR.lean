/-
  ReturnsCarriers in plain words, second part: how many spans are allowed, and that they are merged.
-/
import Derived.Test.YtbiedadgejgnoaaRcP
import Derived.Test.YtbiedadgejgnoaaRtY
namespace Go.Proofs.Ytbiedadgejgnoaa
open Go.RowKit

theorem nodup_len : ∀ (a b : List Int), a.Nodup → (∀ x ∈ a, x ∈ b) → a.length ≤ b.length
  | [], _, _, _ => Nat.zero_le _
  | x :: a, b, hn, hs => by
    have hx : x ∈ b := hs x (by simp)
    have h1 := List.nodup_cons.1 hn
    have ih := nodup_len a (b.erase x) h1.2 (fun y hy => (List.mem_erase_of_ne (fun (e : y = x) => h1.1 (by rw [← e]; exact hy))).2 (hs y (by simp [hy])))
    have hl := List.length_erase_of_mem hx
    have hp : 0 < b.length := List.length_pos_of_mem hx
    rw [List.length_cons]
    omega
theorem wrongB_stay {r : Ret} {d : Int} (h1 : 1 ≤ d) (h2 : d ≠ r.fr) (h3 : d ≠ r.un + 1) : wrongB r (d - 1) = wrongB r d := by
  unfold wrongB
  split
  · have e1 : decide (d - 1 < r.fr) = decide (d < r.fr) := by rw [decide_eq_decide]; omega
    have e2 : decide (r.un < d - 1) = decide (r.un < d) := by rw [decide_eq_decide]; omega
    rw [e1, e2]
  · split
    · have e1 : decide (0 ≤ d - 1) = decide (0 ≤ d) := by rw [decide_eq_decide]; omega
      have e2 : decide (d - 1 ≤ r.un) = decide (d ≤ r.un) := by rw [decide_eq_decide]; omega
      rw [e1, e2]
    · have e1 : decide (0 ≤ d - 1) = decide (0 ≤ d) := by rw [decide_eq_decide]; omega
      rw [e1]
theorem apart_two {A : List (Int × Int)} (h : Apart A) {s t : Int × Int} (hs : s ∈ A) (ht : t ∈ A) (hne : s ≠ t) : s.2 + 1 < t.1 ∨ t.2 + 1 < s.1 := by
  obtain ⟨i, hi, rfl⟩ := List.mem_iff_getElem.1 hs
  obtain ⟨j, hj, rfl⟩ := List.mem_iff_getElem.1 ht
  have hp := List.pairwise_iff_getElem.1 h
  rcases Nat.lt_trichotomy i j with g | g | g
  · exact .inl (hp i j hi hj g)
  · subst g; exact absurd rfl hne
  · exact .inr (hp j i hj hi g)
theorem alw_range {l : List Ret} {cs : List (Int × Int)} {sent : Int} {out : List (Int × Int)} {nv : Bool} (h : Alw l cs sent out nv) {s : Int × Int} (hs : s ∈ out) : sent ≤ s.1 ∧ s.1 ≤ s.2 ∧ s.2 ≤ 3652058 := by
  have hv := h.val s hs
  have h1 := (h.cov s.1).1 ⟨s, hs, Int.le_refl _, hv⟩
  have h2 := (h.cov s.2).1 ⟨s, hs, hv, Int.le_refl _⟩
  exact ⟨h1.1, hv, h2.2.1⟩
theorem alw_start {l : List Ret} {cs : List (Int × Int)} {sent : Int} {out : List (Int × Int)} {nv : Bool} (h : Alw l cs sent out nv) (hs0 : 0 ≤ sent) {s : Int × Int} (hs : s ∈ out) : s.1 ∈ sent :: l.flatMap (fun r => [r.fr, r.un + 1]) := by
  have hr := alw_range h hs
  refine Classical.byContradiction (fun hn => ?_)
  rw [List.mem_cons] at hn
  have hn1 : s.1 ≠ sent := fun e => hn (.inl e)
  have hn2 : ∀ r ∈ l, s.1 ≠ r.fr ∧ s.1 ≠ r.un + 1 := fun r hr =>
    ⟨fun e => hn (.inr (List.mem_flatMap.2 ⟨r, hr, by rw [e]; simp⟩)), fun e => hn (.inr (List.mem_flatMap.2 ⟨r, hr, by rw [e]; simp⟩))⟩
  have he : excF l cs (s.1 - 1) = excF l cs s.1 := excF_same (fun r hr => wrongB_stay (by omega) (hn2 r hr).1 (hn2 r hr).2)
  have h1 := (h.cov s.1).1 ⟨s, hs, Int.le_refl _, hr.2.1⟩
  obtain ⟨t, ht, g1, g2⟩ := (h.cov (s.1 - 1)).2 ⟨by omega, by omega, fun p hp => by rw [he]; exact h1.2.2 p hp⟩
  rcases apart_two h.apart hs ht (fun e => by subst e; omega) with g | g
  · omega
  · omega
theorem alw_len {l : List Ret} {cs : List (Int × Int)} {sent : Int} {out : List (Int × Int)} {nv : Bool} (h : Alw l cs sent out nv) (hs0 : 0 ≤ sent) : out.length ≤ 1 + 2 * l.length := by
  have hn : (out.map (·.1)).Nodup := by
    refine List.pairwise_map.2 ((List.Pairwise.and_mem.1 h.apart).imp (fun {a b} hab => ?_))
    have := h.val a hab.1
    omega
  have hle := nodup_len _ (sent :: l.flatMap (fun r => [r.fr, r.un + 1])) hn (fun x hx => by
    obtain ⟨s, hs, rfl⟩ := List.mem_map.1 hx
    exact alw_start h hs0 hs)
  have e : (l.flatMap (fun r => [r.fr, r.un + 1])).length = 2 * l.length := by
    clear hle hn h
    induction l with
    | nil => rfl
    | cons r l ih => rw [List.flatMap_cons, List.length_append, ih, List.length_cons]; simp; omega
  rw [List.length_map, List.length_cons, e] at hle
  omega
theorem alw_SpB {l : List Ret} {cs : List (Int × Int)} {sent : Int} {out : List (Int × Int)} {nv : Bool} (h : Alw l cs sent out nv) (hs0 : 0 ≤ sent) : SpB out := fun s hs => by
  have := alw_range h hs
  omega
theorem alw_merged {l : List Ret} {cs : List (Int × Int)} {sent : Int} {out l' : List (Int × Int)} {nv : Bool} (h : Alw l cs sent out nv) (hp : l'.Perm out) (hs : l'.Pairwise (fun a b => a.1 ≤ b.1)) : mrgF l' = out := by
  rw [mrgF_eq h.val hp hs]
  obtain ⟨h1, h2, h3⟩ := mrg_law h.val
  exact apart_eq _ _ h1 h.val h2 h.apart h3
theorem rc_has {mine : List Ret} {tol sent truth : Int} {out : List (Int × Int)} {nv : Bool} (h : Alw mine [(0, tol)] sent out nv) (hc : ∀ x ∈ mine, x.car = 0) (hw : (mine.countP (fun r => wrongB r truth) : Int) ≤ tol) (hs0 : 0 ≤ sent) (ht : truth = -1 ∨ (sent ≤ truth ∧ truth ≤ 3652058)) :
    hasDay out nv truth = true := by
  obtain ⟨h1, h2⟩ := rc_allowed h hc hw ht
  rcases ht with rfl | ⟨g1, g2⟩
  · rw [hasDay_neg (by omega)]; exact h1 rfl
  · exact (hasDay_pos (by omega)).2 (h2 (by omega))

end Go.Proofs.Ytbiedadgejgnoaa
