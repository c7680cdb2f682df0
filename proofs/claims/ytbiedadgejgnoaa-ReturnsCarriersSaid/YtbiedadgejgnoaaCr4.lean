/-
  Compare and Or at ints; what the closures of sorted say of deliveries.
-/
import Derived.Test.YtbiedadgejgnoaaCr3
import Derived.Test.YtbiedadgejgnoaaRtX
namespace Go.Proofs.Ytbiedadgejgnoaa
open Go.RowKit

def cmC (x y : Int) : Int := if x < y then -1 else if y < x then 1 else 0
theorem nanC (x : Int) (w : World) : Calls Try.prog 80 #[.int .i64 x] w fun e w' => e = .returned (.bool false) ∧ w = w' := by
  go_enter Try.func80, Try.ntmps80
  go_wp2
  go_ret
  simp
theorem compC (x y : Int) (w : World) : Calls Try.prog 56 #[.int .i64 x, .int .i64 y] w fun e w' => e = .returned (.int .i64 (cmC x y)) ∧ w = w' := by
  obtain ⟨r, hr⟩ : ∃ r, cmC x y = r := ⟨_, rfl⟩
  rw [hr]
  by_cases h1 : x < y
  · have hr1 : r = -1 := by rw [← hr]; unfold cmC; rw [if_pos h1]
    subst hr1
    clear hr
    go_enter Try.func56, Try.ntmps56
    go_wp2_with (go_at_call 80; refine (nanC _ _).mono ?_; rintro e w' ⟨rfl, rfl⟩)
    go_ret
    exact ⟨rfl, rfl⟩
  · have h1' : y ≤ x := by omega
    by_cases h2 : y < x
    · have hr1 : r = 1 := by rw [← hr]; unfold cmC; rw [if_neg h1, if_pos h2]
      subst hr1
      clear hr
      go_enter Try.func56, Try.ntmps56
      go_wp2_with (go_at_call 80; refine (nanC _ _).mono ?_; rintro e w' ⟨rfl, rfl⟩)
      go_ret
      exact ⟨rfl, rfl⟩
    · have hr1 : r = 0 := by rw [← hr]; unfold cmC; rw [if_neg h1, if_neg h2]
      subst hr1
      clear hr
      go_enter Try.func56, Try.ntmps56
      go_wp2_with (go_at_call 80; refine (nanC _ _).mono ?_; rintro e w' ⟨rfl, rfl⟩)
      go_ret
      exact ⟨rfl, rfl⟩

def orC (a b : Int) : Int := if a = 0 then b else a
theorem or2C (a b : Int) (g : Nat) (w : World) (h0 : w.cell? ⟨g, 0, none⟩ = some (.int .i64 a)) (h1 : w.cell? ⟨g, 1, none⟩ = some (.int .i64 b)) :
    Calls Try.prog 72 #[.slice (some ⟨g, 0, none⟩) 2 2] w fun e w' => e = .returned (.int .i64 (orC a b)) ∧ w = w' := by
  have H0 := Lib.hid h0
  have H1 := Lib.hid h1
  obtain ⟨R, hR⟩ : ∃ R, orC a b = R := ⟨_, rfl⟩
  have HRA : Hid (a ≠ 0 → R = a) := fun h => by rw [← hR]; exact if_neg h
  have HRB : Hid (a = 0 → R = b) := fun h => by rw [← hR]; exact if_pos h
  rw [hR]
  clear h0 h1 hR
  go_enter Try.func72, Try.ntmps72
  go_wp2_with fail
  go_loopw [8] (fun i wr => ∃ k : Nat, i = .int .i64 k ∧ k ≤ 2 ∧ wr = w ∧ Hid ((1 ≤ k → a = 0) ∧ (2 ≤ k → b = 0))) (fun i _ => 2 - (intOf i).toNat)
  case atStart => exact ⟨0, rfl, by omega, rfl, ⟨fun h => absurd h (by omega), fun h => absurd h (by omega)⟩⟩
  case round =>
    obtain ⟨k, rfl, hk, hw, HZ⟩ := hrel
    subst hw
    rcases (by omega : k = 0 ∨ k = 1 ∨ k = 2) with rfl | rfl | rfl
    · have c0 := H0.out
      by_cases hz : a = 0
      · subst hz
        go_wp2_with fail
        go_roundw
        case rel => exact ⟨1, by first | rfl | trivial, by first | trivial | omega, by first | trivial | rfl, by first | trivial | exact ⟨by first | trivial | exact fun _ => rfl, by first | trivial | exact fun h => absurd h (by omega)⟩⟩
        case measure => simp [intOf]
      · have hz' : (a == 0) = false := by simpa using hz
        have HRF := Lib.hid (HRA.out hz)
        clear hz
        go_wp2_with fail
        go_ret
        exact ⟨ret_int HRF.out.symm, rfl⟩
    · have c1 := H1.out
      by_cases hz : b = 0
      · subst hz
        have HZA := Lib.hid (HZ.out.1 (by omega))
        go_wp2_with fail
        go_roundw
        case rel => exact ⟨2, by first | rfl | trivial, by first | trivial | omega, by first | trivial | rfl, by first | trivial | exact ⟨by first | trivial | exact fun _ => HZA.out, by first | trivial | exact fun _ => rfl⟩⟩
        case measure => simp [intOf]
      · have hz' : (b == 0) = false := by simpa using hz
        have HRF := Lib.hid (HRB.out (HZ.out.1 (by omega)))
        clear hz
        go_wp2_with fail
        go_ret
        exact ⟨ret_int HRF.out.symm, rfl⟩
    · have HRF : Hid (R = 0) := (HRB.out (HZ.out.1 (by omega))).trans (HZ.out.2 (by omega))
      go_wp2_with fail
      go_ret
      exact ⟨ret_int HRF.out.symm, rfl⟩

theorem orC_neg (x y i k : Int) : orC (cmC x y) (cmC i k) < 0 ↔ (x < y ∨ (x = y ∧ i < k)) := by
  unfold orC cmC
  by_cases h1 : x < y
  · simp [h1]
  · by_cases h2 : y < x
    · simp [h1, h2]; omega
    · have h3 : x = y := by omega
      subst h3
      by_cases h4 : i < k
      · simp [h4]
      · by_cases h5 : k < i <;> simp [h4, h5]

theorem three_c {W : World} {B T : Nat} {a0 a1 a2 : Value} (h : W.heap[B]? = some (.cells #[a0, a1, a2] T)) :
    (W.cell? ⟨B, 0, none⟩ = some a0 ∧ W.cell? ⟨B, 1, none⟩ = some a1 ∧ W.cell? ⟨B, 2, none⟩ = some a2) ∧ ∀ i, W.frozen? ⟨B, i, none⟩ = false := by
  refine ⟨⟨?_, ?_, ?_⟩, fun i => ?_⟩
  · simp [World.cell?, h]
  · simp [World.cell?, h]
  · simp [World.cell?, h]
  · simp [World.frozen?, h]
theorem below_grown (W : World) (q : Nat) (os : Array Obj) : Below W.heap.size W (Sort.grow (W.drewN q) os) := by
  have h : ∀ (n : Nat) (l : List Obj) (X : World), X.heap.size = n → Below n X (Sort.grow X l.toArray) := by
    intro n l
    induction l generalizing n with
    | nil => intro X hX; subst hX; rw [Sort.grow_empty]; exact Below.refl _ _
    | cons o l ih =>
      intro X hX
      have e : Sort.grow X (o :: l).toArray = Sort.grow (X.alloc o) l.toArray := by rw [Sort.alloc_eq_grow, Sort.grow_grow]; congr 1; apply Array.ext'; simp
      rw [e]
      have h1 := ih (n + 1) (X.alloc o) (by simp [hX])
      exact ((Below.refl n X).alloc (by omega) o).trans (h1.mono (by omega))
  have h2 := h W.heap.size os.toList (W.drewN q) rfl
  rw [Array.toArray_toList] at h2
  exact (below_drewN (Below.refl _ _) q).trans h2

theorem grow_trans {w w1 w2 : World} (h1 : ∃ q os, w1 = Sort.grow (w.drewN q) os) (h2 : ∃ q os, w2 = Sort.grow (w1.drewN q) os) : ∃ q os, w2 = Sort.grow (w.drewN q) os := by
  obtain ⟨q1, os1, rfl⟩ := h1
  obtain ⟨q2, os2, rfl⟩ := h2
  refine ⟨q1 + q2, os1 ++ os2, ?_⟩
  rw [← World.drewN_drewN, ← Sort.grow_grow]
  rfl

/-! ### deliveries -/
theorem ofDel (x : Dl) (w : World) : Calls Try.prog 48 #[.agg (litDl x)] w fun e w' => e = .returned (.tuple #[.int .i64 x.day, .int .i64 x.att]) ∧ ∃ q os, w' = Sort.grow (w.drewN q) os := by
  obtain ⟨s0, s1, s2⟩ := x
  rw [show litDl ⟨s0, s1, s2⟩ = #[.int .i64 s0, .int .i64 s1, .int .i64 s2] from rfl]
  go_enter Try.func48, Try.ntmps48
  go_wp2_with fail
  go_region
  go_wp2_with fail
  go_ret2
  exact ⟨rfl, 1, _, by rw [Sort.alloc_eq_grow]; rfl⟩

/-- sorted's first closure: is the day behind the last? -/
theorem delDel (x : Dl) (until_ : Int) (F U : Nat) (w : World) (hF : w.cell? ⟨F, 0, none⟩ = some (.func (.func 48) #[] #[])) (hU : w.cell? ⟨U, 0, none⟩ = some (.int .i64 until_)) :
    Calls Try.prog 69 #[.agg (litDl x), .pointer (some ⟨F, 0, none⟩), .pointer (some ⟨U, 0, none⟩)] w fun e w' => e = .returned (.bool (decide (until_ < x.day))) ∧ Below w.heap.size w w' := by
  have HO := Lib.hid (ofDel x)
  obtain ⟨s0, s1, s2⟩ := x
  rw [show litDl ⟨s0, s1, s2⟩ = #[.int .i64 s0, .int .i64 s1, .int .i64 s2] from rfl] at HO ⊢
  simp only at HO ⊢
  obtain ⟨W0, hW0⟩ : ∃ W0, W0 = w.alloc (.cells #[.int .i64 s0, .int .i64 s1, .int .i64 s2] 82) := ⟨_, rfl⟩
  have hlF := World.block_lt_of_cell? _ _ hF
  have hlU := World.block_lt_of_cell? _ _ hU
  have hb0 : Below w.heap.size w W0 := by rw [hW0]; exact (Below.refl _ _).alloc (Nat.le_refl _) _
  have hF0 := (hb0.cell (p := ⟨F, 0, none⟩) hlF).trans hF
  have hU0 := (hb0.cell (p := ⟨U, 0, none⟩) hlU).trans hU
  obtain ⟨⟨k0, k1, k2⟩, -⟩ := three_c (show W0.heap[w.heap.size]? = some (.cells #[.int .i64 s0, .int .i64 s1, .int .i64 s2] 82) by rw [hW0]; exact heap_alloc_new w _)
  have HB0 := Lib.hid hb0
  have HU0 : Hid (∀ X, Below W0.heap.size W0 X → X.cell? ⟨U, 0, none⟩ = some (.int .i64 until_)) := fun X hX => (hX.cell (p := ⟨U, 0, none⟩) (Nat.lt_of_lt_of_le hlU hb0.size)).trans hU0
  rw [hW0] at hF0 k0 k1 k2
  have HW0 := Lib.hid hW0
  clear hF hU hb0 hU0 hlF hlU hW0
  go_enter Try.func69, Try.ntmps69
  go_wp2_with fail
  rw [← HW0.out]
  refine (HO.out W0).mono ?_
  rintro e w' ⟨rfl, q, os, rfl⟩
  have hb1 : Below W0.heap.size W0 (Sort.grow (W0.drewN q) os) := below_grown W0 q os
  have z := HU0.out _ hb1
  have HB1 := Lib.hid (Below.to HB0.out hb1 HB0.out.size)
  clear hb1 hF0 k0 k1 k2
  generalize Sort.grow (W0.drewN q) os = W1 at *
  go_wp2_with fail
  go_ret
  exact ⟨rfl, HB1.out⟩

/-- sorted's second closure: by the days, then by the attempts. -/
theorem cmpDel (x y : Dl) (F : Nat) (w : World) (hF : w.cell? ⟨F, 0, none⟩ = some (.func (.func 48) #[] #[])) :
    Calls Try.prog 71 #[.agg (litDl x), .agg (litDl y), .pointer (some ⟨F, 0, none⟩)] w fun e w' => e = .returned (.int .i64 (orC (cmC x.day y.day) (cmC x.att y.att))) ∧ ∃ q os, w' = Sort.grow (w.drewN q) os := by
  have HX := Lib.hid (ofDel x)
  have HY := Lib.hid (ofDel y)
  obtain ⟨s0, s1, s2⟩ := x
  obtain ⟨t0, t1, t2⟩ := y
  rw [show litDl ⟨s0, s1, s2⟩ = #[.int .i64 s0, .int .i64 s1, .int .i64 s2] from rfl] at HX ⊢
  rw [show litDl ⟨t0, t1, t2⟩ = #[.int .i64 t0, .int .i64 t1, .int .i64 t2] from rfl] at HY ⊢
  simp only at HX HY ⊢
  obtain ⟨W0, hW0⟩ : ∃ W0, W0 = (w.alloc (.cells #[.int .i64 s0, .int .i64 s1, .int .i64 s2] 82)).alloc (.cells #[.int .i64 t0, .int .i64 t1, .int .i64 t2] 82) := ⟨_, rfl⟩
  obtain ⟨P, hP⟩ : ∃ P, P = w.heap.size := ⟨_, rfl⟩
  have hlF := World.block_lt_of_cell? _ _ hF
  have hb0 : Below w.heap.size w W0 := by rw [hW0]; exact ((Below.refl _ _).alloc (Nat.le_refl _) _).alloc (by simp) _
  have hF0 := (hb0.cell (p := ⟨F, 0, none⟩) hlF).trans hF
  have hx0 : W0.heap[P]? = some (.cells #[.int .i64 s0, .int .i64 s1, .int .i64 s2] 82) := by rw [hW0, hP]; exact (Below.heap_alloc _ _ _ (by simp)).trans (heap_alloc_new w _)
  have hy0 : W0.heap[P + 1]? = some (.cells #[.int .i64 t0, .int .i64 t1, .int .i64 t2] 82) := by
    have h := heap_alloc_new (w.alloc (.cells #[.int .i64 s0, .int .i64 s1, .int .i64 s2] 82)) (.cells #[.int .i64 t0, .int .i64 t1, .int .i64 t2] 82)
    rw [World.size_alloc] at h
    rw [hW0, hP]
    exact h
  have hsz : P + 1 < W0.heap.size := by rw [hW0, hP]; simp
  obtain ⟨⟨k0, k1, k2⟩, -⟩ := three_c hx0
  have hG0 : ∃ q os, W0 = Sort.grow (w.drewN q) os := ⟨0, _, by rw [hW0, Sort.alloc_eq_grow, Sort.alloc_eq_grow, Sort.grow_grow]; rfl⟩
  have HG0 := Lib.hid hG0
  have HF0 : Hid (∀ X, Below W0.heap.size W0 X → X.cell? ⟨F, 0, none⟩ = some (.func (.func 48) #[] #[])) := fun X hX => (hX.cell (p := ⟨F, 0, none⟩) (Nat.lt_of_lt_of_le hlF hb0.size)).trans hF0
  have HY0 : Hid (∀ X, Below W0.heap.size W0 X → X.heap[P + 1]? = some (.cells #[.int .i64 t0, .int .i64 t1, .int .i64 t2] 82)) := fun X hX => (hX.block _ hsz).trans hy0
  rw [hW0] at hF0 k0 k1 k2
  rw [hP] at k0 k1 k2
  have HW0 := Lib.hid hW0
  have HP := Lib.hid hP
  clear hF hb0 hlF hW0 hP hx0 hy0 hsz hG0
  obtain ⟨c1, hc1⟩ : ∃ c, cmC s2 t2 = c := ⟨_, rfl⟩
  obtain ⟨c2, hc2⟩ : ∃ c, cmC s0 t0 = c := ⟨_, rfl⟩
  have HC1 : Hid (∀ W, Calls Try.prog 56 #[.int .i64 s2, .int .i64 t2] W fun e w' => e = .returned (.int .i64 c1) ∧ W = w') := by rw [← hc1]; exact fun W => compC s2 t2 W
  have HC2 : Hid (∀ W, Calls Try.prog 56 #[.int .i64 s0, .int .i64 t0] W fun e w' => e = .returned (.int .i64 c2) ∧ W = w') := by rw [← hc2]; exact fun W => compC s0 t0 W
  rw [hc1, hc2]
  clear hc1 hc2
  go_enter Try.func71, Try.ntmps71
  go_wp2_with fail
  rw [← HW0.out, ← HP.out]
  refine (HX.out W0).mono ?_
  rintro e w1 ⟨rfl, q1, os1, hw1⟩
  have hb1 : Below W0.heap.size W0 w1 := by rw [hw1]; exact below_grown W0 q1 os1
  have HG1 : Hid (∃ q os, w1 = Sort.grow (w.drewN q) os) := grow_trans HG0.out ⟨q1, os1, hw1⟩
  have f1 := HF0.out _ hb1
  obtain ⟨⟨m0, m1, m2⟩, -⟩ := three_c (HY0.out _ hb1)
  clear hF0 k0 k1 k2 hw1 hb1
  go_wp2_with fail
  refine (HY.out w1).mono ?_
  rintro e w2 ⟨rfl, q2, os2, hw2⟩
  have HG2 : Hid (∃ q os, w2 = Sort.grow (w.drewN q) os) := grow_trans HG1.out ⟨q2, os2, hw2⟩
  clear f1 m0 m1 m2 hw2
  go_wp2_with fail
  refine (HC1.out _).mono ?_
  rintro e w3 ⟨rfl, rfl⟩
  go_wp2_with fail
  refine (HC2.out _).mono ?_
  rintro e w4 ⟨rfl, rfl⟩
  have HOR := Lib.hid (or2C c1 c2 w2.heap.size (w2.alloc (.cells #[.int .i64 c1, .int .i64 c2] 3)) ((cells_alloc w2 #[.int .i64 c1, .int .i64 c2] 3 0).trans rfl) ((cells_alloc w2 #[.int .i64 c1, .int .i64 c2] 3 1).trans rfl))
  go_wp2_with fail
  refine HOR.out.mono ?_
  rintro e w5 ⟨rfl, rfl⟩
  go_wp2_with fail
  go_ret
  refine ⟨rfl, grow_trans HG2.out ⟨0, _, by rw [Sort.alloc_eq_grow]; rfl⟩⟩

end Go.Proofs.Ytbiedadgejgnoaa
