/-
  What the closures of sorted say of reports. (Printed by wip/tools/gen_cr5.py.)
-/
import Derived.Test.YtbiedadgejgnoaaCr4
namespace Go.Proofs.Ytbiedadgejgnoaa
open Go.RowKit

theorem six_c {W : World} {B T : Nat} {a0 a1 a2 a3 a4 a5 : Value} (h : W.heap[B]? = some (.cells #[a0, a1, a2, a3, a4, a5] T)) :
    (W.cell? ⟨B, 0, none⟩ = some a0 ∧ W.cell? ⟨B, 1, none⟩ = some a1 ∧ W.cell? ⟨B, 2, none⟩ = some a2 ∧ W.cell? ⟨B, 3, none⟩ = some a3 ∧ W.cell? ⟨B, 4, none⟩ = some a4 ∧ W.cell? ⟨B, 5, none⟩ = some a5) ∧ ∀ i, W.frozen? ⟨B, i, none⟩ = false := by
  refine ⟨⟨?_, ?_, ?_, ?_, ?_, ?_⟩, fun i => ?_⟩
  · simp [World.cell?, h]
  · simp [World.cell?, h]
  · simp [World.cell?, h]
  · simp [World.cell?, h]
  · simp [World.cell?, h]
  · simp [World.cell?, h]
  · simp [World.frozen?, h]

theorem ofRep (x : Rp) (w : World) : Calls Try.prog 50 #[.agg (litRp x)] w fun e w' => e = .returned (.tuple #[.int .i64 x.day, .int .i64 x.att]) ∧ ∃ q os, w' = Sort.grow (w.drewN q) os := by
  obtain ⟨s0, s1, ⟨s2, s3, s4, s5⟩⟩ := x
  rw [show litRp ⟨s0, s1, ⟨s2, s3, s4, s5⟩⟩ = #[.int .i64 s0, .int .i64 s1, .int .i64 s2, .int .i64 s3, .int .i64 s4, .int .i64 s5] from rfl]
  go_enter Try.func50, Try.ntmps50
  go_wp2_with fail
  go_region
  go_wp2_with fail
  go_ret2
  exact ⟨rfl, 1, _, by rw [Sort.alloc_eq_grow]; rfl⟩

/-- sorted's first closure: is the day behind the last? -/
theorem delRep (x : Rp) (until_ : Int) (F U : Nat) (w : World) (hF : w.cell? ⟨F, 0, none⟩ = some (.func (.func 50) #[] #[])) (hU : w.cell? ⟨U, 0, none⟩ = some (.int .i64 until_)) :
    Calls Try.prog 74 #[.agg (litRp x), .pointer (some ⟨F, 0, none⟩), .pointer (some ⟨U, 0, none⟩)] w fun e w' => e = .returned (.bool (decide (until_ < x.day))) ∧ Below w.heap.size w w' := by
  have HO := Lib.hid (ofRep x)
  obtain ⟨s0, s1, ⟨s2, s3, s4, s5⟩⟩ := x
  rw [show litRp ⟨s0, s1, ⟨s2, s3, s4, s5⟩⟩ = #[.int .i64 s0, .int .i64 s1, .int .i64 s2, .int .i64 s3, .int .i64 s4, .int .i64 s5] from rfl] at HO ⊢
  simp only at HO ⊢
  obtain ⟨W0, hW0⟩ : ∃ W0, W0 = w.alloc (.cells #[.int .i64 s0, .int .i64 s1, .int .i64 s2, .int .i64 s3, .int .i64 s4, .int .i64 s5] 62) := ⟨_, rfl⟩
  have hlF := World.block_lt_of_cell? _ _ hF
  have hlU := World.block_lt_of_cell? _ _ hU
  have hb0 : Below w.heap.size w W0 := by rw [hW0]; exact (Below.refl _ _).alloc (Nat.le_refl _) _
  have hF0 := (hb0.cell (p := ⟨F, 0, none⟩) hlF).trans hF
  have hU0 := (hb0.cell (p := ⟨U, 0, none⟩) hlU).trans hU
  obtain ⟨⟨k0, k1, k2, k3, k4, k5⟩, -⟩ := six_c (show W0.heap[w.heap.size]? = some (.cells #[.int .i64 s0, .int .i64 s1, .int .i64 s2, .int .i64 s3, .int .i64 s4, .int .i64 s5] 62) by rw [hW0]; exact heap_alloc_new w _)
  have HB0 := Lib.hid hb0
  have HU0 : Hid (∀ X, Below W0.heap.size W0 X → X.cell? ⟨U, 0, none⟩ = some (.int .i64 until_)) := fun X hX => (hX.cell (p := ⟨U, 0, none⟩) (Nat.lt_of_lt_of_le hlU hb0.size)).trans hU0
  rw [hW0] at hF0 k0 k1 k2 k3 k4 k5
  have HW0 := Lib.hid hW0
  clear hF hU hb0 hU0 hlF hlU hW0
  go_enter Try.func74, Try.ntmps74
  go_wp2_with fail
  rw [← HW0.out]
  refine (HO.out W0).mono ?_
  rintro e w' ⟨rfl, q, os, rfl⟩
  have hb1 : Below W0.heap.size W0 (Sort.grow (W0.drewN q) os) := below_grown W0 q os
  have z := HU0.out _ hb1
  have HB1 := Lib.hid (Below.to HB0.out hb1 HB0.out.size)
  clear hb1 hF0 k0 k1 k2 k3 k4 k5
  generalize Sort.grow (W0.drewN q) os = W1 at *
  go_wp2_with fail
  go_ret
  exact ⟨rfl, HB1.out⟩

/-- sorted's second closure: by the days, then by the attempts. -/
theorem cmpRep (x y : Rp) (F : Nat) (w : World) (hF : w.cell? ⟨F, 0, none⟩ = some (.func (.func 50) #[] #[])) :
    Calls Try.prog 76 #[.agg (litRp x), .agg (litRp y), .pointer (some ⟨F, 0, none⟩)] w fun e w' => e = .returned (.int .i64 (orC (cmC x.day y.day) (cmC x.att y.att))) ∧ ∃ q os, w' = Sort.grow (w.drewN q) os := by
  have HX := Lib.hid (ofRep x)
  have HY := Lib.hid (ofRep y)
  obtain ⟨s0, s1, ⟨s2, s3, s4, s5⟩⟩ := x
  obtain ⟨t0, t1, ⟨t2, t3, t4, t5⟩⟩ := y
  rw [show litRp ⟨s0, s1, ⟨s2, s3, s4, s5⟩⟩ = #[.int .i64 s0, .int .i64 s1, .int .i64 s2, .int .i64 s3, .int .i64 s4, .int .i64 s5] from rfl] at HX ⊢
  rw [show litRp ⟨t0, t1, ⟨t2, t3, t4, t5⟩⟩ = #[.int .i64 t0, .int .i64 t1, .int .i64 t2, .int .i64 t3, .int .i64 t4, .int .i64 t5] from rfl] at HY ⊢
  simp only at HX HY ⊢
  obtain ⟨W0, hW0⟩ : ∃ W0, W0 = (w.alloc (.cells #[.int .i64 s0, .int .i64 s1, .int .i64 s2, .int .i64 s3, .int .i64 s4, .int .i64 s5] 62)).alloc (.cells #[.int .i64 t0, .int .i64 t1, .int .i64 t2, .int .i64 t3, .int .i64 t4, .int .i64 t5] 62) := ⟨_, rfl⟩
  obtain ⟨P, hP⟩ : ∃ P, P = w.heap.size := ⟨_, rfl⟩
  have hlF := World.block_lt_of_cell? _ _ hF
  have hb0 : Below w.heap.size w W0 := by rw [hW0]; exact ((Below.refl _ _).alloc (Nat.le_refl _) _).alloc (by simp) _
  have hF0 := (hb0.cell (p := ⟨F, 0, none⟩) hlF).trans hF
  have hx0 : W0.heap[P]? = some (.cells #[.int .i64 s0, .int .i64 s1, .int .i64 s2, .int .i64 s3, .int .i64 s4, .int .i64 s5] 62) := by rw [hW0, hP]; exact (Below.heap_alloc _ _ _ (by simp)).trans (heap_alloc_new w _)
  have hy0 : W0.heap[P + 1]? = some (.cells #[.int .i64 t0, .int .i64 t1, .int .i64 t2, .int .i64 t3, .int .i64 t4, .int .i64 t5] 62) := by
    have h := heap_alloc_new (w.alloc (.cells #[.int .i64 s0, .int .i64 s1, .int .i64 s2, .int .i64 s3, .int .i64 s4, .int .i64 s5] 62)) (.cells #[.int .i64 t0, .int .i64 t1, .int .i64 t2, .int .i64 t3, .int .i64 t4, .int .i64 t5] 62)
    rw [World.size_alloc] at h
    rw [hW0, hP]
    exact h
  have hsz : P + 1 < W0.heap.size := by rw [hW0, hP]; simp
  obtain ⟨⟨k0, k1, k2, k3, k4, k5⟩, -⟩ := six_c hx0
  have hG0 : ∃ q os, W0 = Sort.grow (w.drewN q) os := ⟨0, _, by rw [hW0, Sort.alloc_eq_grow, Sort.alloc_eq_grow, Sort.grow_grow]; rfl⟩
  have HG0 := Lib.hid hG0
  have HF0 : Hid (∀ X, Below W0.heap.size W0 X → X.cell? ⟨F, 0, none⟩ = some (.func (.func 50) #[] #[])) := fun X hX => (hX.cell (p := ⟨F, 0, none⟩) (Nat.lt_of_lt_of_le hlF hb0.size)).trans hF0
  have HY0 : Hid (∀ X, Below W0.heap.size W0 X → X.heap[P + 1]? = some (.cells #[.int .i64 t0, .int .i64 t1, .int .i64 t2, .int .i64 t3, .int .i64 t4, .int .i64 t5] 62)) := fun X hX => (hX.block _ hsz).trans hy0
  rw [hW0] at hF0 k0 k1 k2 k3 k4 k5
  rw [hP] at k0 k1 k2 k3 k4 k5
  have HW0 := Lib.hid hW0
  have HP := Lib.hid hP
  clear hF hb0 hlF hW0 hP hx0 hy0 hsz hG0
  obtain ⟨c1, hc1⟩ : ∃ c, cmC s1 t1 = c := ⟨_, rfl⟩
  obtain ⟨c2, hc2⟩ : ∃ c, cmC s0 t0 = c := ⟨_, rfl⟩
  have HC1 : Hid (∀ W, Calls Try.prog 56 #[.int .i64 s1, .int .i64 t1] W fun e w' => e = .returned (.int .i64 c1) ∧ W = w') := by rw [← hc1]; exact fun W => compC s1 t1 W
  have HC2 : Hid (∀ W, Calls Try.prog 56 #[.int .i64 s0, .int .i64 t0] W fun e w' => e = .returned (.int .i64 c2) ∧ W = w') := by rw [← hc2]; exact fun W => compC s0 t0 W
  rw [hc1, hc2]
  clear hc1 hc2
  go_enter Try.func76, Try.ntmps76
  go_wp2_with fail
  rw [← HW0.out, ← HP.out]
  refine (HX.out W0).mono ?_
  rintro e w1 ⟨rfl, q1, os1, hw1⟩
  have hb1 : Below W0.heap.size W0 w1 := by rw [hw1]; exact below_grown W0 q1 os1
  have HG1 : Hid (∃ q os, w1 = Sort.grow (w.drewN q) os) := grow_trans HG0.out ⟨q1, os1, hw1⟩
  have f1 := HF0.out _ hb1
  obtain ⟨⟨m0, m1, m2, m3, m4, m5⟩, -⟩ := six_c (HY0.out _ hb1)
  clear hF0 k0 k1 k2 k3 k4 k5 hw1 hb1
  go_wp2_with fail
  refine (HY.out w1).mono ?_
  rintro e w2 ⟨rfl, q2, os2, hw2⟩
  have HG2 : Hid (∃ q os, w2 = Sort.grow (w.drewN q) os) := grow_trans HG1.out ⟨q2, os2, hw2⟩
  clear f1 m0 m1 m2 m3 m4 m5 hw2
  go_wp2_with fail
  refine (HC1.out _).mono ?_
  rintro e w3 ⟨rfl, rfl⟩
  go_wp2_with fail
  refine (HC2.out _).mono ?_
  rintro e w4 ⟨rfl, rfl⟩
  have HOR := Lib.hid (or2C c1 c2 w2.heap.size (w2.alloc (.cells #[.int .i64 c1, .int .i64 c2] 3)) ((cells_alloc w2 #[.int .i64 c1, .int .i64 c2] 3 0).trans rfl) ((cells_alloc w2 #[.int .i64 c1, .int .i64 c2] 3 1).trans rfl))
  go_wp2_with fail
  refine HOR.out.mono ?_
  rintro e w5 ⟨rfl, rfl⟩
  go_wp2_with fail
  go_ret
  refine ⟨rfl, grow_trans HG2.out ⟨0, _, by rw [Sort.alloc_eq_grow]; rfl⟩⟩

end Go.Proofs.Ytbiedadgejgnoaa
