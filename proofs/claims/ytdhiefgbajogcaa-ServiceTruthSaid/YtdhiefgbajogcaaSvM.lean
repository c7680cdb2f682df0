/-
  made and near of a case.
-/
import Derived.Test.YtdhiefgbajogcaaAtG
namespace Go.Proofs.Ytdhiefgbajogcaa
open Go.RowKit

set_option maxHeartbeats 1000000 in
set_option maxRecDepth 100000 in
theorem near21 (c l : Value) (e p : Int) (he : I64 e) (hp : I64 p) (w : World) :
    Calls Try.prog 23 #[.agg #[c, l, .int .i64 e, .int .i64 p]] w fun r w' => r = .returned (.tuple #[.int .i64 (around e 5), .int .i64 (around p 3)]) ∧ Below w.heap.size w w' := by
  have HA : Hid (∀ (n most : Int) (X : World), (n = e ∨ n = p) → 1 ≤ most → Calls Try.prog 42 #[.int .i64 n, .int .i64 most] X fun r w' => r = .returned (.int .i64 (around n most)) ∧ X = w') := fun n most X h hm => around3_any n most (by rcases h with rfl | rfl <;> assumption) hm X
  have HB0 : Hid (Below w.heap.size w (w.alloc (.cells #[c, l, .int .i64 e, .int .i64 p] 35))) := (Below.refl _ _).alloc (Nat.le_refl _) _
  go_enter Try.func23, Try.ntmps23
  obtain ⟨P, hP⟩ : ∃ P, P = w.heap.size := ⟨_, rfl⟩
  obtain ⟨W0, hW0⟩ : ∃ W0, W0 = w.alloc (.cells #[c, l, .int .i64 e, .int .i64 p] 35) := ⟨_, rfl⟩
  have hA : W0.heap[P]? = some (.cells #[c, l, .int .i64 e, .int .i64 p] 35) := by rw [hW0, hP]; exact heap_alloc_new w _
  have HKP : Hid (W0.drew.cell? ⟨P, 2, none⟩ = some (.int .i64 e) ∧ W0.drew.cell? ⟨P, 3, none⟩ = some (.int .i64 p)) := by
    have hZ : P < W0.heap.size := by rw [hW0, hP]; simp
    have hb : Below W0.heap.size W0 W0.drew := (Below.refl _ _).drew
    exact ⟨(hb.cell (p := ⟨P, 2, none⟩) hZ).trans (by simp [World.cell?, hA]), (hb.cell (p := ⟨P, 3, none⟩) hZ).trans (by simp [World.cell?, hA])⟩
  have HBD : Hid (Below w.heap.size w W0.drew) := by
    rw [← hW0] at HB0
    exact HB0.out.drew
  clear he hp
  go_wp2_with fail
  rw [← hW0, ← hP]
  clear hW0 hP hA HB0
  go_region_held3 (fun w' => w'.cell? ⟨P, 2, none⟩ = some (.int .i64 e) ∧ w'.cell? ⟨P, 3, none⟩ = some (.int .i64 p))
    (first | exact HKP.out | go_keep)
    (first
      | (go_at_call 42
         refine (HA.out _ _ _ (by first | exact .inl rfl | exact .inr rfl) (by omega)).mono ?_
         rintro r w' ⟨rfl, rfl⟩))
  all_goals
    go_wp2_with fail
    go_ret2
    exact ⟨rfl, HBD.out⟩

set_option maxHeartbeats 1000000 in
theorem made21 (c l : List Int) (v u : Value) (en pa : Int) (w : World) (hx : IsInts w v c) (hc : ∀ x ∈ c, I64 x) (hy : IsInts w u l) (hl : ∀ x ∈ l, I64 x) :
    Calls Try.prog 17 #[.agg #[v, u, .int .i64 en, .int .i64 pa]] w fun e w' => ∃ v1 v2, e = .returned (.tuple #[v1, v2]) ∧ ∃ cs ats, Hid (GenCar cs ∧ 1 ≤ cs.length ∧ cs.length ≤ 4) ∧ Hid (GenAts cs.length ats ∧ ats.length ≤ 8) ∧ IsSps w' v1 cs ∧ IsAts w' v2 ats ∧ Below w.heap.size w w' := by
  obtain ⟨a1, c1, rfl, -, -, -⟩ := hx.open
  obtain ⟨a2, c2, rfl, -, -, -⟩ := hy.open
  obtain ⟨W0, hW0⟩ : ∃ W0, W0 = w.alloc (.cells #[.slice a1 c.length c1, .slice a2 l.length c2, .int .i64 en, .int .i64 pa] 35) := ⟨_, rfl⟩
  obtain ⟨P, hP⟩ : ∃ P, P = w.heap.size := ⟨_, rfl⟩
  have hA : W0.heap[P]? = some (.cells #[.slice a1 c.length c1, .slice a2 l.length c2, .int .i64 en, .int .i64 pa] 35) := by rw [hW0, hP]; exact heap_alloc_new w _
  have hZ : P < W0.heap.size := by rw [hW0, hP]; simp
  have y0 : W0.cell? ⟨P, 0, none⟩ = some (.slice a1 c.length c1) := by simp [World.cell?, hA]
  have y1 : W0.cell? ⟨P, 1, none⟩ = some (.slice a2 l.length c2) := by simp [World.cell?, hA]
  have HK : Hid (∀ X, Below W0.heap.size W0 X → X.cell? ⟨P, 1, none⟩ = some (.slice a2 l.length c2)) := fun X hX => (hX.cell (p := ⟨P, 1, none⟩) hZ).trans y1
  have HPS := Lib.hid hP
  have hb0 : Below w.heap.size w W0 := by rw [hW0]; exact (Below.refl _ _).alloc (Nat.le_refl _) _
  have HB0 := Lib.hid hb0
  have HY := Lib.hid (hy.below hb0)
  have HCA := Lib.hid (carriers_any c _ W0 (hx.below hb0) hc)
  have HAT : Hid (∀ (cs : List (Int × Int)) (v1 : Value) (W : World), IsInts W (.slice a2 l.length c2) l → IsSps W v1 cs → 1 ≤ cs.length → cs.length ≤ 4 → Calls Try.prog 16 #[.slice a2 l.length c2, v1] W fun e w' => ∃ v', e = .returned v' ∧ ∃ ats, Hid (GenAts cs.length ats ∧ ats.length ≤ 8) ∧ (∃ us, OwnAts w' W.heap.size 29 37 v' ats us ats.length) ∧ Below W.heap.size W w') := fun cs v1 W h1 h2 h3 h4 => attempts_any l cs _ v1 W h1 hl h2 h3 h4
  have HWE := Lib.hid hW0
  clear hx hy hc hl hW0 hb0 hA hZ hP
  go_enter Try.func17, Try.ntmps17
  go_wp2_with fail
  rw [← HWE.out]
  refine HCA.out.mono ?_
  rintro e w1 ⟨v1, rfl, cs, HG, hv1, hb1⟩
  have HV1 := Lib.hid hv1
  have HB1 := Lib.hid hb1
  have HY1 := Lib.hid (HY.out.below hb1)
  have z1 := HK.out _ hb1
  obtain ⟨a3, c3, rfl, -, -, -⟩ := hv1.open
  clear hv1 hb1 HCA y0 y1
  rw [← HPS.out]
  go_wp2_with fail
  refine (HAT.out cs _ w1 HY1.out HV1.out HG.out.2.1 HG.out.2.2).mono ?_
  rintro e w2 ⟨v2, rfl, ats, HR, hv2, hb2⟩
  obtain ⟨us, hv2⟩ := hv2
  have HV2 : Hid (IsAts w2 v2 ats) := ⟨us, hv2.reads⟩
  have HB2 := Lib.hid hb2
  obtain ⟨a4, c4, rfl, -, -⟩ := owns_slice hv2.row
  clear hv2 hb2
  go_wp2_with fail
  go_ret2
  exact ⟨_, _, rfl, cs, ats, HG, HR, HV1.out.below HB2.out, HV2.out, Below.to (Below.to HB0.out HB1.out HB0.out.size) HB2.out (Below.to HB0.out HB1.out HB0.out.size).size⟩

end Go.Proofs.Ytdhiefgbajogcaa
