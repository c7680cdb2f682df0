/-
  What the laws need of the attempts that the generator makes; the law ServiceOf: its walk.
-/
import Derived.Test.YtdhiefgbajogcaaAtG
import Derived.Test.YtdhiefgbajogcaaRwP
import Derived.Test.YtdhiefgbajogcaaSvU
import Derived.Test.YtdhiefgbajogcaaSvM
namespace Go.Proofs.Ytdhiefgbajogcaa
open Go.RowKit

theorem GenAt.ok {n : Nat} {a : At} (h : GenAt n a) : AtOk n a := by
  obtain ⟨h1, h2, h3, h4, h5, h6, -⟩ := h
  exact AtOk.of ⟨by omega, by omega, by omega, by omega⟩ h5 (by omega)

theorem GenAts.ok {n : Nat} {l : List At} (h : GenAts n l) : AtsOk n l := fun a ha => (h a ha).ok

/-- One function says of every attempt when it is served. -/
theorem svd_all (cs : List (Int × Int)) : ∃ f : At → Int × Bool, ∀ a : At, 0 ≤ a.sent ∧ a.sent ≤ 3652058 → Svd a.own cs a.sent (f a) :=
  Classical.axiomOfChoice (r := fun (a : At) (r : Int × Bool) => 0 ≤ a.sent ∧ a.sent ≤ 3652058 → Svd a.own cs a.sent r) fun a => by
    rcases Classical.em (0 ≤ a.sent ∧ a.sent ≤ 3652058) with h | h
    · obtain ⟨r, hr⟩ := svd_exists a.own cs h.1 h.2
      exact ⟨r, fun _ => hr⟩
    · exact ⟨(0, false), fun g => absurd g h⟩

theorem AtsOk.sent {n : Nat} {l : List At} (h : AtsOk n l) {a : At} (ha : a ∈ l) : 0 ≤ a.sent ∧ a.sent ≤ 3652058 := (h a ha).head.2.2.2

/-- The block of a case. -/
def CaseAt (W : World) (P : Nat) (v u : Value) (en pa : Int) : Prop := W.heap[P]? = some (.cells #[v, u, .int .i64 en, .int .i64 pa] 35) ∧ P < W.heap.size
theorem CaseAt.below {W W' : World} {P : Nat} {v u : Value} {en pa : Int} (h : CaseAt W P v u en pa) (hb : Below W.heap.size W W') : CaseAt W' P v u en pa := ⟨(hb.block _ h.2).trans h.1, Nat.lt_of_lt_of_le h.2 hb.size⟩
theorem CaseAt.new (W : World) (v u : Value) (en pa : Int) : CaseAt (W.alloc (.cells #[v, u, .int .i64 en, .int .i64 pa] 35)) W.heap.size v u en pa := ⟨heap_alloc_new _ _, by simp⟩
theorem CaseAt.al {W : World} {P : Nat} {v u : Value} {en pa : Int} (h : CaseAt W P v u en pa) (o : Obj) : CaseAt (W.alloc o) P v u en pa := h.below ((Below.refl _ _).alloc (Nat.le_refl _) o)
theorem CaseAt.cells {W : World} {P : Nat} {v u : Value} {en pa : Int} (h : CaseAt W P v u en pa) : W.cell? ⟨P, 0, none⟩ = some v ∧ W.cell? ⟨P, 1, none⟩ = some u ∧ W.cell? ⟨P, 2, none⟩ = some (.int .i64 en) ∧ W.cell? ⟨P, 3, none⟩ = some (.int .i64 pa) := four_of h.1

/-- A service is found: the program's function and the reference's. -/
theorem of_both (ats : List At) (cs : List (Int × Int)) (hG : GenCar cs ∧ 1 ≤ cs.length ∧ cs.length ≤ 4) (hR : GenAts cs.length ats ∧ ats.length ≤ 8) :
    ∃ f : At → Int × Bool, (∀ a ∈ ats, Svd a.own cs a.sent (f a)) ∧ ∀ (en pa : Int) (v y : Value) (w : World), IsAts w v ats → IsSps w y cs →
      Calls Try.prog 24 #[v, .int .i64 en, .int .i64 pa, y] w (fun e w' => e = .returned (.tuple #[.agg (svLit (ofF f cs en pa ats)), .bool (ofF f cs en pa ats).isSome]) ∧ Below w.heap.size w w') ∧
      Calls Try.prog 25 #[v, .int .i64 en, .int .i64 pa, y] w (fun e w' => e = .returned (.tuple #[.agg (svLit (ofF f cs en pa ats)), .bool (ofF f cs en pa ats).isSome]) ∧ Below w.heap.size w w') := by
  obtain ⟨f, hf⟩ := svd_all cs
  have hs : ∀ a ∈ ats, Svd a.own cs a.sent (f a) := fun a ha => hf a (hR.1.ok.sent ha)
  exact ⟨f, hs, fun en pa v y w hx hy => ⟨svcOf f ats cs v y en pa w hx hy (by omega) (by omega) hR.1.ok hG.1.ok hs, refOf f ats cs v y en pa w hx hy (by omega) (by omega) hR.1.ok hG.1.ok hs⟩⟩

set_option maxHeartbeats 4000000 in
set_option maxRecDepth 100000 in
theorem serviceOf_any (c l : List Int) (v u : Value) (en pa : Int) (w : World) (hx : IsInts w v c) (hc : ∀ x ∈ c, I64 x) (hy : IsInts w u l) (hl : ∀ x ∈ l, I64 x) (he : I64 en) (hp : I64 pa) :
    Calls Try.prog 5 #[.agg #[v, u, .int .i64 en, .int .i64 pa]] w fun e w' => e = .returned (.bool true) ∧ Below w.heap.size w w' := by
  obtain ⟨a1, c1, rfl, -, -, -⟩ := hx.open
  obtain ⟨a2, c2, rfl, -, -, -⟩ := hy.open
  obtain ⟨W0, hW0⟩ : ∃ W0, W0 = w.alloc (.cells #[.slice a1 c.length c1, .slice a2 l.length c2, .int .i64 en, .int .i64 pa] 35) := ⟨_, rfl⟩
  obtain ⟨P, hP⟩ : ∃ P, P = w.heap.size := ⟨_, rfl⟩
  have FP : Hid (CaseAt W0 P (.slice a1 c.length c1) (.slice a2 l.length c2) en pa) := by show CaseAt _ _ _ _ _ _; rw [hW0, hP]; exact CaseAt.new _ _ _ _ _
  have hb0 : Below w.heap.size w W0 := by rw [hW0]; exact (Below.refl _ _).alloc (Nat.le_refl _) _
  have HB0 := Lib.hid hb0
  have HMA := Lib.hid (made21 c l _ _ en pa W0 (hx.below hb0) hc (hy.below hb0) hl)
  have HNE : Hid (∀ W, Calls Try.prog 23 #[.agg #[.slice a1 c.length c1, .slice a2 l.length c2, .int .i64 en, .int .i64 pa]] W fun r w' => r = .returned (.tuple #[.int .i64 (around en 5), .int .i64 (around pa 3)]) ∧ Below W.heap.size W w') := fun W => near21 _ _ en pa he hp W
  have HP := Lib.hid hP
  have HW0 := Lib.hid hW0
  clear hx hc hy hl he hp hW0 hP hb0
  have z := FP.out.cells
  obtain ⟨z0, z1, z2, z3⟩ := z
  go_enter Try.func5, Try.ntmps5
  go_wp2_with fail
  rw [← HW0.out]
  refine HMA.out.mono ?_
  rintro e w1 ⟨v1, v2, rfl, cs, ats, HG, HR, hv1, hv2, b1⟩
  have HV1 := Lib.hid hv1
  have HV2 := Lib.hid hv2
  have E1 := Lib.hid b1
  have FP := Lib.hid (FP.out.below b1)
  obtain ⟨a3, c3, rfl, -, -, -⟩ := hv1.open
  obtain ⟨a4, c4, rfl, -, -⟩ := hv2.open
  clear hv1 hv2 b1 HMA z0 z1 z2 z3
  obtain ⟨z0, z1, z2, z3⟩ := FP.out.cells
  rw [← HP.out]
  go_wp2_with fail
  refine (HNE.out _).mono ?_
  rintro e w2 ⟨rfl, b2⟩
  have HV1 := Lib.hid (HV1.out.below b2)
  have HV2 := Lib.hid (HV2.out.below b2)
  have E2 := Lib.hid (Below.to E1.out b2 E1.out.size)
  have FP := Lib.hid (FP.out.below b2)
  clear b2 z0 z1 z2 z3
  generalize around en 5 = en' at *
  generalize around pa 3 = pa' at *
  obtain ⟨f, -, hof⟩ := of_both ats cs HG.out HR.out
  have HOF := Lib.hid hof
  clear hof
  obtain ⟨x, y, z, hs⟩ := svLit_three (ofF f cs en' pa' ats)
  obtain ⟨x', y', z', hs'⟩ := svLit_three (ofF f cs en pa ats)
  obtain ⟨b, hb⟩ : ∃ b, (ofF f cs en' pa' ats).isSome = b := ⟨_, rfl⟩
  obtain ⟨b', hb'⟩ : ∃ b, (ofF f cs en pa ats).isSome = b := ⟨_, rfl⟩
  have HO : Hid (∀ (v y' : Value) (w : World), IsAts w v ats → IsSps w y' cs →
      Calls Try.prog 24 #[v, .int .i64 en', .int .i64 pa', y'] w (fun e w' => e = .returned (.tuple #[.agg #[.int .i64 x, .int .i64 y, .int .i64 z], .bool b]) ∧ Below w.heap.size w w') ∧
      Calls Try.prog 25 #[v, .int .i64 en', .int .i64 pa', y'] w (fun e w' => e = .returned (.tuple #[.agg #[.int .i64 x, .int .i64 y, .int .i64 z], .bool b]) ∧ Below w.heap.size w w')) := fun v q w h1 h2 => by
    have h := HOF.out en' pa' v q w h1 h2
    rw [hs, hb] at h
    exact h
  have HO' : Hid (∀ (v y : Value) (w : World), IsAts w v ats → IsSps w y cs →
      Calls Try.prog 24 #[v, .int .i64 en, .int .i64 pa, y] w (fun e w' => e = .returned (.tuple #[.agg #[.int .i64 x', .int .i64 y', .int .i64 z'], .bool b']) ∧ Below w.heap.size w w') ∧
      Calls Try.prog 25 #[v, .int .i64 en, .int .i64 pa, y] w (fun e w' => e = .returned (.tuple #[.agg #[.int .i64 x', .int .i64 y', .int .i64 z'], .bool b']) ∧ Below w.heap.size w w')) := fun v q w h1 h2 => by
    have h := HOF.out en pa v q w h1 h2
    rw [hs', hb'] at h
    exact h
  clear hs hs' hb hb' HOF
  go_wp2_with fail
  refine ((HO.out _ _ _ HV2.out HV1.out).1).mono ?_
  rintro e w3 ⟨rfl, b3⟩
  have b3 := Below.alloc b3 b3.size (.cells #[.int .i64 x, .int .i64 y, .int .i64 z] 48)
  have F1 := Lib.hid (Kept.new w3 x y z)
  obtain ⟨G1, hG1⟩ : ∃ G1, G1 = w3.heap.size := ⟨_, rfl⟩
  obtain ⟨X3, hX3⟩ : ∃ X3, X3 = w3.alloc (.cells #[.int .i64 x, .int .i64 y, .int .i64 z] 48) := ⟨_, rfl⟩
  rw [← hX3] at b3 F1
  rw [← hG1] at F1
  have HV1 := Lib.hid (HV1.out.below b3)
  have HV2 := Lib.hid (HV2.out.below b3)
  have E3 := Lib.hid (Below.to E2.out b3 E2.out.size)
  have FP := Lib.hid (FP.out.below b3)
  have HX3 := Lib.hid hX3
  have HG1 := Lib.hid hG1
  clear b3 hX3 hG1
  go_wp2_with fail
  rw [← HX3.out, ← HG1.out]
  refine ((HO.out _ _ _ HV2.out HV1.out).2).mono ?_
  rintro e w4 ⟨rfl, b4⟩
  have b4 := Below.alloc b4 b4.size (.cells #[.int .i64 x, .int .i64 y, .int .i64 z] 48)
  have F2 := Lib.hid (Kept.new w4 x y z)
  obtain ⟨G2, hG2⟩ : ∃ G2, G2 = w4.heap.size := ⟨_, rfl⟩
  obtain ⟨X4, hX4⟩ : ∃ X4, X4 = w4.alloc (.cells #[.int .i64 x, .int .i64 y, .int .i64 z] 48) := ⟨_, rfl⟩
  rw [← hX4] at b4 F2
  rw [← hG2] at F2
  have HV1 := Lib.hid (HV1.out.below b4)
  have HV2 := Lib.hid (HV2.out.below b4)
  have E4 := Lib.hid (Below.to E3.out b4 E3.out.size)
  have FP := Lib.hid (FP.out.below b4)
  have F1 := Lib.hid (F1.out.below b4)
  have HX4 := Lib.hid hX4
  have HG2 := Lib.hid hG2
  obtain ⟨-, -, z2, z3⟩ := FP.out.cells
  rw [hX4] at z2 z3
  clear b4 hX4 hG2
  go_wp2_with fail
  rw [← HX4.out, ← HG2.out]
  clear z2 z3
  refine ((HO'.out _ _ _ HV2.out HV1.out).1).mono ?_
  rintro e w5 ⟨rfl, b5⟩
  have b5 := Below.alloc b5 b5.size (.cells #[.int .i64 x', .int .i64 y', .int .i64 z'] 48)
  have F3 := Lib.hid (Kept.new w5 x' y' z')
  obtain ⟨G3, hG3⟩ : ∃ G3, G3 = w5.heap.size := ⟨_, rfl⟩
  obtain ⟨X5, hX5⟩ : ∃ X5, X5 = w5.alloc (.cells #[.int .i64 x', .int .i64 y', .int .i64 z'] 48) := ⟨_, rfl⟩
  rw [← hX5] at b5 F3
  rw [← hG3] at F3
  have HV1 := Lib.hid (HV1.out.below b5)
  have HV2 := Lib.hid (HV2.out.below b5)
  have E5 := Lib.hid (Below.to E4.out b5 E4.out.size)
  have FP := Lib.hid (FP.out.below b5)
  have F1 := Lib.hid (F1.out.below b5)
  have F2 := Lib.hid (F2.out.below b5)
  have HX5 := Lib.hid hX5
  have HG3 := Lib.hid hG3
  obtain ⟨-, -, z2, z3⟩ := FP.out.cells
  rw [hX5] at z2 z3
  clear b5 hX5 hG3
  go_wp2_with fail
  rw [← HX5.out, ← HG3.out]
  clear z2 z3
  refine ((HO'.out _ _ _ HV2.out HV1.out).2).mono ?_
  rintro e w6 ⟨rfl, b6⟩
  have b6 := Below.alloc b6 b6.size (.cells #[.int .i64 x', .int .i64 y', .int .i64 z'] 48)
  have F4 := Lib.hid (Kept.new w6 x' y' z')
  have E6 := Lib.hid (Below.to E5.out b6 E5.out.size)
  obtain ⟨p0, p1, p2⟩ := (F1.out.below b6).cells
  obtain ⟨q0, q1, q2⟩ := (F2.out.below b6).cells
  obtain ⟨r0, r1, r2⟩ := (F3.out.below b6).cells
  obtain ⟨t0, t1, t2⟩ := F4.out.cells
  clear b6
  cases b <;> cases b'
  all_goals
    go_wp2_with fail
    refine (lives21 _).mono ?_
    rintro e w7 ⟨rfl, b7⟩
    have E7 := Lib.hid (Below.to HB0.out (Below.to E6.out b7 E6.out.size) HB0.out.size)
    clear b7
    go_wp2_with fail
    go_ret
    exact ⟨rfl, E7.out⟩

end Go.Proofs.Ytdhiefgbajogcaa
