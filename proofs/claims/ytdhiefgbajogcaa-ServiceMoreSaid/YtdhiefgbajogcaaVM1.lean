/-
  The law ServiceMore: its walk.
-/
import Derived.Test.YtdhiefgbajogcaaVO1
import Derived.Test.YtdhiefgbajogcaaSvV
import Derived.Test.YtdhiefgbajogcaaRtZ
namespace Go.Proofs.Ytdhiefgbajogcaa
open Go.RowKit

/-- Without returns nobody is served. -/
theorem svd_without {cs : List (Int × Int)} {sent : Int} {r : Int × Bool} (h : Svd [] cs sent r) (hc : CarOk cs) (hs : sent ≤ 3652058) : r.2 = false := by
  have e := Svd.eq h (⟨_, _, alw_nil hs (excF_nil hc), rfl⟩ : Svd [] cs sent (0, false)) (fun _ _ => rfl)
  rw [e]

set_option maxHeartbeats 4000000 in
set_option maxRecDepth 100000 in
theorem serviceMore_any (c l m : List Int) (v u q : Value) (en pa : Int) (w : World) (hx : IsInts w v c) (hc : ∀ x ∈ c, I64 x) (hy : IsInts w u l) (hl : ∀ x ∈ l, I64 x) (he : I64 en) (hp : I64 pa) (hq : IsInts w q m) (hm : ∀ x ∈ m, I64 x) :
    Calls Try.prog 8 #[.agg #[v, u, .int .i64 en, .int .i64 pa], q] w fun e w' => e = .returned (.bool true) ∧ Below w.heap.size w w' := by
  obtain ⟨a1, c1, rfl, -, -, -⟩ := hx.open
  obtain ⟨a2, c2, rfl, -, -, -⟩ := hy.open
  obtain ⟨qa, qc, rfl, -, -, -⟩ := hq.open
  obtain ⟨W0, hW0⟩ : ∃ W0, W0 = w.alloc (.cells #[.slice a1 c.length c1, .slice a2 l.length c2, .int .i64 en, .int .i64 pa] 35) := ⟨_, rfl⟩
  obtain ⟨P, hP⟩ : ∃ P, P = w.heap.size := ⟨_, rfl⟩
  have FP : Hid (CaseAt W0 P (.slice a1 c.length c1) (.slice a2 l.length c2) en pa) := by show CaseAt _ _ _ _ _ _; rw [hW0, hP]; exact CaseAt.new _ _ _ _ _
  have hb0 : Below w.heap.size w W0 := by rw [hW0]; exact (Below.refl _ _).alloc (Nat.le_refl _) _
  have HB0 := Lib.hid hb0
  have HQ := Lib.hid (hq.below hb0)
  have HM := Lib.hid hm
  have HMA := Lib.hid (made21 c l _ _ en pa W0 (hx.below hb0) hc (hy.below hb0) hl)
  have HNE : Hid (∀ W, Calls Try.prog 23 #[.agg #[.slice a1 c.length c1, .slice a2 l.length c2, .int .i64 en, .int .i64 pa]] W fun r w' => r = .returned (.tuple #[.int .i64 (around en 5), .int .i64 (around pa 3)]) ∧ Below W.heap.size W w') := fun W => near21 _ _ en pa he hp W
  have HP := Lib.hid hP
  have HW0 := Lib.hid hW0
  clear hx hc hy hl he hp hq hm hW0 hP hb0
  have z := FP.out.cells
  obtain ⟨z0, z1, z2, z3⟩ := z
  go_enter Try.func8, Try.ntmps8
  go_wp2_with fail
  rw [← HW0.out]
  refine HMA.out.mono ?_
  rintro e w1 ⟨v1, v2, rfl, cs, ats, HG, HR, hv1, hv2, b1⟩
  have HV1 := Lib.hid hv1
  have HV2 := Lib.hid hv2
  have E1 := Lib.hid b1
  have FP := Lib.hid (FP.out.below b1)
  obtain ⟨a3, c3, rfl, -, -, -⟩ := hv1.open
  obtain ⟨a4, c4, rfl, -, -⟩ := hv2.open
  clear hv1 hv2 b1 HMA z0 z1 z2 z3
  obtain ⟨z0, z1, z2, z3⟩ := FP.out.cells
  rw [← HP.out]
  go_wp2_with fail
  refine (HNE.out _).mono ?_
  rintro e w2 ⟨rfl, b2⟩
  have HV1 := Lib.hid (HV1.out.below b2)
  have HV2 := Lib.hid (HV2.out.below b2)
  have E2 := Lib.hid (Below.to E1.out b2 E1.out.size)
  have FP := Lib.hid (FP.out.below b2)
  clear b2 z0 z1 z2 z3
  have hen := around_lo en 5 (by omega)
  have hen2 := around_hi en 5 (by omega)
  have hpa := around_lo pa 3 (by omega)
  have hpa2 := around_hi pa 3 (by omega)
  generalize around en 5 = en' at *
  generalize around pa 3 = pa' at *
  have hl8 := HR.out.2
  have hcl4 := HG.out.2.2
  have HAT : Hid (∀ (W : World) (v1 : Value), IsInts W (.slice qa m.length qc) m → IsSps W v1 cs → Calls Try.prog 16 #[.slice qa m.length qc, v1] W fun e w' => ∃ v', e = .returned v' ∧ ∃ ats, Hid (GenAts cs.length ats ∧ ats.length ≤ 8) ∧ (∃ us, OwnAts w' W.heap.size 29 37 v' ats us ats.length) ∧ Below W.heap.size W w') := fun W v1 h1 h2 => attempts_any m cs _ v1 W h1 HM.out h2 HG.out.2.1 HG.out.2.2
  go_wp2_with fail
  refine (HAT.out w2 _ (HQ.out.below E2.out) HV1.out).mono ?_
  rintro e w4 ⟨v4, rfl, at2, HR2, hv4, b4⟩
  obtain ⟨us4, hv4⟩ := hv4
  have HV4 : Hid (IsAts w4 v4 at2) := ⟨us4, hv4.reads⟩
  have HV1 := Lib.hid (HV1.out.below b4)
  have HV2 := Lib.hid (HV2.out.below b4)
  have E4 := Lib.hid (Below.to E2.out b4 E2.out.size)
  obtain ⟨a5, c5, rfl, -, -⟩ := HV4.out.open
  clear hv4 b4 HAT HNE
  by_cases h0 : at2.length = 0
  · have h0N : (at2.length == 0) = true := by simpa using h0
    have h0I : ((at2.length : Int) == 0) = true := by rw [h0]; rfl
    clear h0
    go_wp2_with fail
    refine (lives21 _).mono ?_
    rintro e w7 ⟨rfl, b7⟩
    have E7 := Lib.hid (Below.to HB0.out (Below.to E4.out b7 E4.out.size) HB0.out.size)
    clear b7
    go_wp2_with fail
    go_ret
    exact ⟨rfl, E7.out⟩
  have h0N : (at2.length == 0) = false := by simpa using h0
  have h0I : ((at2.length : Int) == 0) = false := by
    have h9 : ¬ (at2.length : Int) = 0 := by omega
    simpa using h9
  have h0P : 0 < at2.length := by omega
  have h0Q : (0 : Int) < (at2.length : Int) := by omega
  obtain ⟨_, _, e6, -, -, hcl6⟩ := HV4.out.open
  obtain ⟨b6, o6, u6, e7, hus, d0, d1, d2, d3, d4⟩ := hcl6 0 h0P
  subst e7
  simp only [Value.slice.injEq, true_and] at e6
  obtain ⟨rfl, -⟩ := e6
  have hga := HR2.out.1 at2[0] (List.getElem_mem h0P)
  have HGA : Hid (0 ≤ at2[0].car ∧ at2[0].car < cs.length ∧ 0 ≤ at2[0].sent ∧ at2[0].sent ≤ 3652058 ∧ RetsOk cs.length at2[0].own ∧ at2[0].own.length ≤ 8) := by
    obtain ⟨-, -, g1, g2, g3, g4, -⟩ := hga
    exact ⟨g1.1, g1.2, by omega, by omega, g3, g4⟩
  obtain ⟨ua, uc, rfl⟩ := hus.sl
  have HUS := Lib.hid hus
  clear hus hcl6 hga h0
  generalize at2[0] = a at *
  obtain ⟨ae, ap, ac, an, ow⟩ := a
  simp only at d0 d1 d2 d3 d4 HGA HUS
  obtain ⟨ga, gb, gc, gd, ge, gf⟩ := HGA.out
  simp only [Nat.zero_mul, Nat.add_zero] at d0 d1 d2 d3 d4
  obtain ⟨f, hf⟩ := svd_all cs
  have HF := Lib.hid hf
  have HOKA : Hid (AtOk cs.length ⟨en', pa', ac, an, ow⟩) := AtOk.of ⟨by simp only; omega, by simp only; omega, by simp only; omega, by simp only; omega⟩ ge (by simp only; omega)
  have HOKN : Hid (AtOk cs.length ⟨en', pa', ac, an, []⟩) := AtOk.of ⟨by simp only; omega, by simp only; omega, by simp only; omega, by simp only; omega⟩ (fun r h => by cases h) (by simp)
  have HSA : Hid (Svd ow cs an (f ⟨en', pa', ac, an, ow⟩)) := hf ⟨en', pa', ac, an, ow⟩ ⟨gc, gd⟩
  have HSN : Hid (Svd [] cs an (f ⟨en', pa', ac, an, []⟩)) := hf ⟨en', pa', ac, an, []⟩ ⟨gc, gd⟩
  have HWO : Hid (ofF f cs en' pa' (ats ++ [⟨en', pa', ac, an, []⟩]) = ofF f cs en' pa' ats) := ofF_without (svd_without HSN.out HG.out.1.ok gd)
  have HLA : Hid (∀ s, ofF f cs en' pa' ats = some s → ∃ s', ofF f cs en' pa' (ats ++ [⟨en', pa', ac, an, ow⟩]) = some s' ∧ s'.day ≤ s.day) := fun s h => ofF_later h
  have HOF1 : Hid (∀ (v y : Value) (w : World), IsAts w v ats → IsSps w y cs →
      Calls Try.prog 24 #[v, .int .i64 en', .int .i64 pa', y] w (fun e w' => e = .returned (.tuple #[.agg (svLit (ofF f cs en' pa' ats)), .bool (ofF f cs en' pa' ats).isSome]) ∧ Below w.heap.size w w')) := fun v y w h1 h2 =>
    svcOf f ats cs v y en' pa' w h1 h2 (by omega) (by omega) HR.out.1.ok HG.out.1.ok (fun a ha => HF.out a (HR.out.1.ok.sent ha))
  have HOF2 : Hid (∀ (v y : Value) (w : World), IsAts w v (ats ++ [⟨en', pa', ac, an, ow⟩]) → IsSps w y cs →
      Calls Try.prog 24 #[v, .int .i64 en', .int .i64 pa', y] w (fun e w' => e = .returned (.tuple #[.agg (svLit (ofF f cs en' pa' (ats ++ [⟨en', pa', ac, an, ow⟩]))), .bool (ofF f cs en' pa' (ats ++ [⟨en', pa', ac, an, ow⟩])).isSome]) ∧ Below w.heap.size w w')) := fun v y w h1 h2 =>
    svcOf f _ cs v y en' pa' w h1 h2 (by simp; omega) (by omega) (fun a ha => by
      rcases List.mem_append.1 ha with h | h
      · exact HR.out.1.ok a h
      · rw [List.mem_singleton.1 h]; exact HOKA.out) HG.out.1.ok (fun a ha => by
      rcases List.mem_append.1 ha with h | h
      · exact HF.out a (HR.out.1.ok.sent h)
      · rw [List.mem_singleton.1 h]; exact HSA.out)
  have HOF3 : Hid (∀ (v y : Value) (w : World), IsAts w v (ats ++ [⟨en', pa', ac, an, []⟩]) → IsSps w y cs →
      Calls Try.prog 24 #[v, .int .i64 en', .int .i64 pa', y] w (fun e w' => e = .returned (.tuple #[.agg (svLit (ofF f cs en' pa' ats)), .bool (ofF f cs en' pa' ats).isSome]) ∧ Below w.heap.size w w')) := fun v y w h1 h2 => by
    have h := svcOf f _ cs v y en' pa' w h1 h2 (by simp; omega) (by omega) (fun a ha => by
      rcases List.mem_append.1 ha with h | h
      · exact HR.out.1.ok a h
      · rw [List.mem_singleton.1 h]; exact HOKN.out) HG.out.1.ok (fun a ha => by
      rcases List.mem_append.1 ha with h | h
      · exact HF.out a (HR.out.1.ok.sent h)
      · rw [List.mem_singleton.1 h]; exact HSN.out)
    rw [HWO.out] at h
    exact h
  have HREL : Hid (∃ (x y z x' y' z' : Int) (b b' : Bool), svLit (ofF f cs en' pa' ats) = #[.int .i64 x, .int .i64 y, .int .i64 z] ∧ (ofF f cs en' pa' ats).isSome = b ∧
      svLit (ofF f cs en' pa' (ats ++ [⟨en', pa', ac, an, ow⟩])) = #[.int .i64 x', .int .i64 y', .int .i64 z'] ∧ (ofF f cs en' pa' (ats ++ [⟨en', pa', ac, an, ow⟩])).isSome = b' ∧ (b = true → b' = true ∧ ¬ x < x')) := by
    cases ho : ofF f cs en' pa' ats with
    | none =>
      obtain ⟨x', y', z', h'⟩ := svLit_three (ofF f cs en' pa' (ats ++ [⟨en', pa', ac, an, ow⟩]))
      exact ⟨0, 0, 0, x', y', z', false, _, rfl, rfl, h', rfl, fun h => by cases h⟩
    | some s =>
      obtain ⟨s', h1, h2⟩ := HLA.out s ho
      rw [h1]
      exact ⟨s.day, s.ext, s.att, s'.day, s'.ext, s'.att, true, true, rfl, rfl, rfl, rfl, fun _ => ⟨rfl, by omega⟩⟩
  have HBA : Hid (chkA cs.length ⟨en', pa', ac, an, ow⟩ = 0 ∧ beginL cs.length ats ⟨en', pa', ac, an, ow⟩ = ats ++ [⟨en', pa', ac, an, ow⟩]) := ⟨HOKA.out, if_pos HOKA.out⟩
  have HBN : Hid (chkA cs.length ⟨en', pa', ac, an, []⟩ = 0 ∧ beginL cs.length ats ⟨en', pa', ac, an, []⟩ = ats ++ [⟨en', pa', ac, an, []⟩]) := ⟨HOKN.out, if_pos HOKN.out⟩
  have HOW : Hid (∀ x ∈ ats, x.own.length ≤ 1000000) := fun x hx => by have := (HR.out.1.ok x hx).rets.2; omega
  have HBE : Hid (∀ (v u y : Value) (w : World), IsAts w v ats → IsRts w u ow → IsSps w y cs → Calls Try.prog 18 #[v, .agg #[.int .i64 en', .int .i64 pa', .int .i64 ac, .int .i64 an, u], y] w fun e w' => ∃ v', e = .returned (.tuple #[v', .int .i64 0]) ∧ AtsFrom w' w.heap.size v' (ats ++ [⟨en', pa', ac, an, ow⟩]) ∧ Below w.heap.size w w') := fun v u y w h1 h2 h3 => by
    have h := svcBeginF ats ⟨en', pa', ac, an, ow⟩ cs v u y w h1 h2 h3 (by omega) HOW.out (by simp only; omega)
    rw [HBA.out.1, HBA.out.2] at h
    exact h
  have HBM : Hid (∀ (v y : Value) (w : World), IsAts w v ats → IsSps w y cs → Calls Try.prog 18 #[v, .agg #[.int .i64 en', .int .i64 pa', .int .i64 ac, .int .i64 an, .slice none 0 0], y] w fun e w' => ∃ v', e = .returned (.tuple #[v', .int .i64 0]) ∧ IsAts w' v' (ats ++ [⟨en', pa', ac, an, []⟩]) ∧ Below w.heap.size w w') := fun v y w h1 h3 => by
    have h := svcBegin ats ⟨en', pa', ac, an, []⟩ cs v (.slice none 0 0) y w h1 (IsRts.nil w none 0) h3 (by omega) HOW.out (by simp)
    rw [HBN.out.1, HBN.out.2] at h
    exact h
  obtain ⟨x, y, z, x', y', z', b, b', r1, r2, r3, r4, r5⟩ := HREL.out
  rw [r1, r2] at HOF1 HOF3
  rw [r3, r4] at HOF2
  have HR5 := Lib.hid r5
  clear r1 r2 r3 r4 r5 HREL HLA HWO HSA HSN HF hf HOKA HOKN HGA ga gb gc gd ge gf hen hen2 hpa hpa2 HBA HBN HOW
  generalize (ats ++ [(⟨en', pa', ac, an, ow⟩ : At)]) = A1 at *
  generalize (ats ++ [(⟨en', pa', ac, an, []⟩ : At)]) = A2 at *
  obtain ⟨A, hA⟩ : ∃ A, A = w4.heap.size := ⟨_, rfl⟩
  obtain ⟨X4, hX4⟩ : ∃ X, X = w4.alloc (.cells #[.int .i64 en', .int .i64 pa', .int .i64 ac, .int .i64 an, .slice ua ow.length uc] 29) := ⟨_, rfl⟩
  have hal := heap_alloc_new w4 (.cells #[.int .i64 en', .int .i64 pa', .int .i64 ac, .int .i64 an, .slice ua ow.length uc] 29)
  obtain ⟨⟨z0, z1, z2, z3, z4⟩, -⟩ := five_of hal
  rw [← hX4, ← hA] at hal
  have HAL := Lib.hid hal
  have hb4 : Below w4.heap.size w4 X4 := by rw [hX4]; exact (Below.refl _ _).alloc (Nat.le_refl _) _
  have HB4 := Lib.hid hb4
  have HZ4 : Hid (A < X4.heap.size) := by show _ < _; rw [hX4, hA]; simp
  have HX4 := Lib.hid hX4
  have HA := Lib.hid hA
  clear hA hX4 hal hb4
  go_wp2_with fail
  rw [← HX4.out, ← HA.out]
  refine (HBE.out _ _ _ X4 (HV2.out.below HB4.out) (HUS.out.below HB4.out) (HV1.out.below HB4.out)).mono ?_
  rintro e w5 ⟨v5, rfl, hv5, b5⟩
  have hA5 : w5.heap[A]? = some (.cells #[.int .i64 en', .int .i64 pa', .int .i64 ac, .int .i64 an, .slice ua ow.length uc] 29) := (b5.block _ HZ4.out).trans HAL.out
  obtain ⟨Y5, hY5⟩ : ∃ Y, Y = w5.setCell ⟨A, 4, none⟩ (.slice none 0 0) := ⟨_, rfl⟩
  have hA6 : Y5.heap[A]? = some (.cells #[.int .i64 en', .int .i64 pa', .int .i64 ac, .int .i64 an, .slice none 0 0] 29) := by rw [hY5]; exact heap_setCell_same w5 A 4 _ _ _ hA5
  have hb5 : Below w4.heap.size w4 Y5 := by
    rw [hY5]
    exact (Below.to HB4.out b5 HB4.out.size).setCell (p := ⟨A, 4, none⟩) (by have := HA.out; show w4.heap.size ≤ A; omega) _
  have HV1 := Lib.hid (HV1.out.below hb5)
  have HV2 := Lib.hid (HV2.out.below hb5)
  have HV5 : Hid (IsAts Y5 v5 A1) := by
    show IsAts _ _ _
    rw [hY5]
    exact (hv5.set (p := ⟨A, 4, none⟩) HZ4.out _).reads
  have E5 := Lib.hid (Below.to E4.out hb5 E4.out.size)
  obtain ⟨⟨-, -, -, -, y4⟩, yf⟩ := five_of hA5
  have yf4 := yf 4
  obtain ⟨⟨q0, q1, q2, q3, q4⟩, -⟩ := five_of hA6
  obtain ⟨a7, c7, rfl, -, -⟩ := HV5.out.open
  have HY5 := Lib.hid hY5
  rw [HY5.out] at q0 q1 q2 q3 q4
  clear hv5 b5 hA5 hA6 hY5 hb5 z0 z1 z2 z3 z4 d0 d1 d2 d3 d4 yf
  go_wp2_with fail
  rw [← HY5.out]
  refine (HBM.out _ _ Y5 HV2.out HV1.out).mono ?_
  rintro e w6 ⟨v6, rfl, hv6, b6⟩
  have HV1 := Lib.hid (HV1.out.below b6)
  have HV2 := Lib.hid (HV2.out.below b6)
  have HV5 := Lib.hid (HV5.out.below b6)
  have HV6 := Lib.hid hv6
  have E6 := Lib.hid (Below.to E5.out b6 E5.out.size)
  obtain ⟨a8, c8, rfl, -, -⟩ := hv6.open
  clear hv6 b6 q0 q1 q2 q3 q4 y4 yf4
  go_wp2_with fail
  refine (HOF1.out _ _ _ HV2.out HV1.out).mono ?_
  rintro e w7 ⟨rfl, b7⟩
  have b7 := Below.alloc b7 b7.size (.cells #[.int .i64 x, .int .i64 y, .int .i64 z] 48)
  have F1 := Lib.hid (Kept.new w7 x y z)
  obtain ⟨G1, hG1⟩ : ∃ G, G = w7.heap.size := ⟨_, rfl⟩
  obtain ⟨X7, hX7⟩ : ∃ X, X = w7.alloc (.cells #[.int .i64 x, .int .i64 y, .int .i64 z] 48) := ⟨_, rfl⟩
  rw [← hX7] at b7 F1
  rw [← hG1] at F1
  have HV1 := Lib.hid (HV1.out.below b7)
  have HV5 := Lib.hid (HV5.out.below b7)
  have HV6 := Lib.hid (HV6.out.below b7)
  have E7 := Lib.hid (Below.to E6.out b7 E6.out.size)
  have HX7 := Lib.hid hX7
  have HG1 := Lib.hid hG1
  clear b7 hX7 hG1
  go_wp2_with fail
  rw [← HX7.out, ← HG1.out]
  refine (HOF2.out _ _ _ HV5.out HV1.out).mono ?_
  rintro e w8 ⟨rfl, b8⟩
  have b8 := Below.alloc b8 b8.size (.cells #[.int .i64 x', .int .i64 y', .int .i64 z'] 48)
  have F2 := Lib.hid (Kept.new w8 x' y' z')
  obtain ⟨G2, hG2⟩ : ∃ G, G = w8.heap.size := ⟨_, rfl⟩
  obtain ⟨X8, hX8⟩ : ∃ X, X = w8.alloc (.cells #[.int .i64 x', .int .i64 y', .int .i64 z'] 48) := ⟨_, rfl⟩
  rw [← hX8] at b8 F2
  rw [← hG2] at F2
  have F1 := Lib.hid (F1.out.below b8)
  have HV1 := Lib.hid (HV1.out.below b8)
  have HV6 := Lib.hid (HV6.out.below b8)
  have E8 := Lib.hid (Below.to E7.out b8 E7.out.size)
  have HX8 := Lib.hid hX8
  have HG2 := Lib.hid hG2
  clear b8 hX8 hG2
  go_wp2_with fail
  rw [← HX8.out, ← HG2.out]
  refine (HOF3.out _ _ _ HV6.out HV1.out).mono ?_
  rintro e w9 ⟨rfl, b9⟩
  have b9 := Below.alloc b9 b9.size (.cells #[.int .i64 x, .int .i64 y, .int .i64 z] 48)
  have F3 := Lib.hid (Kept.new w9 x y z)
  have E9 := Lib.hid (Below.to E8.out b9 E8.out.size)
  obtain ⟨p0, p1, p2⟩ := (F1.out.below b9).cells
  obtain ⟨q0, q1, q2⟩ := (F2.out.below b9).cells
  obtain ⟨r0, r1, r2⟩ := F3.out.cells
  clear b9
  cases b with
  | false =>
    clear HR5
    go_wp2_with fail
    refine (lives21 _).mono ?_
    rintro e w10 ⟨rfl, b10⟩
    have E10 := Lib.hid (Below.to HB0.out (Below.to E9.out b10 E9.out.size) HB0.out.size)
    clear b10
    go_wp2_with fail
    go_ret
    exact ⟨rfl, E10.out⟩
  | true =>
    obtain ⟨rfl, hlt⟩ := HR5.out rfl
    clear HR5
    go_wp2_with fail
    refine (lives21 _).mono ?_
    rintro e w10 ⟨rfl, b10⟩
    have E10 := Lib.hid (Below.to HB0.out (Below.to E9.out b10 E9.out.size) HB0.out.size)
    clear b10
    go_wp2_with fail
    go_ret
    exact ⟨rfl, E10.out⟩

end Go.Proofs.Ytdhiefgbajogcaa
