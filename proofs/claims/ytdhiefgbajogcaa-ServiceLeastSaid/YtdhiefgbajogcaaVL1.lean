/-
  The law ServiceLeast: its walk.
-/
import Derived.Test.YtdhiefgbajogcaaVO1
import Derived.Test.YtdhiefgbajogcaaRtZ
namespace Go.Proofs.Ytdhiefgbajogcaa
open Go.RowKit

set_option maxHeartbeats 4000000 in
set_option maxRecDepth 100000 in
theorem serviceLeast_any (c l : List Int) (v u : Value) (en pa : Int) (w : World) (hx : IsInts w v c) (hc : ∀ x ∈ c, I64 x) (hy : IsInts w u l) (hl : ∀ x ∈ l, I64 x) (he : I64 en) (hp : I64 pa) :
    Calls Try.prog 6 #[.agg #[v, u, .int .i64 en, .int .i64 pa]] w fun e w' => e = .returned (.bool true) ∧ Below w.heap.size w w' := by
  obtain ⟨a1, c1, rfl, -, -, -⟩ := hx.open
  obtain ⟨a2, c2, rfl, -, -, -⟩ := hy.open
  obtain ⟨W0, hW0⟩ : ∃ W0, W0 = w.alloc (.cells #[.slice a1 c.length c1, .slice a2 l.length c2, .int .i64 en, .int .i64 pa] 35) := ⟨_, rfl⟩
  obtain ⟨P, hP⟩ : ∃ P, P = w.heap.size := ⟨_, rfl⟩
  have FP : Hid (CaseAt W0 P (.slice a1 c.length c1) (.slice a2 l.length c2) en pa) := by show CaseAt _ _ _ _ _ _; rw [hW0, hP]; exact CaseAt.new _ _ _ _ _
  have hb0 : Below w.heap.size w W0 := by rw [hW0]; exact (Below.refl _ _).alloc (Nat.le_refl _) _
  have HB0 := Lib.hid hb0
  have HMA := Lib.hid (made21 c l _ _ en pa W0 (hx.below hb0) hc (hy.below hb0) hl)
  have HNE : Hid (∀ W, Calls Try.prog 23 #[.agg #[.slice a1 c.length c1, .slice a2 l.length c2, .int .i64 en, .int .i64 pa]] W fun r w' => r = .returned (.tuple #[.int .i64 (around en 5), .int .i64 (around pa 3)]) ∧ Below W.heap.size W w') := fun W => near21 _ _ en pa he hp W
  have HP := Lib.hid hP
  have HW0 := Lib.hid hW0
  clear hx hc hy hl he hp hW0 hP hb0
  have z := FP.out.cells
  obtain ⟨z0, z1, z2, z3⟩ := z
  go_enter Try.func6, Try.ntmps6
  go_wp2_with fail
  rw [← HW0.out]
  refine HMA.out.mono ?_
  rintro e w1 ⟨v1, v2, rfl, cs, ats, HG, HR, hv1, hv2, b1⟩
  have HV1 := Lib.hid hv1
  have HV2 := Lib.hid hv2
  have E1 := Lib.hid b1
  have FP := Lib.hid (FP.out.below b1)
  obtain ⟨a3, c3, rfl, -, -, -⟩ := hv1.open
  obtain ⟨a4, c4, rfl, -, -⟩ := hv2.open
  clear hv1 hv2 b1 HMA z0 z1 z2 z3
  obtain ⟨z0, z1, z2, z3⟩ := FP.out.cells
  rw [← HP.out]
  go_wp2_with fail
  refine (HNE.out _).mono ?_
  rintro e w2 ⟨rfl, b2⟩
  have HV1 := Lib.hid (HV1.out.below b2)
  have HV2 := Lib.hid (HV2.out.below b2)
  have E2 := Lib.hid (Below.to E1.out b2 E1.out.size)
  have FP := Lib.hid (FP.out.below b2)
  clear b2 z0 z1 z2 z3
  generalize around en 5 = en' at *
  generalize around pa 3 = pa' at *
  obtain ⟨f, hsv, hof⟩ := of_both ats cs HG.out HR.out
  have HOF := Lib.hid hof
  clear hof
  obtain ⟨o, ho⟩ : ∃ o, ofF f cs en' pa' ats = o := ⟨_, rfl⟩
  have HSV := Lib.hid hsv
  have HAT : Hid (OfAt f cs en' pa' ats ats.length o) := by show OfAt _ _ _ _ _ _ _; rw [← ho]; exact ofAt f cs en' pa' ats ats.length (Nat.le_refl _)
  have HO : Hid (∀ (v y' : Value) (w : World), IsAts w v ats → IsSps w y' cs →
      Calls Try.prog 24 #[v, .int .i64 en', .int .i64 pa', y'] w (fun e w' => e = .returned (.tuple #[.agg (svLit o), .bool o.isSome]) ∧ Below w.heap.size w w')) := fun v q w h1 h2 => by
    have h := (HOF.out en' pa' v q w h1 h2).1
    rw [ho] at h
    exact h
  have hl8 := HR.out.2
  have hcl4 := HG.out.2.2
  clear ho HOF hsv
  go_wp2_with fail
  refine (HO.out _ _ _ HV2.out HV1.out).mono ?_
  rintro e w3 ⟨rfl, b3⟩
  cases o with
  | none =>
    have HNO : Hid (∀ i (hi : i < ats.length), matB en' pa' ats[i] = true → (f ats[i]).2 = false) := fun i hi hm => HAT.out.no rfl i hi hi hm
    have b3 := Below.alloc b3 b3.size (.cells #[.int .i64 0, .int .i64 0, .int .i64 0] 48)
    have F1 := Lib.hid (Kept.new w3 0 0 0)
    obtain ⟨G1, hG1⟩ : ∃ G1, G1 = w3.heap.size := ⟨_, rfl⟩
    obtain ⟨X3, hX3⟩ : ∃ X3, X3 = w3.alloc (.cells #[.int .i64 0, .int .i64 0, .int .i64 0] 48) := ⟨_, rfl⟩
    rw [← hX3] at b3 F1
    rw [← hG1] at F1
    have HV1 := Lib.hid (HV1.out.below b3)
    have HV2 := Lib.hid (HV2.out.below b3)
    have E3 := Lib.hid (Below.to E2.out b3 E2.out.size)
    have HX3 := Lib.hid hX3
    have HG1 := Lib.hid hG1
    clear b3 hX3 hG1 HO HAT
    rw [show svLit none = #[.int .i64 0, .int .i64 0, .int .i64 0] from rfl]
    go_wp2_with fail
    rw [← HX3.out]
    go_region
    have HV1 := Lib.hid (HV1.out.below (Below.refl X3.heap.size X3).drew)
    have HV2 := Lib.hid (HV2.out.below (Below.refl X3.heap.size X3).drew)
    have E3 := Lib.hid (E3.out.drew)
    obtain ⟨X3', hX3'⟩ : ∃ X, X = X3.drew := ⟨_, rfl⟩
    rw [← hX3'] at HV1 HV2 E3
    rw [← hX3']
    have HX3' := Lib.hid hX3'
    clear hX3'
    go_wp2_with fail
    go_loopw [9] (fun i wr => ∃ (k : Nat), i = .int .i64 k ∧ k ≤ ats.length ∧ Hid (Below X3'.heap.size X3' wr)) (fun i _ => ats.length - (intOf i).toNat)
    case atStart => exact ⟨0, rfl, Nat.zero_le _, Lib.hid (Below.refl _ _)⟩
    case round =>
      obtain ⟨k, rfl, hk, HBR⟩ := hrel
      have ek : IntKind.i64.wrap ((k : Int) + 1) = ((k + 1 : Nat) : Int) := by rw [IntKind.wrap_i64]; omega
      by_cases hkl : k < ats.length
      · obtain ⟨_, _, e5, -, -, hcl'⟩ := (HV2.out.below HBR.out).open
        obtain ⟨b5, o5, us, rfl, hus, d0, d1, d2, d3, d4⟩ := hcl' k hkl
        simp only [Value.slice.injEq, true_and] at e5
        obtain ⟨rfl, -⟩ := e5
        have HNK := Lib.hid (HNO.out k hkl)
        have hga := HR.out.1 ats[k] (List.getElem_mem hkl)
        have HRT := Lib.hid hga.ok.rets
        have hhd := hga.ok.head
        have HSK := Lib.hid (HSV.out ats[k] (List.getElem_mem hkl))
        obtain ⟨ua, uc, rfl⟩ := hus.sl
        have HUS := Lib.hid hus
        obtain ⟨⟨fd, fb⟩, hfa⟩ : ∃ r, f ats[k] = r := ⟨_, rfl⟩
        rw [hfa] at HSK HNK
        clear hus hcl' hga hfa
        generalize ats[k] = a at *
        obtain ⟨ae, ap, ac, an, ow⟩ := a
        simp only at d0 d1 d2 d3 d4 hhd HRT HSK HUS HNK
        obtain ⟨-, -, -, ⟨hn0, hn1⟩⟩ := hhd
        have hkI : (k : Int) < (ats.length : Int) := by omega
        by_cases hm1 : ae = en'
        · by_cases hm2 : ap = pa'
          · subst hm1
            subst hm2
            have hfb : fb = false := HNK.out (by simp [matB])
            subst hfb
            have KD : Hid (wr.drew.cell? ⟨b5, o5 + k * 5 + 4, none⟩ = some (.slice ua ow.length uc) ∧ wr.drew.cell? ⟨b5, o5 + k * 5 + 3, none⟩ = some (.int .i64 an)) := ⟨d4, d3⟩
            have HLT : Hid (b5 < wr.heap.size) := World.block_lt_of_cell? _ _ d4
            have hol := HRT.out.2
            have HSD := Lib.hid (served_any ow cs _ _ an wr.drew (HUS.out.below ((Below.refl _ _).drew)) (HV1.out.below HBR.out.drew) (by omega) (by omega) HRT.out.1 HG.out.1.ok hn0 hn1)
            clear HV1 HNK
            go_wp2_with fail
            go_region_held3 (fun w' => w'.cell? ⟨b5, o5 + k * 5 + 4, none⟩ = some (.slice ua ow.length uc) ∧ w'.cell? ⟨b5, o5 + k * 5 + 3, none⟩ = some (.int .i64 an))
              (first
                | exact KD.out
                | exact K3.out
                | go_keep)
              (first
                | (go_at_call 26
                   refine HSD.out.mono ?_
                   rintro e w4 ⟨xd, xb, rfl, out, nv, HAL, HSF, hb4⟩
                   have HB4 := Lib.hid hb4
                   have K3 : Hid (w4.cell? ⟨b5, o5 + k * 5 + 4, none⟩ = some (.slice ua ow.length uc) ∧ w4.cell? ⟨b5, o5 + k * 5 + 3, none⟩ = some (.int .i64 an)) := ⟨(hb4.cell (p := ⟨b5, o5 + k * 5 + 4, none⟩) HLT.out).trans KD.out.1, (hb4.cell (p := ⟨b5, o5 + k * 5 + 3, none⟩) HLT.out).trans KD.out.2⟩
                   clear hb4))
            have hfx := Svd.eq (⟨out, nv, HAL.out, HSF.out⟩ : Svd ow cs an (xd, xb)) HSK.out (fun _ _ => rfl)
            obtain ⟨rfl, rfl⟩ : xd = fd ∧ xb = false := by injection hfx with h1 h2; exact ⟨h1, h2⟩
            have HR4 := Lib.hid (Below.to HBR.out.drew HB4.out HBR.out.drew.size)
            clear K3 KD HSD HAL HSK HSF hfx d0 d1 d2 d3 d4 HB4 HUS
            go_wp2_with fail
            go_roundw
            case rel => exact ⟨k + 1, by go_num, by omega, HR4⟩
            case measure => simp [intOf]; omega
          · go_wp2_with fail
            go_roundw
            case rel => exact ⟨k + 1, by go_num, by omega, HBR⟩
            case measure => simp [intOf]; omega
        · go_wp2_with fail
          go_roundw
          case rel => exact ⟨k + 1, by go_num, by omega, HBR⟩
          case measure => simp [intOf]; omega
      · have hkI : ¬ (k : Int) < (ats.length : Int) := by omega
        have E9 := Lib.hid (Below.to E3.out HBR.out E3.out.size)
        go_wp2_with fail
        refine (lives21 _).mono ?_
        rintro e w7 ⟨rfl, b7⟩
        have E7 := Lib.hid (Below.to HB0.out (Below.to E9.out b7 E9.out.size) HB0.out.size)
        clear b7
        go_wp2_with fail
        go_ret
        exact ⟨rfl, E7.out⟩
  | some s =>
    obtain ⟨i0, hi0, -, rfl, hm0, hf0, hmin⟩ := HAT.out.yes _ rfl
    obtain ⟨⟨D, db⟩, hD⟩ : ∃ r, f ats[i0] = r := ⟨_, rfl⟩
    rw [hD] at hf0
    simp only at hf0
    subst hf0
    have hg0 := HR.out.1 ats[i0] (List.getElem_mem hi0)
    have hhd0 := hg0.ok.head
    obtain ⟨E, hE⟩ : ∃ E, (cs.getD ats[i0].car.toNat (0, 0)).1 = E := ⟨_, rfl⟩
    have hsl : svLit (some (svOf f cs ats[i0] i0)) = #[.int .i64 D, .int .i64 E, .int .i64 (i0 : Int)] := by
      unfold svOf svLit
      simp only
      rw [hD, hE]
    have HMIN : Hid (∀ j (hj : j < ats.length), matB en' pa' ats[j] = true → (f ats[j]).2 = true → D ≤ (f ats[j]).1 ∧ (j < i0 → D < (f ats[j]).1)) := fun j hj h1 h2 => by
      have h := hmin j hj hj h1 h2
      have e : (svOf f cs ats[i0] i0).day = D := by unfold svOf; simp only; rw [hD]
      rw [e] at h
      exact h
    obtain ⟨_, _, e7, -, -, hcl7⟩ := HV2.out.open
    obtain ⟨b7, o7, u7, e8, -, g0, g1, g2, -, -⟩ := hcl7 i0 hi0
    subst e8
    simp only [Value.slice.injEq, true_and] at e7
    obtain ⟨rfl, -⟩ := e7
    have hme : ats[i0].ent = en' ∧ ats[i0].par = pa' := by simpa [matB] using hm0
    obtain ⟨cr, hcr⟩ : ∃ cr : Nat, ats[i0].car = (cr : Int) := ⟨ats[i0].car.toNat, by omega⟩
    have hcc : cr < cs.length := by omega
    obtain ⟨b6, o6, q6, e6, hb6, x0, -⟩ := HV1.out.at hcc
    simp only [Value.slice.injEq, true_and] at e6
    obtain ⟨rfl, -⟩ := e6
    have hE2 : cs[cr].1 = E := by
      rw [← hE, hcr, show ((cr : Int)).toNat = cr from by omega, List.getD_eq_getElem?_getD, List.getElem?_eq_getElem hcc]
      rfl
    rw [hE2] at x0
    rw [hme.1] at g0
    rw [hme.2] at g1
    rw [hcr] at g2
    have GA := Lib.hid (show w2.cell? ⟨b7, o7 + i0 * 5, none⟩ = some (.int .i64 en') ∧ w2.cell? ⟨b7, o7 + i0 * 5 + 1, none⟩ = some (.int .i64 pa') ∧ w2.cell? ⟨b7, o7 + i0 * 5 + 2, none⟩ = some (.int .i64 (cr : Int)) ∧ w2.cell? ⟨b6, o6 + cr * 2, none⟩ = some (.int .i64 E) from ⟨g0, g1, g2, x0⟩)
    have HB7 : Hid (b7 < w2.heap.size) := World.block_lt_of_cell? _ _ g0
    have HB6 : Hid (b6 < w2.heap.size) := hb6
    have hcI : (cr : Int) < (cs.length : Int) := by omega
    have hcN : ¬ (cr : Int) < 0 := by omega
    have hiI : (i0 : Int) < (ats.length : Int) := by omega
    have hiN : ¬ (i0 : Int) < 0 := by omega
    have hiD : decide ((i0 : Int) < 0) = false := by simp
    have hiG : decide ((ats.length : Int) ≤ (i0 : Int)) = false := by simp; omega
    have hiH : decide (ats.length ≤ i0) = false := by simp; omega
    have hig : ¬ (ats.length : Int) ≤ (i0 : Int) := by omega
    rw [hsl]
    have HDD := Lib.hid hD
    clear hD hE hg0 hhd0 hsl hmin hcl7 hme hcr hcc x0 hE2 g0 g1 g2 hb6
    have b3 := Below.alloc b3 b3.size (.cells #[.int .i64 D, .int .i64 E, .int .i64 (i0 : Int)] 48)
    have F1 := Lib.hid (Kept.new w3 D E (i0 : Int))
    obtain ⟨G1, hG1⟩ : ∃ G1, G1 = w3.heap.size := ⟨_, rfl⟩
    obtain ⟨X3, hX3⟩ : ∃ X3, X3 = w3.alloc (.cells #[.int .i64 D, .int .i64 E, .int .i64 (i0 : Int)] 48) := ⟨_, rfl⟩
    rw [← hX3] at b3 F1
    rw [← hG1] at F1
    have HV1 := Lib.hid (HV1.out.below b3)
    have HV2 := Lib.hid (HV2.out.below b3)
    have E3 := Lib.hid (Below.to E2.out b3 E2.out.size)
    have HX3 := Lib.hid hX3
    have HG1 := Lib.hid hG1
    have HBX := Lib.hid b3
    clear b3 hX3 hG1 HO HAT
    have GX : Hid (X3.cell? ⟨b7, o7 + i0 * 5, none⟩ = some (.int .i64 en') ∧ X3.cell? ⟨b7, o7 + i0 * 5 + 1, none⟩ = some (.int .i64 pa') ∧ X3.cell? ⟨b7, o7 + i0 * 5 + 2, none⟩ = some (.int .i64 (cr : Int)) ∧ X3.cell? ⟨b6, o6 + cr * 2, none⟩ = some (.int .i64 E)) :=
      ⟨(HBX.out.cell (p := ⟨b7, o7 + i0 * 5, none⟩) HB7.out).trans GA.out.1, (HBX.out.cell (p := ⟨b7, o7 + i0 * 5 + 1, none⟩) HB7.out).trans GA.out.2.1, (HBX.out.cell (p := ⟨b7, o7 + i0 * 5 + 2, none⟩) HB7.out).trans GA.out.2.2.1, (HBX.out.cell (p := ⟨b6, o6 + cr * 2, none⟩) HB6.out).trans GA.out.2.2.2⟩
    obtain ⟨g0, g1, g2, x0⟩ := GX.out
    obtain ⟨p0, p1, p2⟩ := F1.out.cells
    have z := F1.out.cells
    obtain ⟨z0, z1, z2⟩ := z
    rw [HX3.out] at z0 z1 z2
    rw [HG1.out] at z0 z1 z2
    go_wp2_with fail
    rw [← HX3.out, ← HG1.out]
    clear z0 z1 z2
    go_region
    have HV1 := Lib.hid (HV1.out.below (Below.refl X3.heap.size X3).drew)
    have HV2 := Lib.hid (HV2.out.below (Below.refl X3.heap.size X3).drew)
    have F1 := Lib.hid (F1.out.below (Below.refl X3.heap.size X3).drew)
    have E3 := Lib.hid (E3.out.drew)
    obtain ⟨X3', hX3'⟩ : ∃ X, X = X3.drew := ⟨_, rfl⟩
    rw [← hX3'] at HV1 HV2 E3 F1
    rw [← hX3']
    have HX3' := Lib.hid hX3'
    clear hX3' g0 g1 g2 x0 p0 p1 p2
    go_wp2_with fail
    try rw [hiH]
    clear hiG hiH hiD
    go_loopw [9] (fun i wr => ∃ (k : Nat), i = .int .i64 k ∧ k ≤ ats.length ∧ Hid (Below X3'.heap.size X3' wr)) (fun i _ => ats.length - (intOf i).toNat)
    case atStart => exact ⟨0, rfl, Nat.zero_le _, Lib.hid (Below.refl _ _)⟩
    case round =>
      obtain ⟨k, rfl, hk, HBR⟩ := hrel
      have ek : IntKind.i64.wrap ((k : Int) + 1) = ((k + 1 : Nat) : Int) := by rw [IntKind.wrap_i64]; omega
      by_cases hkl : k < ats.length
      · obtain ⟨_, _, e5, -, -, hcl'⟩ := (HV2.out.below HBR.out).open
        obtain ⟨b5, o5, us, rfl, hus, d0, d1, d2, d3, d4⟩ := hcl' k hkl
        simp only [Value.slice.injEq, true_and, Option.some.injEq, Addr.mk.injEq, and_true] at e5
        obtain ⟨⟨rfl, rfl⟩, rfl⟩ := e5
        have HMK := Lib.hid (HMIN.out k hkl)
        have HDK : Hid (k = i0 → f ats[k] = (D, true)) := fun e => by subst e; exact HDD.out
        have hga := HR.out.1 ats[k] (List.getElem_mem hkl)
        have HRT := Lib.hid hga.ok.rets
        have hhd := hga.ok.head
        have HSK := Lib.hid (HSV.out ats[k] (List.getElem_mem hkl))
        obtain ⟨ua, uc, rfl⟩ := hus.sl
        have HUS := Lib.hid hus
        obtain ⟨⟨fd, fb⟩, hfa⟩ : ∃ r, f ats[k] = r := ⟨_, rfl⟩
        rw [hfa] at HSK HMK HDK
        clear hus hcl' hga hfa
        generalize ats[k] = a at *
        obtain ⟨ae, ap, ac, an, ow⟩ := a
        simp only at d0 d1 d2 d3 d4 hhd HRT HSK HUS HMK HDK
        obtain ⟨-, -, -, ⟨hn0, hn1⟩⟩ := hhd
        have hkI : (k : Int) < (ats.length : Int) := by omega
        by_cases hm1 : ae = en'
        · by_cases hm2 : ap = pa'
          · subst hm1
            subst hm2
            have HFC : Hid (fb = true → D ≤ fd ∧ (k < i0 → D < fd)) := HMK.out (by simp [matB])
            have KD : Hid (wr.drew.cell? ⟨b7, o7 + k * 5 + 4, none⟩ = some (.slice ua ow.length uc) ∧ wr.drew.cell? ⟨b7, o7 + k * 5 + 3, none⟩ = some (.int .i64 an)) := ⟨d4, d3⟩
            have HLT : Hid (b7 < wr.heap.size) := World.block_lt_of_cell? _ _ d4
            have hol := HRT.out.2
            have HSD := Lib.hid (served_any ow cs _ _ an wr.drew (HUS.out.below ((Below.refl _ _).drew)) (HV1.out.below HBR.out.drew) (by omega) (by omega) HRT.out.1 HG.out.1.ok hn0 hn1)
            clear HV1 HMK
            go_wp2_with fail
            go_region_held3 (fun w' => w'.cell? ⟨b7, o7 + k * 5 + 4, none⟩ = some (.slice ua ow.length uc) ∧ w'.cell? ⟨b7, o7 + k * 5 + 3, none⟩ = some (.int .i64 an))
              (first
                | exact KD.out
                | exact K3.out
                | go_keep)
              (first
                | (go_at_call 26
                   refine HSD.out.mono ?_
                   rintro e w4 ⟨xd, xb, rfl, out, nv, HAL, HSF, hb4⟩
                   have HB4 := Lib.hid hb4
                   have K3 : Hid (w4.cell? ⟨b7, o7 + k * 5 + 4, none⟩ = some (.slice ua ow.length uc) ∧ w4.cell? ⟨b7, o7 + k * 5 + 3, none⟩ = some (.int .i64 an)) := ⟨(hb4.cell (p := ⟨b7, o7 + k * 5 + 4, none⟩) HLT.out).trans KD.out.1, (hb4.cell (p := ⟨b7, o7 + k * 5 + 3, none⟩) HLT.out).trans KD.out.2⟩
                   clear hb4))
            have hfx := Svd.eq (⟨out, nv, HAL.out, HSF.out⟩ : Svd ow cs an (xd, xb)) HSK.out (fun _ _ => rfl)
            obtain ⟨rfl, rfl⟩ : xd = fd ∧ xb = fb := by injection hfx with h1 h2; exact ⟨h1, h2⟩
            have HR4 := Lib.hid (Below.to HBR.out.drew HB4.out HBR.out.drew.size)
            obtain ⟨p0, p1, p2⟩ := (F1.out.below HR4.out).cells
            clear K3 KD HSD HAL HSK HSF hfx d0 d1 d2 d3 d4 HB4 HUS
            by_cases hki : k = i0
            · obtain ⟨rfl, rfl⟩ : xd = D ∧ xb = true := by
                have h := HDK.out hki
                injection h with h1 h2
                exact ⟨h1, h2⟩
              subst hki
              clear HDK HFC
              go_wp2_with fail
              go_roundw
              case rel => exact ⟨k + 1, by go_num, by omega, HR4⟩
              case measure => simp [intOf]; omega
            · have hkI2 : ((k : Int) == (i0 : Int)) = false := by simp; omega
              clear HDK
              cases xb with
              | false =>
                clear HFC
                go_wp2_with fail
                go_roundw
                case rel => exact ⟨k + 1, by go_num, by omega, HR4⟩
                case measure => simp [intOf]; omega
              | true =>
                obtain ⟨q1, q2⟩ := HFC.out rfl
                clear HFC
                have q3 : ¬ xd < D := by omega
                by_cases hlt : k < i0
                · have q4 : (xd == D) = false := by
                    have := q2 hlt
                    simp
                    omega
                  clear q2 q1
                  go_wp2_with fail
                  go_roundw
                  case rel => exact ⟨k + 1, by go_num, by omega, HR4⟩
                  case measure => simp [intOf]; omega
                · have q4 : ¬ (k : Int) < (i0 : Int) := by omega
                  clear q2 q1
                  by_cases q5 : xd = D
                  · subst q5
                    go_wp2_with fail
                    go_roundw
                    case rel => exact ⟨k + 1, by go_num, by omega, HR4⟩
                    case measure => simp [intOf]; omega
                  · have q6 : (xd == D) = false := by simp; exact q5
                    clear q5
                    go_wp2_with fail
                    go_roundw
                    case rel => exact ⟨k + 1, by go_num, by omega, HR4⟩
                    case measure => simp [intOf]; omega
          · go_wp2_with fail
            go_roundw
            case rel => exact ⟨k + 1, by go_num, by omega, HBR⟩
            case measure => simp [intOf]; omega
        · go_wp2_with fail
          go_roundw
          case rel => exact ⟨k + 1, by go_num, by omega, HBR⟩
          case measure => simp [intOf]; omega
      · have hkI : ¬ (k : Int) < (ats.length : Int) := by omega
        have E9 := Lib.hid (Below.to E3.out HBR.out E3.out.size)
        go_wp2_with fail
        refine (lives21 _).mono ?_
        rintro e w7 ⟨rfl, b7⟩
        have E7 := Lib.hid (Below.to HB0.out (Below.to E9.out b7 E9.out.size) HB0.out.size)
        clear b7
        go_wp2_with fail
        go_ret
        exact ⟨rfl, E7.out⟩

end Go.Proofs.Ytdhiefgbajogcaa
