/-
  The law ServiceReadings: its walk.
-/
import Derived.Test.YtdhiefgbajogcaaVO1
import Derived.Test.YtdhiefgbajogcaaRtL
import Derived.Test.YtdhiefgbajogcaaRtZ
namespace Go.Proofs.Ytdhiefgbajogcaa
open Go.RowKit

theorem svd_never {l : List Ret} {cs : List (Int × Int)} {sent : Int} {r : Int × Bool} {out : List (Int × Int)} {nv : Bool} (h : Svd l cs sent r) (ha : Alw l cs sent out nv) : r.2 = !nv := by
  have e := Svd.eq h (⟨out, nv, ha, rfl⟩ : Svd l cs sent (servedF out nv)) (fun _ _ => rfl)
  rw [e]
  cases nv with
  | true => rw [servedF_none (.inl rfl)]; rfl
  | false => rw [servedF_some ha.pos]; rfl

set_option maxHeartbeats 4000000 in
set_option maxRecDepth 100000 in
theorem serviceReadings_any (c l : List Int) (v u : Value) (en pa : Int) (w : World) (hx : IsInts w v c) (hc : ∀ x ∈ c, I64 x) (hy : IsInts w u l) (hl : ∀ x ∈ l, I64 x) (he : I64 en) (hp : I64 pa) :
    Calls Try.prog 10 #[.agg #[v, u, .int .i64 en, .int .i64 pa]] w fun e w' => e = .returned (.bool true) ∧ Below w.heap.size w w' := by
  obtain ⟨a1, c1, rfl, -, -, -⟩ := hx.open
  obtain ⟨a2, c2, rfl, -, -, -⟩ := hy.open
  obtain ⟨W0, hW0⟩ : ∃ W0, W0 = w.alloc (.cells #[.slice a1 c.length c1, .slice a2 l.length c2, .int .i64 en, .int .i64 pa] 35) := ⟨_, rfl⟩
  obtain ⟨P, hP⟩ : ∃ P, P = w.heap.size := ⟨_, rfl⟩
  have FP : Hid (CaseAt W0 P (.slice a1 c.length c1) (.slice a2 l.length c2) en pa) := by show CaseAt _ _ _ _ _ _; rw [hW0, hP]; exact CaseAt.new _ _ _ _ _
  have hb0 : Below w.heap.size w W0 := by rw [hW0]; exact (Below.refl _ _).alloc (Nat.le_refl _) _
  have HB0 := Lib.hid hb0
  have HMA := Lib.hid (made21 c l _ _ en pa W0 (hx.below hb0) hc (hy.below hb0) hl)
  have HNE : Hid (∀ W, Calls Try.prog 23 #[.agg #[.slice a1 c.length c1, .slice a2 l.length c2, .int .i64 en, .int .i64 pa]] W fun r w' => r = .returned (.tuple #[.int .i64 (around en 5), .int .i64 (around pa 3)]) ∧ Below W.heap.size W w') := fun W => near21 _ _ en pa he hp W
  have HP := Lib.hid hP
  have HW0 := Lib.hid hW0
  clear hx hc hy hl he hp hW0 hP hb0
  have z := FP.out.cells
  obtain ⟨z0, z1, z2, z3⟩ := z
  go_enter Try.func10, Try.ntmps10
  go_wp2_with fail
  rw [← HW0.out]
  refine HMA.out.mono ?_
  rintro e w1 ⟨v1, v2, rfl, cs, ats, HG, HR, hv1, hv2, b1⟩
  have HV1 := Lib.hid hv1
  have HV2 := Lib.hid hv2
  have E1 := Lib.hid b1
  have FP := Lib.hid (FP.out.below b1)
  obtain ⟨a3, c3, rfl, -, -, -⟩ := hv1.open
  obtain ⟨a4, c4, rfl, -, -⟩ := hv2.open
  clear hv1 hv2 b1 HMA z0 z1 z2 z3
  obtain ⟨z0, z1, z2, z3⟩ := FP.out.cells
  rw [← HP.out]
  go_wp2_with fail
  refine (HNE.out _).mono ?_
  rintro e w2 ⟨rfl, b2⟩
  have HV1 := Lib.hid (HV1.out.below b2)
  have HV2 := Lib.hid (HV2.out.below b2)
  have E2 := Lib.hid (Below.to E1.out b2 E1.out.size)
  have FP := Lib.hid (FP.out.below b2)
  clear b2 z0 z1 z2 z3
  generalize around en 5 = en' at *
  generalize around pa 3 = pa' at *
  obtain ⟨f, hsv, hof⟩ := of_both ats cs HG.out HR.out
  have HOF := Lib.hid hof
  clear hof
  obtain ⟨x, y, z, hs⟩ := svLit_three (ofF f cs en' pa' ats)
  obtain ⟨b, hb⟩ : ∃ b, (ofF f cs en' pa' ats).isSome = b := ⟨_, rfl⟩
  have HSV := Lib.hid hsv
  have HBE : Hid (b = ats.any (fun a => matB en' pa' a && (f a).2)) := by show _ = _; rw [← hb, ofF_iff]
  have HO : Hid (∀ (v y' : Value) (w : World), IsAts w v ats → IsSps w y' cs →
      Calls Try.prog 24 #[v, .int .i64 en', .int .i64 pa', y'] w (fun e w' => e = .returned (.tuple #[.agg #[.int .i64 x, .int .i64 y, .int .i64 z], .bool b]) ∧ Below w.heap.size w w')) := fun v q w h1 h2 => by
    have h := (HOF.out en' pa' v q w h1 h2).1
    rw [hs, hb] at h
    exact h
  clear hs hb HOF hsv
  go_wp2_with fail
  refine (HO.out _ _ _ HV2.out HV1.out).mono ?_
  rintro e w3 ⟨rfl, b3⟩
  have b3 := Below.alloc b3 b3.size (.cells #[.int .i64 x, .int .i64 y, .int .i64 z] 48)
  obtain ⟨X3, hX3⟩ : ∃ X3, X3 = w3.alloc (.cells #[.int .i64 x, .int .i64 y, .int .i64 z] 48) := ⟨_, rfl⟩
  rw [← hX3] at b3
  have HV1 := Lib.hid (HV1.out.below b3)
  have HV2 := Lib.hid (HV2.out.below b3)
  have E3 := Lib.hid (Below.to E2.out b3 E2.out.size)
  have HX3 := Lib.hid hX3
  clear b3 hX3 HO
  have hl8 := HR.out.2
  go_wp2_with fail
  rw [← HX3.out]
  go_loopw [9, 10] (fun s i wr => ∃ (k : Nat) (sb : Bool), s = .bool sb ∧ i = .int .i64 k ∧ k ≤ ats.length ∧ Hid (sb = (ats.take k).any (fun a => matB en' pa' a && (f a).2)) ∧ Hid (Below X3.heap.size X3 wr)) (fun _ i _ => ats.length - (intOf i).toNat)
  case atStart => exact ⟨0, false, rfl, rfl, Nat.zero_le _, rfl, Lib.hid (Below.refl _ _)⟩
  case round =>
    obtain ⟨k, sb, rfl, rfl, hk, HSB, HBR⟩ := hrel
    have ek : IntKind.i64.wrap ((k : Int) + 1) = ((k + 1 : Nat) : Int) := by rw [IntKind.wrap_i64]; omega
    by_cases hkl : k < ats.length
    · obtain ⟨_, _, e5, -, -, hcl'⟩ := (HV2.out.below HBR.out).open
      obtain ⟨b5, o5, us, rfl, hus, d0, d1, d2, d3, d4⟩ := hcl' k hkl
      simp only [Value.slice.injEq, true_and] at e5
      obtain ⟨rfl, -⟩ := e5
      have HCT : Hid ((ats.take (k + 1)).any (fun a => matB en' pa' a && (f a).2) = (sb || (matB en' pa' ats[k] && (f ats[k]).2))) := by
        show _ = _
        rw [List.take_succ_eq_append_getElem hkl, List.any_append, HSB.out]
        simp
      have hga := HR.out.1 ats[k] (List.getElem_mem hkl)
      have HRT := Lib.hid hga.ok.rets
      have hhd := hga.ok.head
      have HSK := Lib.hid (HSV.out ats[k] (List.getElem_mem hkl))
      obtain ⟨ua, uc, rfl⟩ := hus.sl
      have HUS := Lib.hid hus
      obtain ⟨⟨fd, fb⟩, hfa⟩ : ∃ r, f ats[k] = r := ⟨_, rfl⟩
      rw [hfa] at HSK HCT
      clear hus hcl' hga hfa
      generalize ats[k] = a at *
      obtain ⟨ae, ap, ac, an, ow⟩ := a
      simp only at d0 d1 d2 d3 d4 hhd HRT HSK HUS HCT
      obtain ⟨-, -, -, ⟨hn0, hn1⟩⟩ := hhd
      have hkI : (k : Int) < (ats.length : Int) := by omega
      by_cases hm1 : ae = en'
      · by_cases hm2 : ap = pa'
        · subst hm1
          subst hm2
          have HCT : Hid ((ats.take (k + 1)).any (fun a => matB ae ap a && (f a).2) = (sb || fb)) := by
            show _ = _
            rw [HCT.out]
            simp [matB]
          have KD : Hid (wr.drew.cell? ⟨b5, o5 + k * 5 + 4, none⟩ = some (.slice ua ow.length uc) ∧ wr.drew.cell? ⟨b5, o5 + k * 5 + 3, none⟩ = some (.int .i64 an)) := ⟨d4, d3⟩
          have HLT : Hid (b5 < wr.heap.size) := World.block_lt_of_cell? _ _ d4
          have hol := HRT.out.2
          have hcl4 := HG.out.2.2
          have HSD := Lib.hid (allowed_any ow cs _ _ an wr.drew (HUS.out.below ((Below.refl _ _).drew)) (HV1.out.below HBR.out.drew) (by omega) (by omega) HRT.out.1 HG.out.1.ok hn0 hn1)
          clear HV1
          go_wp2_with fail
          go_region_held3 (fun w' => w'.cell? ⟨b5, o5 + k * 5 + 4, none⟩ = some (.slice ua ow.length uc) ∧ w'.cell? ⟨b5, o5 + k * 5 + 3, none⟩ = some (.int .i64 an))
            (first
              | exact KD.out
              | exact K3.out
              | go_keep)
            (first
              | (go_at_call 27
                 refine HSD.out.mono ?_
                 rintro e w4 ⟨v4, nv, rfl, out, HAL, hv4, hb4⟩
                 have HB4 := Lib.hid hb4
                 have K3 : Hid (w4.cell? ⟨b5, o5 + k * 5 + 4, none⟩ = some (.slice ua ow.length uc) ∧ w4.cell? ⟨b5, o5 + k * 5 + 3, none⟩ = some (.int .i64 an)) := ⟨(hb4.cell (p := ⟨b5, o5 + k * 5 + 4, none⟩) HLT.out).trans KD.out.1, (hb4.cell (p := ⟨b5, o5 + k * 5 + 3, none⟩) HLT.out).trans KD.out.2⟩
                 obtain ⟨a9, c9, rfl, -, -, -⟩ := hv4.open
                 clear hb4 hv4))
          have hnv := svd_never HSK.out HAL.out
          simp only at hnv
          subst hnv
          have HR4 := Lib.hid (Below.to HBR.out.drew HB4.out HBR.out.drew.size)
          clear K3 KD HSD HAL HSK HSB d0 d1 d2 d3 d4 HB4 HUS
          cases sb <;> cases nv
          all_goals
            go_wp2_with fail
            go_roundw
            case rel => exact ⟨k + 1, _, rfl, by go_num, by omega, by show _ = _; rw [HCT.out]; rfl, HR4⟩
            case measure => simp [intOf]; omega
        · have HCF : Hid (sb = (ats.take (k + 1)).any (fun a => matB en' pa' a && (f a).2)) := by
            show _ = _
            rw [HCT.out]
            simp [matB, hm2]
          clear HCT HSB
          go_wp2_with fail
          go_roundw
          case rel => exact ⟨k + 1, sb, rfl, by go_num, by omega, HCF, HBR⟩
          case measure => simp [intOf]; omega
      · have HCF : Hid (sb = (ats.take (k + 1)).any (fun a => matB en' pa' a && (f a).2)) := by
          show _ = _
          rw [HCT.out]
          simp [matB, hm1]
        clear HCT HSB
        go_wp2_with fail
        go_roundw
        case rel => exact ⟨k + 1, sb, rfl, by go_num, by omega, HCF, HBR⟩
        case measure => simp [intOf]; omega
    · have hke : k = ats.length := by omega
      have hbe : sb = b := by rw [HSB.out, HBE.out, hke, List.take_length]
      have hkI : ¬ (k : Int) < (ats.length : Int) := by omega
      subst hbe
      have E9 := Lib.hid (Below.to E3.out HBR.out E3.out.size)
      clear HSB HBE
      cases sb
      all_goals
        go_wp2_with fail
        refine (lives21 _).mono ?_
        rintro e w7 ⟨rfl, b7⟩
        have E7 := Lib.hid (Below.to HB0.out (Below.to E9.out b7 E9.out.size) HB0.out.size)
        clear b7
        go_wp2_with fail
        go_ret
        exact ⟨rfl, E7.out⟩

end Go.Proofs.Ytdhiefgbajogcaa
