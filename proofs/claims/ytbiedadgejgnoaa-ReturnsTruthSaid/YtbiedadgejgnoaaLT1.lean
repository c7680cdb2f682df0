/-
  The law ReturnsTruth: its walk.
-/
import Derived.Test.YtbiedadgejgnoaaRtU
import Derived.Test.YtbiedadgejgnoaaRtK
import Derived.Test.YtbiedadgejgnoaaRtZ
namespace Go.Proofs.Ytbiedadgejgnoaa
open Go.RowKit

set_option maxHeartbeats 8000000 in
set_option maxRecDepth 100000 in
theorem returnsTruth_any (c l : List Int) (v u : Value) (n truth : Int) (w : World) (hx : IsInts w v c) (hc : ∀ x ∈ c, I64 x) (hy : IsInts w u l) (hl : ∀ x ∈ l, I64 x) (hn : I64 n) (hd : I64 truth) :
    Calls Try.prog 6 #[v, u, .int .i64 n, .int .i64 truth] w fun e w' => e = .returned (.bool true) ∧ Below w.heap.size w w' := by
  have HM := Lib.hid (made_any c l v u n w hx hc hy hl hn)
  have HA : Hid (∀ W, Calls Try.prog 14 #[.int .i64 truth, .int .i64 62] W fun e w' => e = .returned (.int .i64 (around truth 62)) ∧ W = w') := fun W => around_any truth 62 hd (by omega) W
  have h1 := around_lo truth 62 (by omega)
  have h2 := around_hi truth 62 (by omega)
  obtain ⟨hb0, hb1⟩ := baseF_in n
  obtain ⟨a1, c1, rfl, -, -, -⟩ := hx.open
  obtain ⟨a2, c2, rfl, -, -, -⟩ := hy.open
  generalize around truth 62 = y at *
  generalize baseF n = D at *
  have q1 : IntKind.i64.wrap (D + y) = D + y := by rw [IntKind.wrap_i64]; omega
  have q2 : IntKind.i64.wrap (D + y - 1) = D + y - 1 := by rw [IntKind.wrap_i64]; omega
  obtain ⟨dd, hdd⟩ : ∃ dd, min 3652058 (D + y - 1) = dd := ⟨_, rfl⟩
  have hdd1 : -1 ≤ dd ∧ dd ≤ 3652058 := by omega
  obtain ⟨hdd2, hdd3⟩ := hdd1
  clear hx hy hc hl hn hd
  by_cases hlt : dd < D
  · have HDP : Hid (Poss D (-1)) := .inl rfl
    go_enter Try.func6, Try.ntmps6
    go_wp2_with fail
    refine HM.out.mono ?_
    rintro e w1 ⟨v1, v2, rfl, cs, rs, HG, HR, hv1, hv2, hb1'⟩
    have HV1 := Lib.hid hv1
    have HV2 := Lib.hid hv2
    have HB1 := Lib.hid hb1'
    have hrl := HR.out.2.1
    have hcl := HG.out.2.2
    obtain ⟨a3, c3, rfl, -, -⟩ := hv2.open
    obtain ⟨a4, c4, rfl, -, -, -⟩ := hv1.open
    clear hv1 hv2 hb1' HM
    go_wp2_with fail
    refine (HA.out _).mono ?_
    rintro e w' ⟨rfl, rfl⟩
    go_wp2_with fail
    go_loopw [13] (fun i wr => ∃ (c : Nat), i = .int .i64 c ∧ c ≤ cs.length ∧ Hid (∀ j (hj : j < cs.length), j < c → (nW rs (j : Int) (-1) : Int) ≤ cs[j].2) ∧ Hid (Below w1.heap.size w1 wr)) (fun i _ => cs.length - (intOf i).toNat)
    case atStart => exact ⟨0, rfl, Nat.zero_le _, Lib.hid (fun j _ h => absurd h (Nat.not_lt_zero _)), Lib.hid (Below.refl _ _)⟩
    case round =>
      obtain ⟨c, rfl, hc, HT, HBR⟩ := hrel
      have ec : IntKind.i64.wrap ((c : Int) + 1) = ((c + 1 : Nat) : Int) := by rw [IntKind.wrap_i64]; omega
      by_cases hcc : c < cs.length
      · obtain ⟨wo, rfl⟩ : ∃ wo : World, wo = wr := ⟨_, rfl⟩
        have hso := HBR.out.size
        go_wp2_with fail
        go_loopw [14, 15] (fun a i wr => ∃ (k m : Nat), a = .int .i64 m ∧ i = .int .i64 k ∧ k ≤ rs.length ∧ m ≤ k ∧ Hid (m = nW (rs.take k) (c : Int) (-1)) ∧ Hid (Below w1.heap.size w1 wr)) (fun _ i _ => rs.length - (intOf i).toNat)
        case atStart => exact ⟨0, 0, rfl, rfl, Nat.zero_le _, Nat.le_refl _, Lib.hid rfl, HBR⟩
        case round =>
          obtain ⟨k, m, rfl, rfl, hk, hm, HM, HBQ⟩ := hrel
          have ek : IntKind.i64.wrap ((k : Int) + 1) = ((k + 1 : Nat) : Int) := by rw [IntKind.wrap_i64]; omega
          have em : IntKind.i64.wrap ((m : Int) + 1) = ((m + 1 : Nat) : Int) := by rw [IntKind.wrap_i64]; omega
          by_cases hkl : k < rs.length
          · obtain ⟨b5, o5, q5, e5, hlt5, d0, d1, d2, d3⟩ := (HV2.out.below HBQ.out).at hkl
            simp only [Value.slice.injEq, true_and] at e5
            obtain ⟨rfl, -⟩ := e5
            have HST := Lib.hid (nW_take hkl (c : Int) (-1))
            by_cases he : rs[k].car = (c : Int)
            · by_cases hw : wrongB rs[k] (-1) = true
              · have HM2 : Hid (m + 1 = nW (rs.take (k + 1)) (c : Int) (-1)) := by show _ = _; rw [HST.out, if_pos ⟨he, hw⟩, ← HM.out]
                have HWC := Lib.hid (wrong_is rs[k] (-1) true hw)
                clear HST HM hw
                generalize rs[k] = s at *
                obtain ⟨sc, sk, sf, su⟩ := s
                simp only at d0 d1 d2 d3 he
                subst he
                go_wp2_with fail
                refine (HWC.out _).mono ?_
                rintro e w2 ⟨rfl, hb2⟩
                have HB2 := Lib.hid (Below.to HBQ.out hb2 HBQ.out.size)
                clear hb2
                go_wp2_with fail
                go_roundw
                case rel => exact ⟨k + 1, m + 1, by go_num, by go_num, by omega, by omega, HM2, HB2⟩
                case measure => simp [intOf]; omega
              · have HM2 : Hid (m = nW (rs.take (k + 1)) (c : Int) (-1)) := by show _ = _; rw [HST.out, if_neg (fun h => hw h.2), ← HM.out]; rfl
                have HWC := Lib.hid (wrong_is rs[k] (-1) false (by simpa using hw))
                clear HST HM hw
                generalize rs[k] = s at *
                obtain ⟨sc, sk, sf, su⟩ := s
                simp only at d0 d1 d2 d3 he
                subst he
                go_wp2_with fail
                refine (HWC.out _).mono ?_
                rintro e w2 ⟨rfl, hb2⟩
                have HB2 := Lib.hid (Below.to HBQ.out hb2 HBQ.out.size)
                clear hb2
                go_wp2_with fail
                go_roundw
                case rel => exact ⟨k + 1, m, rfl, by go_num, by omega, by omega, HM2, HB2⟩
                case measure => simp [intOf]; omega
            · have HM2 : Hid (m = nW (rs.take (k + 1)) (c : Int) (-1)) := by show _ = _; rw [HST.out, if_neg (fun h => he h.1), ← HM.out]; rfl
              have hb : (rs[k].car == (c : Int)) = false := by simpa using he
              clear HST HM he
              generalize rs[k] = s at *
              obtain ⟨sc, sk, sf, su⟩ := s
              simp only at d0 d1 d2 d3 hb
              go_wp2_with fail
              go_roundw
              case rel => exact ⟨k + 1, m, rfl, by go_num, by omega, by omega, HM2, HBQ⟩
              case measure => simp [intOf]; omega
          · obtain rfl : k = rs.length := by omega
            obtain ⟨b6, o6, q6, e6, -, -, x1⟩ := (HV1.out.below HBQ.out).at hcc
            simp only [Value.slice.injEq, true_and] at e6
            obtain ⟨rfl, -⟩ := e6
            have HT2 : Hid ((m : Int) ≤ cs[c].2 → ∀ j (hj : j < cs.length), j < c + 1 → (nW rs (j : Int) (-1) : Int) ≤ cs[j].2) := fun h j hj hjc => by
              rcases Nat.lt_succ_iff_lt_or_eq.1 hjc with h' | rfl
              · exact HT.out j hj h'
              · have h2 := HM.out
                rw [List.take_length] at h2
                rw [← h2]
                exact h
            generalize cs[c] = cc at *
            obtain ⟨c1', tol⟩ := cc
            simp only at x1 HT2
            by_cases hle : (m : Int) ≤ tol
            · have HT3 := Lib.hid (HT2.out hle)
              have hle' : ¬ tol < (m : Int) := by omega
              clear HM HT HBR HT2
              go_wp2_with fail
              go_roundw
              case rel => exact ⟨c + 1, by go_num, by omega, HT3, HBQ⟩
              case measure => simp [intOf]; omega
            · have hle' : tol < (m : Int) := by omega
              clear HM HT HBR HT2 hle
              go_wp2_with fail
              refine (lives_any _).mono ?_
              rintro e w99 ⟨rfl, hb99⟩
              have HB99 := Lib.hid (Below.to HB1.out (Below.to HBQ.out hb99 HBQ.out.size) HB1.out.size)
              clear hb99
              go_wp2_with fail
              go_ret
              exact ⟨rfl, HB99.out⟩
      · obtain rfl : c = cs.length := by omega
        have HZ : Hid (excF rs cs (-1) = 0) := excF_zero (fun j hj => HT.out j hj hj)
        clear HT
        go_wp2_with fail
        refine (allowed_any rs cs _ _ D _ (HV2.out.below HBR.out) (HV1.out.below HBR.out) (by omega) (by omega) HR.out.1 HG.out.1.ok hb0 hb1).mono ?_
        rintro e w3 ⟨v5, nv, rfl, out, HAL, hv5, hb3⟩
        have HB3 := Lib.hid (Below.to HBR.out hb3 HBR.out.size)
        have HV5 := Lib.hid hv5
        obtain ⟨a5, c5, rfl, -, -, -⟩ := hv5.open
        clear hb3 hv5
        go_wp2_with fail
        refine (served_any rs cs _ _ D _ (HV2.out.below HB3.out) (HV1.out.below HB3.out) (by omega) (by omega) HR.out.1 HG.out.1.ok hb0 hb1).mono ?_
        rintro e w5 ⟨x, b, rfl, out5, nv5, HS5, HX5, hb5⟩
        obtain ⟨rfl, rfl⟩ := Alw.eq HAL.out HS5.out (fun _ _ => rfl)
        have HB5 := Lib.hid (Below.to HB3.out hb5 HB3.out.size)
        have HV6 := Lib.hid (HV5.out.below hb5)
        have HHD : Hid (hasDay out nv (-1) = true) := HAL.out.truth hb0 HDP.out HZ.out
        have HSV : Hid (b = true → 0 ≤ (-1) ∧ (-1) ≤ x) := fun h => by subst h; exact HAL.out.truthServed hb0 HDP.out HZ.out HX5.out
        clear hb5 HS5 HX5 HAL HV5
        go_wp2_with fail
        refine (hasDay_any out _ nv (-1) _ HV6.out).mono ?_
        rintro e w6 ⟨rfl, hb6⟩
        rw [HHD.out]
        have HB6 := Lib.hid (Below.to HB1.out (Below.to HB5.out hb6 HB5.out.size) HB1.out.size)
        clear hb6 HHD
        cases b with
        | true =>
          obtain ⟨s1, s2⟩ := HSV.out rfl
          omega
        | false =>
          clear HSV
          go_wp2_with fail
          refine (lives_any _).mono ?_
          rintro e w99 ⟨rfl, hb99⟩
          have HB99 := Lib.hid (Below.to HB6.out hb99 HB6.out.size)
          clear hb99
          go_wp2_with fail
          go_ret
          exact ⟨rfl, HB99.out⟩
  · have HDP : Hid (Poss D dd) := .inr ⟨by omega, by omega⟩
    go_enter Try.func6, Try.ntmps6
    go_wp2_with fail
    refine HM.out.mono ?_
    rintro e w1 ⟨v1, v2, rfl, cs, rs, HG, HR, hv1, hv2, hb1'⟩
    have HV1 := Lib.hid hv1
    have HV2 := Lib.hid hv2
    have HB1 := Lib.hid hb1'
    have hrl := HR.out.2.1
    have hcl := HG.out.2.2
    obtain ⟨a3, c3, rfl, -, -⟩ := hv2.open
    obtain ⟨a4, c4, rfl, -, -, -⟩ := hv1.open
    clear hv1 hv2 hb1' HM
    go_wp2_with fail
    refine (HA.out _).mono ?_
    rintro e w' ⟨rfl, rfl⟩
    go_wp2_with fail
    go_loopw [13] (fun i wr => ∃ (c : Nat), i = .int .i64 c ∧ c ≤ cs.length ∧ Hid (∀ j (hj : j < cs.length), j < c → (nW rs (j : Int) dd : Int) ≤ cs[j].2) ∧ Hid (Below w1.heap.size w1 wr)) (fun i _ => cs.length - (intOf i).toNat)
    case atStart => exact ⟨0, rfl, Nat.zero_le _, Lib.hid (fun j _ h => absurd h (Nat.not_lt_zero _)), Lib.hid (Below.refl _ _)⟩
    case round =>
      obtain ⟨c, rfl, hc, HT, HBR⟩ := hrel
      have ec : IntKind.i64.wrap ((c : Int) + 1) = ((c + 1 : Nat) : Int) := by rw [IntKind.wrap_i64]; omega
      by_cases hcc : c < cs.length
      · obtain ⟨wo, rfl⟩ : ∃ wo : World, wo = wr := ⟨_, rfl⟩
        have hso := HBR.out.size
        go_wp2_with fail
        go_loopw [14, 15] (fun a i wr => ∃ (k m : Nat), a = .int .i64 m ∧ i = .int .i64 k ∧ k ≤ rs.length ∧ m ≤ k ∧ Hid (m = nW (rs.take k) (c : Int) dd) ∧ Hid (Below w1.heap.size w1 wr)) (fun _ i _ => rs.length - (intOf i).toNat)
        case atStart => exact ⟨0, 0, rfl, rfl, Nat.zero_le _, Nat.le_refl _, Lib.hid rfl, HBR⟩
        case round =>
          obtain ⟨k, m, rfl, rfl, hk, hm, HM, HBQ⟩ := hrel
          have ek : IntKind.i64.wrap ((k : Int) + 1) = ((k + 1 : Nat) : Int) := by rw [IntKind.wrap_i64]; omega
          have em : IntKind.i64.wrap ((m : Int) + 1) = ((m + 1 : Nat) : Int) := by rw [IntKind.wrap_i64]; omega
          by_cases hkl : k < rs.length
          · obtain ⟨b5, o5, q5, e5, hlt5, d0, d1, d2, d3⟩ := (HV2.out.below HBQ.out).at hkl
            simp only [Value.slice.injEq, true_and] at e5
            obtain ⟨rfl, -⟩ := e5
            have HST := Lib.hid (nW_take hkl (c : Int) dd)
            by_cases he : rs[k].car = (c : Int)
            · by_cases hw : wrongB rs[k] dd = true
              · have HM2 : Hid (m + 1 = nW (rs.take (k + 1)) (c : Int) dd) := by show _ = _; rw [HST.out, if_pos ⟨he, hw⟩, ← HM.out]
                have HWC := Lib.hid (wrong_is rs[k] dd true hw)
                clear HST HM hw
                generalize rs[k] = s at *
                obtain ⟨sc, sk, sf, su⟩ := s
                simp only at d0 d1 d2 d3 he
                subst he
                go_wp2_with fail
                refine (HWC.out _).mono ?_
                rintro e w2 ⟨rfl, hb2⟩
                have HB2 := Lib.hid (Below.to HBQ.out hb2 HBQ.out.size)
                clear hb2
                go_wp2_with fail
                go_roundw
                case rel => exact ⟨k + 1, m + 1, by go_num, by go_num, by omega, by omega, HM2, HB2⟩
                case measure => simp [intOf]; omega
              · have HM2 : Hid (m = nW (rs.take (k + 1)) (c : Int) dd) := by show _ = _; rw [HST.out, if_neg (fun h => hw h.2), ← HM.out]; rfl
                have HWC := Lib.hid (wrong_is rs[k] dd false (by simpa using hw))
                clear HST HM hw
                generalize rs[k] = s at *
                obtain ⟨sc, sk, sf, su⟩ := s
                simp only at d0 d1 d2 d3 he
                subst he
                go_wp2_with fail
                refine (HWC.out _).mono ?_
                rintro e w2 ⟨rfl, hb2⟩
                have HB2 := Lib.hid (Below.to HBQ.out hb2 HBQ.out.size)
                clear hb2
                go_wp2_with fail
                go_roundw
                case rel => exact ⟨k + 1, m, rfl, by go_num, by omega, by omega, HM2, HB2⟩
                case measure => simp [intOf]; omega
            · have HM2 : Hid (m = nW (rs.take (k + 1)) (c : Int) dd) := by show _ = _; rw [HST.out, if_neg (fun h => he h.1), ← HM.out]; rfl
              have hb : (rs[k].car == (c : Int)) = false := by simpa using he
              clear HST HM he
              generalize rs[k] = s at *
              obtain ⟨sc, sk, sf, su⟩ := s
              simp only at d0 d1 d2 d3 hb
              go_wp2_with fail
              go_roundw
              case rel => exact ⟨k + 1, m, rfl, by go_num, by omega, by omega, HM2, HBQ⟩
              case measure => simp [intOf]; omega
          · obtain rfl : k = rs.length := by omega
            obtain ⟨b6, o6, q6, e6, -, -, x1⟩ := (HV1.out.below HBQ.out).at hcc
            simp only [Value.slice.injEq, true_and] at e6
            obtain ⟨rfl, -⟩ := e6
            have HT2 : Hid ((m : Int) ≤ cs[c].2 → ∀ j (hj : j < cs.length), j < c + 1 → (nW rs (j : Int) dd : Int) ≤ cs[j].2) := fun h j hj hjc => by
              rcases Nat.lt_succ_iff_lt_or_eq.1 hjc with h' | rfl
              · exact HT.out j hj h'
              · have h2 := HM.out
                rw [List.take_length] at h2
                rw [← h2]
                exact h
            generalize cs[c] = cc at *
            obtain ⟨c1', tol⟩ := cc
            simp only at x1 HT2
            by_cases hle : (m : Int) ≤ tol
            · have HT3 := Lib.hid (HT2.out hle)
              have hle' : ¬ tol < (m : Int) := by omega
              clear HM HT HBR HT2
              go_wp2_with fail
              go_roundw
              case rel => exact ⟨c + 1, by go_num, by omega, HT3, HBQ⟩
              case measure => simp [intOf]; omega
            · have hle' : tol < (m : Int) := by omega
              clear HM HT HBR HT2 hle
              go_wp2_with fail
              refine (lives_any _).mono ?_
              rintro e w99 ⟨rfl, hb99⟩
              have HB99 := Lib.hid (Below.to HB1.out (Below.to HBQ.out hb99 HBQ.out.size) HB1.out.size)
              clear hb99
              go_wp2_with fail
              go_ret
              exact ⟨rfl, HB99.out⟩
      · obtain rfl : c = cs.length := by omega
        have HZ : Hid (excF rs cs dd = 0) := excF_zero (fun j hj => HT.out j hj hj)
        clear HT
        go_wp2_with fail
        refine (allowed_any rs cs _ _ D _ (HV2.out.below HBR.out) (HV1.out.below HBR.out) (by omega) (by omega) HR.out.1 HG.out.1.ok hb0 hb1).mono ?_
        rintro e w3 ⟨v5, nv, rfl, out, HAL, hv5, hb3⟩
        have HB3 := Lib.hid (Below.to HBR.out hb3 HBR.out.size)
        have HV5 := Lib.hid hv5
        obtain ⟨a5, c5, rfl, -, -, -⟩ := hv5.open
        clear hb3 hv5
        go_wp2_with fail
        refine (served_any rs cs _ _ D _ (HV2.out.below HB3.out) (HV1.out.below HB3.out) (by omega) (by omega) HR.out.1 HG.out.1.ok hb0 hb1).mono ?_
        rintro e w5 ⟨x, b, rfl, out5, nv5, HS5, HX5, hb5⟩
        obtain ⟨rfl, rfl⟩ := Alw.eq HAL.out HS5.out (fun _ _ => rfl)
        have HB5 := Lib.hid (Below.to HB3.out hb5 HB3.out.size)
        have HV6 := Lib.hid (HV5.out.below hb5)
        have HHD : Hid (hasDay out nv dd = true) := HAL.out.truth hb0 HDP.out HZ.out
        have HSV : Hid (b = true → 0 ≤ dd ∧ dd ≤ x) := fun h => by subst h; exact HAL.out.truthServed hb0 HDP.out HZ.out HX5.out
        clear hb5 HS5 HX5 HAL HV5
        go_wp2_with fail
        refine (hasDay_any out _ nv dd _ HV6.out).mono ?_
        rintro e w6 ⟨rfl, hb6⟩
        rw [HHD.out]
        have HB6 := Lib.hid (Below.to HB1.out (Below.to HB5.out hb6 HB5.out.size) HB1.out.size)
        clear hb6 HHD
        cases b with
        | true =>
          obtain ⟨s1, s2⟩ := HSV.out rfl
          have s3 : ¬ dd < 0 := by omega
          have s4 : ¬ x < dd := by omega
          go_wp2_with fail
          refine (lives_any _).mono ?_
          rintro e w99 ⟨rfl, hb99⟩
          have HB99 := Lib.hid (Below.to HB6.out hb99 HB6.out.size)
          clear hb99
          go_wp2_with fail
          go_ret
          exact ⟨rfl, HB99.out⟩
        | false =>
          clear HSV
          go_wp2_with fail
          refine (lives_any _).mono ?_
          rintro e w99 ⟨rfl, hb99⟩
          have HB99 := Lib.hid (Below.to HB6.out hb99 HB6.out.size)
          clear hb99
          go_wp2_with fail
          go_ret
          exact ⟨rfl, HB99.out⟩

end Go.Proofs.Ytbiedadgejgnoaa
