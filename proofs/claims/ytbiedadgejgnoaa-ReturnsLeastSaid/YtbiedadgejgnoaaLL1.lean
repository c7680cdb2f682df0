/-
  The law ReturnsLeast: its walk.
-/
import Derived.Test.YtbiedadgejgnoaaRtU
import Derived.Test.YtbiedadgejgnoaaRtK
import Derived.Test.YtbiedadgejgnoaaRtZ
namespace Go.Proofs.Ytbiedadgejgnoaa
open Go.RowKit

theorem NearR.far {day : Int} {rs : List Ret} (h : NearR day rs) : FarR day rs := fun r hr => (h r hr).2

set_option maxHeartbeats 1500000 in
set_option maxRecDepth 100000 in
theorem returnsLeast_any (c l : List Int) (v u : Value) (n : Int) (w : World) (hx : IsInts w v c) (hc : ∀ x ∈ c, I64 x) (hy : IsInts w u l) (hl : ∀ x ∈ l, I64 x) (hn : I64 n) :
    Calls Try.prog 5 #[v, u, .int .i64 n] w fun e w' => e = .returned (.bool true) ∧ Below w.heap.size w w' := by
  have HM := Lib.hid (made_any c l v u n w hx hc hy hl hn)
  obtain ⟨hb0, hb1⟩ := baseF_in n
  obtain ⟨a1, c1, rfl, -, -, -⟩ := hx.open
  obtain ⟨a2, c2, rfl, -, -, -⟩ := hy.open
  generalize baseF n = D at *
  clear hx hy hc hl hn
  go_enter Try.func5, Try.ntmps5
  go_wp2_with fail
  refine HM.out.mono ?_
  rintro e w0 ⟨v1, v2, rfl, cs, rs, HG, HR, hv1, hv2, hb1'⟩
  have hrl := HR.out.2.1
  have hcl := HG.out.2.2
  have HCO := Lib.hid HG.out.1.ok
  obtain ⟨a3, c3, rfl, -, -⟩ := hv2.open
  obtain ⟨a4, c4, rfl, -, -, -⟩ := hv1.open
  go_wp2_with fail
  refine (allowed_any rs cs _ _ D _ hv2 hv1 (by omega) (by omega) HR.out.1 HCO.out hb0 hb1).mono ?_
  rintro e w1 ⟨v5, nv, rfl, out, HAL, hv5, hb3⟩
  have HB1 := Lib.hid (Below.to hb1' hb3 hb1'.size)
  have HV1 := Lib.hid (hv1.below hb3)
  have HV2 := Lib.hid (hv2.below hb3)
  have HV5 := Lib.hid hv5
  obtain ⟨a5, c5, rfl, -, -, -⟩ := hv5.open
  clear hv1 hv2 hb1' HM hv5 hb3
  go_wp2_with fail
  go_loopw [12, 13, 14] (fun le ex kk wr => ∃ (i : Nat) (t K : Int) (vx : Value) (xs : List Int), le = .int .i64 t ∧ vx = ex ∧ kk = .int .i64 K ∧ Hid (K = (i : Int) - 1) ∧ -1 ≤ K ∧ K ≤ 60 ∧ i ≤ 61 ∧ Hid (xs.length = i) ∧ 0 ≤ t ∧ t ≤ 1000 ∧ (0 < i ∨ t = 1000) ∧ D + (i : Int) - 2 ≤ 3652058 ∧
      Hid (∀ j (hj : j < xs.length), xs[j] = excF rs cs (dayAt D j)) ∧ Hid (∀ j, j < i → t ≤ excF rs cs (dayAt D j)) ∧ Hid (0 < i → ∃ j, j < i ∧ t = excF rs cs (dayAt D j)) ∧ Hid (wr.ownsRow w1.heap.size 3 1 vx i (ints xs)) ∧ Hid (Below w1.heap.size w1 wr)) (fun _ _ kk _ => 100 - (intOf kk + 1).toNat)
  case atStart => exact ⟨0, 1000, -1, _, [], rfl, rfl, rfl, Lib.hid rfl, by omega, by omega, by omega, Lib.hid rfl, by omega, by omega, .inr rfl, by omega, Lib.hid (fun j hj => absurd hj (Nat.not_lt_zero _)), Lib.hid (fun j hj => absurd hj (Nat.not_lt_zero _)), Lib.hid (fun h => absurd h (Nat.lt_irrefl _)), Lib.hid (World.ownsRow_nil _ _ _ _), Lib.hid (Below.refl _ _)⟩
  case round =>
    obtain ⟨i, t, K, vx, xs, rfl, rfl, rfl, HKK, hK1, hK2, hi61, HXL, ht0, ht1, ht2', hDi, HXS, HLE, HHIT, HOW, HBR⟩ := hrel
    have eK : IntKind.i64.wrap (K + 1) = K + 1 := by rw [IntKind.wrap_i64]; omega
    have eD : IntKind.i64.wrap (D + K) = D + K := by rw [IntKind.wrap_i64]; omega
    have hex1 := HBR.out.size
    by_cases hgo : K < 60 ∧ D + K ≤ 3652058
    · obtain ⟨hg1, hg2⟩ := hgo
      have HBE : Hid (∀ d, 0 ≤ excF rs cs d ∧ excF rs cs d ≤ 1000000) := fun d => excF_B (by omega) (by omega) HCO.out
      by_cases hneg : K < 0
      · have hdt : dayAt D i = (-1) := by have := HKK.out; rw [show i = 0 from by omega]; rfl
        obtain ⟨wo, rfl⟩ : ∃ wo : World, wo = wr := ⟨_, rfl⟩
        go_wp2_with fail
        go_loopw [16, 17] (fun a i wr => ∃ (c : Nat) (s : Int), a = .int .i64 s ∧ i = .int .i64 c ∧ c ≤ cs.length ∧ 0 ≤ s ∧ s ≤ 10 * (c : Int) ∧ Hid (s = excTo rs cs (-1) c) ∧ Hid (Below wo.heap.size wo wr)) (fun _ i _ => cs.length - (intOf i).toNat)
        case atStart => exact ⟨0, 0, rfl, rfl, Nat.zero_le _, Int.le_refl _, by omega, Lib.hid rfl, Lib.hid (Below.refl _ _)⟩
        case round =>
          obtain ⟨c, s, rfl, rfl, hc, hs0, hs1, HT, HBW⟩ := hrel
          have ec : IntKind.i64.wrap ((c : Int) + 1) = ((c + 1 : Nat) : Int) := by rw [IntKind.wrap_i64]; omega
          by_cases hcc : c < cs.length
          · obtain ⟨wp, rfl⟩ : ∃ wp : World, wp = wr := ⟨_, rfl⟩
            have hbw := Below.to HBR.out HBW.out HBR.out.size
            obtain ⟨b6, o6, q6, e6, -, -, x1⟩ := (HV1.out.below hbw).at hcc
            simp only [Value.slice.injEq, true_and] at e6
            obtain ⟨rfl, -⟩ := e6
            have HTD : Hid (exTerm rs cs (-1) c = max 0 ((nW rs (c : Int) (-1) : Int) - cs[c].2)) := by
              show _ = _
              unfold exTerm
              rw [List.getD_eq_getElem?_getD, List.getElem?_eq_getElem hcc]
              rfl
            have htol := HCO.out cs[c] (List.getElem_mem hcc)
            generalize cs[c] = cc at *
            obtain ⟨c1', tol⟩ := cc
            simp only at x1 htol HTD
            obtain ⟨ht2, ht3⟩ := htol
            have hneg1 : IntKind.i64.wrap (-tol) = -tol := by rw [IntKind.wrap_i64]; omega
            clear hbw
            go_wp2_with fail
            go_loopw [18, 19] (fun a i wr => ∃ (k m : Nat) (g : Int), a = .int .i64 g ∧ i = .int .i64 k ∧ Hid (g = (m : Int) - tol) ∧ -1000 ≤ g ∧ g ≤ 1000 ∧ k ≤ rs.length ∧ m ≤ k ∧ Hid (m = nW (rs.take k) (c : Int) (-1)) ∧ Hid (Below wo.heap.size wo wr)) (fun _ i _ => rs.length - (intOf i).toNat)
            case atStart => exact ⟨0, 0, _, rfl, rfl, by show _ = _; omega, by omega, by omega, Nat.zero_le _, Nat.le_refl _, Lib.hid rfl, HBW⟩
            case round =>
              obtain ⟨k, m, g, rfl, rfl, HGM, hg0, hg9, hk, hm, HM, HBQ⟩ := hrel
              have ek : IntKind.i64.wrap ((k : Int) + 1) = ((k + 1 : Nat) : Int) := by rw [IntKind.wrap_i64]; omega
              have em : IntKind.i64.wrap (g + 1) = g + 1 := by rw [IntKind.wrap_i64]; omega
              by_cases hkl : k < rs.length
              · obtain ⟨b5, o5, q5, e5, hlt5, d0, d1, d2, d3⟩ := (HV2.out.below (Below.to HBR.out HBQ.out HBR.out.size)).at hkl
                simp only [Value.slice.injEq, true_and] at e5
                obtain ⟨rfl, -⟩ := e5
                have HST := Lib.hid (nW_take hkl (c : Int) (-1))
                by_cases he : rs[k].car = (c : Int)
                · by_cases hw : wrongB rs[k] (-1) = true
                  · have HM2 : Hid (m + 1 = nW (rs.take (k + 1)) (c : Int) (-1)) := by show _ = _; rw [HST.out, if_pos ⟨he, hw⟩, ← HM.out]
                    have HWC := Lib.hid (wrong_is rs[k] (-1) true hw)
                    clear HST HM hw
                    generalize rs[k] = sr at *
                    obtain ⟨sc, sk, sf, su⟩ := sr
                    simp only at d0 d1 d2 d3 he
                    subst he
                    go_wp2_with fail
                    refine (HWC.out _).mono ?_
                    rintro e w2 ⟨rfl, hb2⟩
                    have HB2 := Lib.hid (Below.to HBQ.out hb2 HBQ.out.size)
                    clear hb2
                    go_wp2_with fail
                    go_roundw
                    case rel => exact ⟨k + 1, m + 1, _, rfl, by go_num, by show _ = _; have := HGM.out; omega, by omega, by have := HGM.out; omega, by omega, by omega, HM2, HB2⟩
                    case measure => simp [intOf]; omega
                  · have HM2 : Hid (m = nW (rs.take (k + 1)) (c : Int) (-1)) := by show _ = _; rw [HST.out, if_neg (fun h => hw h.2), ← HM.out]; rfl
                    have HWC := Lib.hid (wrong_is rs[k] (-1) false (by simpa using hw))
                    clear HST HM hw
                    generalize rs[k] = sr at *
                    obtain ⟨sc, sk, sf, su⟩ := sr
                    simp only at d0 d1 d2 d3 he
                    subst he
                    go_wp2_with fail
                    refine (HWC.out _).mono ?_
                    rintro e w2 ⟨rfl, hb2⟩
                    have HB2 := Lib.hid (Below.to HBQ.out hb2 HBQ.out.size)
                    clear hb2
                    go_wp2_with fail
                    go_roundw
                    case rel => exact ⟨k + 1, m, _, rfl, by go_num, HGM, hg0, hg9, by omega, by omega, HM2, HB2⟩
                    case measure => simp [intOf]; omega
                · have HM2 : Hid (m = nW (rs.take (k + 1)) (c : Int) (-1)) := by show _ = _; rw [HST.out, if_neg (fun h => he h.1), ← HM.out]; rfl
                  have hb : (rs[k].car == (c : Int)) = false := by simpa using he
                  clear HST HM he
                  generalize rs[k] = sr at *
                  obtain ⟨sc, sk, sf, su⟩ := sr
                  simp only at d0 d1 d2 d3 hb
                  go_wp2_with fail
                  go_roundw
                  case rel => exact ⟨k + 1, m, _, rfl, by go_num, HGM, hg0, hg9, by omega, by omega, HM2, HBQ⟩
                  case measure => simp [intOf]; omega
              · obtain rfl : k = rs.length := by omega
                have HT2 : Hid (s + max 0 g = excTo rs cs (-1) (c + 1)) := by
                  show _ = excTo rs cs (-1) c + exTerm rs cs (-1) c
                  have h := HM.out
                  rw [List.take_length] at h
                  rw [HTD.out, ← HT.out, ← h, HGM.out]
                have e2 : IntKind.i64.wrap (s + max 0 g) = s + max 0 g := by rw [IntKind.wrap_i64]; omega
                have hgm9 : g ≤ 8 := by have := HGM.out; omega
                clear HM HT HBW HTD HGM
                go_wp2_with fail
                go_roundw
                case rel => exact ⟨c + 1, s + max 0 g, by first | rfl | rw [show s + max 0 g = s + (if 0 < g then g else 0) from by split <;> omega], by go_num, by omega, by omega, by omega, HT2, HBQ⟩
                case measure => simp [intOf]; omega
          · obtain rfl : c = cs.length := by omega
            have HF : Hid (s = excF rs cs (dayAt D i)) := by show _ = _; rw [hdt]; exact HT.out
            have hsB : 0 ≤ s ∧ s ≤ 1000000 := by rw [HF.out]; exact HBE.out _
            obtain ⟨hsB0, hsB1⟩ := hsB
            have HBN := Lib.hid (Below.to HBR.out HBW.out HBR.out.size)
            have HLX : Hid (∀ W : World, Rd (W.alloc (.cells #[.int .i64 s] 3)) (.slice (some ⟨W.heap.size, 0, none⟩) 1 1) 1 1 [.int .i64 s]) := fun W => Rd.lit W #[.int .i64 s] 3 1 1 rfl (by unfold maxLen; omega)
            obtain ⟨a8, c8, rfl, -, -⟩ := owns_slice HOW.out
            have HO := Lib.hid (owns_below HOW.out HBW.out)
            have hs2 := HBN.out.size
            obtain ⟨M, hM⟩ : ∃ M, min t s = M := ⟨_, rfl⟩
            have hM0 : 0 ≤ M ∧ M ≤ 1000 ∧ M ≤ t ∧ M ≤ s ∧ (M = t ∨ M = s) := by omega
            obtain ⟨hM0, hM1, hM2, hM3, hM4⟩ := hM0
            have hxl := HXL.out
            have hK := HKK.out
            have HXS2 : Hid (∀ j (hj : j < (xs ++ [s]).length), (xs ++ [s])[j] = excF rs cs (dayAt D j)) := fun j hj => by
              rw [List.getElem_append]
              split
              · rename_i h
                exact HXS.out j h
              · rename_i h
                simp at hj
                have : j = i := by omega
                subst this
                simp [HF.out]
            have HLE2 : Hid (∀ j, j < i + 1 → M ≤ excF rs cs (dayAt D j)) := fun j hj => by
              rcases Nat.lt_succ_iff_lt_or_eq.1 hj with h | rfl
              · exact Int.le_trans hM2 (HLE.out j h)
              · rw [← HF.out]; exact hM3
            have HHIT2 : Hid (0 < i + 1 → ∃ j, j < i + 1 ∧ M = excF rs cs (dayAt D j)) := fun _ => by
              rcases hM4 with h | h
              · by_cases h0 : 0 < i
                · obtain ⟨j, hj, hh⟩ := HHIT.out h0
                  exact ⟨j, by omega, by rw [h, hh]⟩
                · exfalso; omega
              · exact ⟨i, by omega, by rw [h, HF.out]⟩
            have HXL2 : Hid ((xs ++ [s]).length = i + 1) := by show _ = _; rw [List.length_append, List.length_singleton, hxl]
            clear HT HBW HBR HOW HXS HLE HHIT HF HBE hxl hK hdt
            go_wp2_with (at_builtin; go_must (refine wpList_append_rd rfl _ _ 22 rfl w1.heap.size 3 _ 1 8 Try.underlying22 infoInt rfl (by decide) (.slice a8 i c8) i (ints xs) rfl (owns_below HO.out ?b0) _ 1 [.int .i64 s] rfl (HLX.out _) (ints_one [s]) ?b1 ?b2 ?b3 ?_))
            case b0 => exact (Below.refl _ _).alloc (Nat.le_refl _) _
            case b1 => unfold maxLen; omega
            case b2 => omega
            case b3 => simp; omega
            intro v7 w7 hv7 hg7
            have HB7 := Lib.hid (below_append (Below.to HBN.out ((Below.refl _ _).alloc (Nat.le_refl _) _) hs2) (owns_below HO.out ((Below.refl _ _).alloc (Nat.le_refl _) _)) hg7 (by simp; omega))
            have HO7 : Hid (w7.ownsRow w1.heap.size 3 1 v7 (i + 1) (ints (xs ++ [s]))) := by
              show World.ownsRow _ _ _ _ _ _ _
              rw [ints_append]
              exact hv7
            clear hv7 hg7 HO
            go_wp2_with fail
            go_roundw
            case rel => exact ⟨i + 1, M, K + 1, _, xs ++ [s], rfl, rfl, by go_num, by show _ = _; have := HKK.out; omega, by omega, by omega, by have := HKK.out; omega, HXL2, hM0, hM1, .inl (by omega), by have := HKK.out; omega, HXS2, HLE2, HHIT2, HO7, HB7⟩
            case measure => have := HKK.out; simp [intOf]; omega
      · have hdt : dayAt D i = (D + K) := by have := HKK.out; unfold dayAt; rw [if_neg (by omega)]; omega
        obtain ⟨wo, rfl⟩ : ∃ wo : World, wo = wr := ⟨_, rfl⟩
        go_wp2_with fail
        go_loopw [16, 17] (fun a i wr => ∃ (c : Nat) (s : Int), a = .int .i64 s ∧ i = .int .i64 c ∧ c ≤ cs.length ∧ 0 ≤ s ∧ s ≤ 10 * (c : Int) ∧ Hid (s = excTo rs cs (D + K) c) ∧ Hid (Below wo.heap.size wo wr)) (fun _ i _ => cs.length - (intOf i).toNat)
        case atStart => exact ⟨0, 0, rfl, rfl, Nat.zero_le _, Int.le_refl _, by omega, Lib.hid rfl, Lib.hid (Below.refl _ _)⟩
        case round =>
          obtain ⟨c, s, rfl, rfl, hc, hs0, hs1, HT, HBW⟩ := hrel
          have ec : IntKind.i64.wrap ((c : Int) + 1) = ((c + 1 : Nat) : Int) := by rw [IntKind.wrap_i64]; omega
          by_cases hcc : c < cs.length
          · obtain ⟨wp, rfl⟩ : ∃ wp : World, wp = wr := ⟨_, rfl⟩
            have hbw := Below.to HBR.out HBW.out HBR.out.size
            obtain ⟨b6, o6, q6, e6, -, -, x1⟩ := (HV1.out.below hbw).at hcc
            simp only [Value.slice.injEq, true_and] at e6
            obtain ⟨rfl, -⟩ := e6
            have HTD : Hid (exTerm rs cs (D + K) c = max 0 ((nW rs (c : Int) (D + K) : Int) - cs[c].2)) := by
              show _ = _
              unfold exTerm
              rw [List.getD_eq_getElem?_getD, List.getElem?_eq_getElem hcc]
              rfl
            have htol := HCO.out cs[c] (List.getElem_mem hcc)
            generalize cs[c] = cc at *
            obtain ⟨c1', tol⟩ := cc
            simp only at x1 htol HTD
            obtain ⟨ht2, ht3⟩ := htol
            have hneg1 : IntKind.i64.wrap (-tol) = -tol := by rw [IntKind.wrap_i64]; omega
            clear hbw
            go_wp2_with fail
            go_loopw [18, 19] (fun a i wr => ∃ (k m : Nat) (g : Int), a = .int .i64 g ∧ i = .int .i64 k ∧ Hid (g = (m : Int) - tol) ∧ -1000 ≤ g ∧ g ≤ 1000 ∧ k ≤ rs.length ∧ m ≤ k ∧ Hid (m = nW (rs.take k) (c : Int) (D + K)) ∧ Hid (Below wo.heap.size wo wr)) (fun _ i _ => rs.length - (intOf i).toNat)
            case atStart => exact ⟨0, 0, _, rfl, rfl, by show _ = _; omega, by omega, by omega, Nat.zero_le _, Nat.le_refl _, Lib.hid rfl, HBW⟩
            case round =>
              obtain ⟨k, m, g, rfl, rfl, HGM, hg0, hg9, hk, hm, HM, HBQ⟩ := hrel
              have ek : IntKind.i64.wrap ((k : Int) + 1) = ((k + 1 : Nat) : Int) := by rw [IntKind.wrap_i64]; omega
              have em : IntKind.i64.wrap (g + 1) = g + 1 := by rw [IntKind.wrap_i64]; omega
              by_cases hkl : k < rs.length
              · obtain ⟨b5, o5, q5, e5, hlt5, d0, d1, d2, d3⟩ := (HV2.out.below (Below.to HBR.out HBQ.out HBR.out.size)).at hkl
                simp only [Value.slice.injEq, true_and] at e5
                obtain ⟨rfl, -⟩ := e5
                have HST := Lib.hid (nW_take hkl (c : Int) (D + K))
                by_cases he : rs[k].car = (c : Int)
                · by_cases hw : wrongB rs[k] (D + K) = true
                  · have HM2 : Hid (m + 1 = nW (rs.take (k + 1)) (c : Int) (D + K)) := by show _ = _; rw [HST.out, if_pos ⟨he, hw⟩, ← HM.out]
                    have HWC := Lib.hid (wrong_is rs[k] (D + K) true hw)
                    clear HST HM hw
                    generalize rs[k] = sr at *
                    obtain ⟨sc, sk, sf, su⟩ := sr
                    simp only at d0 d1 d2 d3 he
                    subst he
                    go_wp2_with fail
                    refine (HWC.out _).mono ?_
                    rintro e w2 ⟨rfl, hb2⟩
                    have HB2 := Lib.hid (Below.to HBQ.out hb2 HBQ.out.size)
                    clear hb2
                    go_wp2_with fail
                    go_roundw
                    case rel => exact ⟨k + 1, m + 1, _, rfl, by go_num, by show _ = _; have := HGM.out; omega, by omega, by have := HGM.out; omega, by omega, by omega, HM2, HB2⟩
                    case measure => simp [intOf]; omega
                  · have HM2 : Hid (m = nW (rs.take (k + 1)) (c : Int) (D + K)) := by show _ = _; rw [HST.out, if_neg (fun h => hw h.2), ← HM.out]; rfl
                    have HWC := Lib.hid (wrong_is rs[k] (D + K) false (by simpa using hw))
                    clear HST HM hw
                    generalize rs[k] = sr at *
                    obtain ⟨sc, sk, sf, su⟩ := sr
                    simp only at d0 d1 d2 d3 he
                    subst he
                    go_wp2_with fail
                    refine (HWC.out _).mono ?_
                    rintro e w2 ⟨rfl, hb2⟩
                    have HB2 := Lib.hid (Below.to HBQ.out hb2 HBQ.out.size)
                    clear hb2
                    go_wp2_with fail
                    go_roundw
                    case rel => exact ⟨k + 1, m, _, rfl, by go_num, HGM, hg0, hg9, by omega, by omega, HM2, HB2⟩
                    case measure => simp [intOf]; omega
                · have HM2 : Hid (m = nW (rs.take (k + 1)) (c : Int) (D + K)) := by show _ = _; rw [HST.out, if_neg (fun h => he h.1), ← HM.out]; rfl
                  have hb : (rs[k].car == (c : Int)) = false := by simpa using he
                  clear HST HM he
                  generalize rs[k] = sr at *
                  obtain ⟨sc, sk, sf, su⟩ := sr
                  simp only at d0 d1 d2 d3 hb
                  go_wp2_with fail
                  go_roundw
                  case rel => exact ⟨k + 1, m, _, rfl, by go_num, HGM, hg0, hg9, by omega, by omega, HM2, HBQ⟩
                  case measure => simp [intOf]; omega
              · obtain rfl : k = rs.length := by omega
                have HT2 : Hid (s + max 0 g = excTo rs cs (D + K) (c + 1)) := by
                  show _ = excTo rs cs (D + K) c + exTerm rs cs (D + K) c
                  have h := HM.out
                  rw [List.take_length] at h
                  rw [HTD.out, ← HT.out, ← h, HGM.out]
                have e2 : IntKind.i64.wrap (s + max 0 g) = s + max 0 g := by rw [IntKind.wrap_i64]; omega
                have hgm9 : g ≤ 8 := by have := HGM.out; omega
                clear HM HT HBW HTD HGM
                go_wp2_with fail
                go_roundw
                case rel => exact ⟨c + 1, s + max 0 g, by first | rfl | rw [show s + max 0 g = s + (if 0 < g then g else 0) from by split <;> omega], by go_num, by omega, by omega, by omega, HT2, HBQ⟩
                case measure => simp [intOf]; omega
          · obtain rfl : c = cs.length := by omega
            have HF : Hid (s = excF rs cs (dayAt D i)) := by show _ = _; rw [hdt]; exact HT.out
            have hsB : 0 ≤ s ∧ s ≤ 1000000 := by rw [HF.out]; exact HBE.out _
            obtain ⟨hsB0, hsB1⟩ := hsB
            have HBN := Lib.hid (Below.to HBR.out HBW.out HBR.out.size)
            have HLX : Hid (∀ W : World, Rd (W.alloc (.cells #[.int .i64 s] 3)) (.slice (some ⟨W.heap.size, 0, none⟩) 1 1) 1 1 [.int .i64 s]) := fun W => Rd.lit W #[.int .i64 s] 3 1 1 rfl (by unfold maxLen; omega)
            obtain ⟨a8, c8, rfl, -, -⟩ := owns_slice HOW.out
            have HO := Lib.hid (owns_below HOW.out HBW.out)
            have hs2 := HBN.out.size
            obtain ⟨M, hM⟩ : ∃ M, min t s = M := ⟨_, rfl⟩
            have hM0 : 0 ≤ M ∧ M ≤ 1000 ∧ M ≤ t ∧ M ≤ s ∧ (M = t ∨ M = s) := by omega
            obtain ⟨hM0, hM1, hM2, hM3, hM4⟩ := hM0
            have hxl := HXL.out
            have hK := HKK.out
            have HXS2 : Hid (∀ j (hj : j < (xs ++ [s]).length), (xs ++ [s])[j] = excF rs cs (dayAt D j)) := fun j hj => by
              rw [List.getElem_append]
              split
              · rename_i h
                exact HXS.out j h
              · rename_i h
                simp at hj
                have : j = i := by omega
                subst this
                simp [HF.out]
            have HLE2 : Hid (∀ j, j < i + 1 → M ≤ excF rs cs (dayAt D j)) := fun j hj => by
              rcases Nat.lt_succ_iff_lt_or_eq.1 hj with h | rfl
              · exact Int.le_trans hM2 (HLE.out j h)
              · rw [← HF.out]; exact hM3
            have HHIT2 : Hid (0 < i + 1 → ∃ j, j < i + 1 ∧ M = excF rs cs (dayAt D j)) := fun _ => by
              rcases hM4 with h | h
              · by_cases h0 : 0 < i
                · obtain ⟨j, hj, hh⟩ := HHIT.out h0
                  exact ⟨j, by omega, by rw [h, hh]⟩
                · exfalso; omega
              · exact ⟨i, by omega, by rw [h, HF.out]⟩
            have HXL2 : Hid ((xs ++ [s]).length = i + 1) := by show _ = _; rw [List.length_append, List.length_singleton, hxl]
            clear HT HBW HBR HOW HXS HLE HHIT HF HBE hxl hK hdt
            go_wp2_with (at_builtin; go_must (refine wpList_append_rd rfl _ _ 22 rfl w1.heap.size 3 _ 1 8 Try.underlying22 infoInt rfl (by decide) (.slice a8 i c8) i (ints xs) rfl (owns_below HO.out ?b0) _ 1 [.int .i64 s] rfl (HLX.out _) (ints_one [s]) ?b1 ?b2 ?b3 ?_))
            case b0 => exact (Below.refl _ _).alloc (Nat.le_refl _) _
            case b1 => unfold maxLen; omega
            case b2 => omega
            case b3 => simp; omega
            intro v7 w7 hv7 hg7
            have HB7 := Lib.hid (below_append (Below.to HBN.out ((Below.refl _ _).alloc (Nat.le_refl _) _) hs2) (owns_below HO.out ((Below.refl _ _).alloc (Nat.le_refl _) _)) hg7 (by simp; omega))
            have HO7 : Hid (w7.ownsRow w1.heap.size 3 1 v7 (i + 1) (ints (xs ++ [s]))) := by
              show World.ownsRow _ _ _ _ _ _ _
              rw [ints_append]
              exact hv7
            clear hv7 hg7 HO
            go_wp2_with fail
            go_roundw
            case rel => exact ⟨i + 1, M, K + 1, _, xs ++ [s], rfl, rfl, by go_num, by show _ = _; have := HKK.out; omega, by omega, by omega, by have := HKK.out; omega, HXL2, hM0, hM1, .inl (by omega), by have := HKK.out; omega, HXS2, HLE2, HHIT2, HO7, HB7⟩
            case measure => have := HKK.out; simp [intOf]; omega
    · have hK := HKK.out
      have hxl := HXL.out
      have hi0 : 0 < i := by omega
      have HFIN : Hid (∀ j, j < i → hasDay out nv (dayAt D j) = decide (excF rs cs (dayAt D j) = t)) := fun j hj => HAL.out.least HR.out.2.2.far hb0 hi0 (by omega) (by omega) HLE.out (HHIT.out hi0) j hj
      have HI := Lib.hid (IsInts.of_owns HOW.out)
      obtain ⟨a8, c8, rfl, -, -⟩ := owns_slice HOW.out
      have HB2 := Lib.hid (Below.to HB1.out HBR.out HB1.out.size)
      have HV6 := Lib.hid (HV5.out.below HBR.out)
      have hgo' : ¬ K < 60 ∨ (K < 60 ∧ ¬ D + K ≤ 3652058) := by omega
      obtain ⟨wo, rfl⟩ : ∃ wo : World, wo = wr := ⟨_, rfl⟩
      clear HLE HHIT HOW hgo HAL HBR hK hxl
      rcases hgo' with hg | ⟨hg, hg'⟩
      all_goals
        go_wp2_with fail
        go_loopw [20] (fun q wr => ∃ j : Nat, q = .int .i64 j ∧ j ≤ i ∧ Hid (Below wo.heap.size wo wr)) (fun q _ => i - (intOf q).toNat)
        case atStart => exact ⟨0, rfl, Nat.zero_le _, Lib.hid (Below.refl _ _)⟩
        case round =>
          obtain ⟨j, rfl, hj, HBQ⟩ := hrel
          have ej : IntKind.i64.wrap ((j : Int) + 1) = ((j + 1 : Nat) : Int) := by rw [IntKind.wrap_i64]; omega
          have e1 : IntKind.i64.wrap (D + (j : Int)) = D + (j : Int) := by rw [IntKind.wrap_i64]; omega
          have e2 : IntKind.i64.wrap (D + (j : Int) - 1) = D + (j : Int) - 1 := by rw [IntKind.wrap_i64]; omega
          by_cases hji : j < i
          · obtain ⟨_, _, e9, -, -, hcd⟩ := (HI.out.below HBQ.out).open
            simp only [Value.slice.injEq] at e9
            obtain ⟨rfl, -, -⟩ := e9
            obtain ⟨b9, o9, rfl, c9⟩ := hcd j (by have := HXL.out; omega)
            have hjx : j < xs.length := by have := HXL.out; omega
            have HX9 := Lib.hid (HXS.out j hjx)
            have hlt9 := World.block_lt_of_cell? _ _ c9
            have HK9 : Hid (∀ Y, Below wr.drew.heap.size wr.drew Y → Y.cell? ⟨b9, o9 + j, none⟩ = some (.int .i64 xs[j])) := fun Y hY => (hY.cell (p := ⟨b9, o9 + j, none⟩) hlt9).trans c9
            clear hcd
            have HF9 := Lib.hid (HFIN.out j hji)
            have hjL : (j : Int) < (i : Int) := by omega
            generalize xs[j] = x9 at *
            by_cases hj0 : j = 0
            · have hda : dayAt D j = (-1) := by rw [hj0]; rfl
              have hz : ((j : Int) == 0) = true := by simp; omega
              have HQ9 := Lib.hid HBQ.out.drew
              clear hj0
              rw [hda] at HF9 HX9
              have HV7 := Lib.hid (HV6.out.below HQ9.out)
              by_cases hxt : x9 = t
              · have hb9 : (x9 == t) = true := by simpa using hxt
                have HD9 : Hid (Calls Try.prog 23 #[.slice a5 out.length c5, .bool nv, .int .i64 (-1)] wr.drew fun e w' => e = .returned (.bool true) ∧ Below wr.drew.heap.size wr.drew w') := by
                  have h := hasDay_any out (.slice a5 out.length c5) nv (-1) wr.drew HV7.out
                  rw [HF9.out, ← HX9.out, show decide (x9 = t) = true from by simpa using hxt] at h
                  exact h
                clear hxt HF9 HX9 hda
                have C9 : Hid (wr.drew.cell? ⟨b9, o9 + j, none⟩ = some (.int .i64 x9)) := c9
                go_wp2_with fail
                go_region_held3 (fun w' => w'.cell? ⟨b9, o9 + j, none⟩ = some (.int .i64 x9))
                  (first
                    | exact K9.out
                    | exact C9.out
                    | go_keep)
                  (first
                    | (go_at_call 23
                       refine HD9.out.mono ?_
                       rintro e w3 ⟨rfl, hb3⟩
                       have K9 := Lib.hid (HK9.out _ hb3)
                       have HB3 := Lib.hid (Below.to HQ9.out hb3 HQ9.out.size)
                       clear hb3))
                all_goals
                  clear K9
                  go_wp2_with fail
                  go_roundw
                  case rel => exact ⟨j + 1, by go_num, by omega, HB3⟩
                  case measure => simp [intOf]; omega
              · have hb9 : (x9 == t) = false := by simpa using hxt
                have HD9 : Hid (Calls Try.prog 23 #[.slice a5 out.length c5, .bool nv, .int .i64 (-1)] wr.drew fun e w' => e = .returned (.bool false) ∧ Below wr.drew.heap.size wr.drew w') := by
                  have h := hasDay_any out (.slice a5 out.length c5) nv (-1) wr.drew HV7.out
                  rw [HF9.out, ← HX9.out, show decide (x9 = t) = false from by simpa using hxt] at h
                  exact h
                clear hxt HF9 HX9 hda
                have C9 : Hid (wr.drew.cell? ⟨b9, o9 + j, none⟩ = some (.int .i64 x9)) := c9
                go_wp2_with fail
                go_region_held3 (fun w' => w'.cell? ⟨b9, o9 + j, none⟩ = some (.int .i64 x9))
                  (first
                    | exact K9.out
                    | exact C9.out
                    | go_keep)
                  (first
                    | (go_at_call 23
                       refine HD9.out.mono ?_
                       rintro e w3 ⟨rfl, hb3⟩
                       have K9 := Lib.hid (HK9.out _ hb3)
                       have HB3 := Lib.hid (Below.to HQ9.out hb3 HQ9.out.size)
                       clear hb3))
                all_goals
                  clear K9
                  go_wp2_with fail
                  go_roundw
                  case rel => exact ⟨j + 1, by go_num, by omega, HB3⟩
                  case measure => simp [intOf]; omega
            · have hda : dayAt D j = (D + (j : Int) - 1) := by unfold dayAt; rw [if_neg hj0]
              have hz : ((j : Int) == 0) = false := by simp; omega
              have HQ9 := Lib.hid HBQ.out.drew
              clear hj0
              rw [hda] at HF9 HX9
              have HV7 := Lib.hid (HV6.out.below HQ9.out)
              by_cases hxt : x9 = t
              · have hb9 : (x9 == t) = true := by simpa using hxt
                have HD9 : Hid (Calls Try.prog 23 #[.slice a5 out.length c5, .bool nv, .int .i64 (D + (j : Int) - 1)] wr.drew fun e w' => e = .returned (.bool true) ∧ Below wr.drew.heap.size wr.drew w') := by
                  have h := hasDay_any out (.slice a5 out.length c5) nv (D + (j : Int) - 1) wr.drew HV7.out
                  rw [HF9.out, ← HX9.out, show decide (x9 = t) = true from by simpa using hxt] at h
                  exact h
                clear hxt HF9 HX9 hda
                have C9 : Hid (wr.drew.cell? ⟨b9, o9 + j, none⟩ = some (.int .i64 x9)) := c9
                go_wp2_with fail
                go_region_held3 (fun w' => w'.cell? ⟨b9, o9 + j, none⟩ = some (.int .i64 x9))
                  (first
                    | exact K9.out
                    | exact C9.out
                    | go_keep)
                  (first
                    | (go_at_call 23
                       refine HD9.out.mono ?_
                       rintro e w3 ⟨rfl, hb3⟩
                       have K9 := Lib.hid (HK9.out _ hb3)
                       have HB3 := Lib.hid (Below.to HQ9.out hb3 HQ9.out.size)
                       clear hb3))
                all_goals
                  clear K9
                  go_wp2_with fail
                  go_roundw
                  case rel => exact ⟨j + 1, by go_num, by omega, HB3⟩
                  case measure => simp [intOf]; omega
              · have hb9 : (x9 == t) = false := by simpa using hxt
                have HD9 : Hid (Calls Try.prog 23 #[.slice a5 out.length c5, .bool nv, .int .i64 (D + (j : Int) - 1)] wr.drew fun e w' => e = .returned (.bool false) ∧ Below wr.drew.heap.size wr.drew w') := by
                  have h := hasDay_any out (.slice a5 out.length c5) nv (D + (j : Int) - 1) wr.drew HV7.out
                  rw [HF9.out, ← HX9.out, show decide (x9 = t) = false from by simpa using hxt] at h
                  exact h
                clear hxt HF9 HX9 hda
                have C9 : Hid (wr.drew.cell? ⟨b9, o9 + j, none⟩ = some (.int .i64 x9)) := c9
                go_wp2_with fail
                go_region_held3 (fun w' => w'.cell? ⟨b9, o9 + j, none⟩ = some (.int .i64 x9))
                  (first
                    | exact K9.out
                    | exact C9.out
                    | go_keep)
                  (first
                    | (go_at_call 23
                       refine HD9.out.mono ?_
                       rintro e w3 ⟨rfl, hb3⟩
                       have K9 := Lib.hid (HK9.out _ hb3)
                       have HB3 := Lib.hid (Below.to HQ9.out hb3 HQ9.out.size)
                       clear hb3))
                all_goals
                  clear K9
                  go_wp2_with fail
                  go_roundw
                  case rel => exact ⟨j + 1, by go_num, by omega, HB3⟩
                  case measure => simp [intOf]; omega
          · have hji' : ¬ (j : Int) < (i : Int) := by omega
            have HB9 := Lib.hid (Below.to HB2.out HBQ.out HB2.out.size)
            go_wp2_with fail
            refine (lives_any _).mono ?_
            rintro e w99 ⟨rfl, hb99⟩
            have HB99 := Lib.hid (Below.to HB9.out hb99 HB9.out.size)
            clear hb99
            go_wp2_with fail
            go_ret
            exact ⟨rfl, HB99.out⟩

end Go.Proofs.Ytbiedadgejgnoaa
