/-
  The law ReturnsOrder: its walk.
-/
import Derived.Test.YtbiedadgejgnoaaRtU
import Derived.Test.YtbiedadgejgnoaaRtK
import Derived.Test.YtbiedadgejgnoaaRtZ
namespace Go.Proofs.Ytbiedadgejgnoaa
open Go.RowKit

theorem IsRts.drop {w : World} {b off n cap : Nat} {l : List Ret} (h : IsRts w (.slice (some ⟨b, off, none⟩) n cap) l) (k : Nat) (hk : k ≤ l.length) : IsRts w (.slice (some ⟨b, off + k * 4, none⟩) (n - k) (cap - k)) (l.drop k) := by
  obtain ⟨h1, h2, a', cap', hv, hn, hc⟩ := h
  simp only [Value.slice.injEq] at hv
  obtain ⟨rfl, rfl, rfl⟩ := hv
  have hl : (l.drop k).length = l.length - k := List.length_drop
  refine ⟨by rw [rtCells_len], by omega, some ⟨b, off + k * 4, none⟩, cap - k, by rw [hl], by omega, fun j u hu => ⟨b, off + k * 4, rfl, ?_⟩⟩
  have hj : j < (l.length - k) * 4 := by
    have := (List.getElem?_eq_some_iff.1 hu).1
    rw [rtCells_len, hl] at this
    exact this
  obtain ⟨i, c, rfl, hi, hcc⟩ : ∃ i c, j = i * 4 + c ∧ i < l.length - k ∧ c < 4 := ⟨j / 4, j % 4, by omega, by omega, by omega⟩
  rw [rtCells_get _ i c (by omega) hcc] at hu
  obtain ⟨b', off', e', hcell⟩ := hc ((k + i) * 4 + c) u (by
    rw [rtCells_get _ (k + i) c (by omega) hcc]
    simpa using hu)
  simp only [Option.some.injEq, Addr.mk.injEq, and_true] at e'
  obtain ⟨rfl, rfl⟩ := e'
  rw [show off + k * 4 + (i * 4 + c) = off + ((k + i) * 4 + c) from by omega]
  exact hcell
theorem IsRts.take {w : World} {a : Option Addr} {n cap : Nat} {l : List Ret} (h : IsRts w (.slice a n cap) l) (k : Nat) (hk : k ≤ l.length) : IsRts w (.slice a k cap) (l.take k) := by
  obtain ⟨h1, h2, a', cap', hv, hn, hc⟩ := h
  simp only [Value.slice.injEq] at hv
  obtain ⟨rfl, rfl, rfl⟩ := hv
  have hl : (l.take k).length = k := by rw [List.length_take]; omega
  refine ⟨by rw [rtCells_len], by omega, a, cap, by rw [hl], by omega, fun j u hu => hc j u ?_⟩
  have hj : j < k * 4 := by
    have := (List.getElem?_eq_some_iff.1 hu).1
    rw [rtCells_len, hl] at this
    exact this
  obtain ⟨i, c, rfl, hi, hcc⟩ : ∃ i c, j = i * 4 + c ∧ i < k ∧ c < 4 := ⟨j / 4, j % 4, by omega, by omega, by omega⟩
  rw [rtCells_get _ i c (by omega) hcc] at hu
  rw [rtCells_get _ i c (by omega) hcc]
  simpa using hu
theorem litR0 (W : World) (B N : Nat) (hN : W.heap.size = N) (hB : B ≤ W.heap.size) : (W.alloc (.cells #[] 30)).ownsRow B 30 4 (.slice (some ⟨N, 0, none⟩) 0 0) 0 [] := by
  subst hN
  exact owns_mono (World.ownsRow_lit W #[] 0 (Nat.le_refl _) (Nat.zero_le _) rfl) hB
theorem rev_take {l : List Ret} {j : Nat} (h : j < l.length) : l.reverse.take (j + 1) = l.reverse.take j ++ [l[l.length - 1 - j]'(by omega)] := by
  rw [List.take_succ_eq_append_getElem (by simpa using h), List.getElem_reverse]

set_option maxHeartbeats 400000 in
set_option maxRecDepth 100000 in
theorem returnsOrder_any (c l : List Int) (v u : Value) (n turn : Int) (w : World) (hx : IsInts w v c) (hc : ∀ x ∈ c, I64 x) (hy : IsInts w u l) (hl : ∀ x ∈ l, I64 x) (hn : I64 n) (ht : I64 turn) :
    Calls Try.prog 7 #[v, u, .int .i64 n, .int .i64 turn] w fun e w' => e = .returned (.bool true) ∧ Below w.heap.size w w' := by
  have HM := Lib.hid (made_any c l v u n w hx hc hy hl hn)
  obtain ⟨hb0, hb1⟩ := baseF_in n
  obtain ⟨a1, c1, rfl, -, -, -⟩ := hx.open
  obtain ⟨a2, c2, rfl, -, -, -⟩ := hy.open
  generalize baseF n = D at *
  clear hx hy hc hl hn
  go_enter Try.func7, Try.ntmps7
  go_wp2_with fail
  refine HM.out.mono ?_
  rintro e w1 ⟨v1, v2, rfl, cs, rs, HG, HR, hv1, hv2, hb1'⟩
  have HV1 := Lib.hid hv1
  have HV2 := Lib.hid hv2
  have HB1 := Lib.hid hb1'
  have hrl := HR.out.2.1
  have hcl := HG.out.2.2
  obtain ⟨a4, c4, rfl, -, -, -⟩ := hv1.open
  by_cases hz : rs.length = 0
  · obtain ⟨a3, c3, rfl, -, -⟩ := hv2.open
    have hzb : ((rs.length : Int) == 0) = true := by simp [hz]
    clear hv1 hv2 hb1' HM
    go_wp2_with fail
    refine (lives_any _).mono ?_
    rintro e w99 ⟨rfl, hb99⟩
    have HB99 := Lib.hid (Below.to HB1.out hb99 HB1.out.size)
    clear hb99
    go_wp2_with fail
    go_ret
    exact ⟨rfl, HB99.out⟩
  have hneq : (rs.length == 0) = false := by simpa using hz
  have hnI : ((rs.length : Int) == 0) = false := by simp; exact fun h => hz (by rw [h]; rfl)
  have hk0 := around_lo turn (rs.length : Int) (by omega)
  have hk9 := around_hi turn (rs.length : Int) (by omega)
  obtain ⟨k, hk⟩ : ∃ k : Nat, around turn (rs.length : Int) = (k : Int) := ⟨(around turn (rs.length : Int)).toNat, by omega⟩
  have hkl : k < rs.length := by omega
  have HK : Hid (∀ w, Calls Try.prog 14 #[.int .i64 turn, .int .i64 (rs.length : Int)] w fun e w' => e = .returned (.int .i64 (k : Int)) ∧ w = w') := fun w => by rw [← hk]; exact around_any turn (rs.length : Int) ht (by omega) w
  obtain ⟨b5, o5, c5, rfl, hlt5, -, -, -, -⟩ := hv2.at hkl
  obtain ⟨_, _, e5, -, hlc⟩ := hv2.open
  simp only [Value.slice.injEq, true_and] at e5
  obtain ⟨-, rfl⟩ := e5
  have hl2 : (rs.drop k).length = rs.length - k := List.length_drop
  have hl3 : (rs.take k).length = k := by rw [List.length_take]; omega
  have HPM : Hid ((rs.drop k ++ rs.take k).Perm rs) := by
    have := List.take_append_drop k rs
    exact (List.perm_append_comm).trans (by rw [this])
  have HT1R : Hid (Rd w1 (.slice (some ⟨b5, o5 + k * 4, none⟩) (rs.length - k) (c5 - k)) 4 (rs.drop k).length (rtCells (rs.drop k))) := hv2.drop k (Nat.le_of_lt hkl)
  have HT2R : Hid (Rd w1 (.slice (some ⟨b5, o5, none⟩) k c5) 4 (rs.take k).length (rtCells (rs.take k))) := hv2.take k (Nat.le_of_lt hkl)
  obtain ⟨T1, hT1⟩ : ∃ T1, rs.drop k = T1 := ⟨_, rfl⟩
  obtain ⟨T2, hT2⟩ : ∃ T2, rs.take k = T2 := ⟨_, rfl⟩
  rw [hT1] at HT1R HPM hl2
  rw [hT2] at HT2R HPM hl3
  have hl4 : T1.length + T2.length = rs.length := by omega
  have HL2 := Lib.hid hl2
  have HL3 := Lib.hid hl3
  have HL4 := Lib.hid hl4
  have HRL := Lib.hid hrl
  have HLI := Lib.hid (owns_below (litR0 w1 w1.heap.size w1.heap.size rfl (Nat.le_refl _)) ((Below.refl _ _).drew))
  have HBL : Hid (Below w1.heap.size w1 (w1.alloc (.cells #[] 30)).drew) := ((Below.refl _ _).alloc (Nat.le_refl _) _).drew
  have HN1 : Hid (0 + T1.length ≤ maxLen) := (by show _ ≤ _; unfold maxLen; omega)
  have HN2 : Hid ((0 + T1.length) * 32 ≤ 140737488355328) := (by show _ ≤ _; omega)
  have HN3 : Hid (T1.length + T2.length ≤ maxLen) := (by show _ ≤ _; unfold maxLen; omega)
  have HN4 : Hid ((T1.length + T2.length) * 32 ≤ 140737488355328) := (by show _ ≤ _; omega)
  have hkn : (k : Int) ≤ (rs.length : Int) := by omega
  have hkc : (k : Int) ≤ (c5 : Int) := by omega
  have hck : ¬ c5 = k := by omega
  clear hv1 hv2 hb1' HM hT1 hT2 hl2 hl3 hl4 hk hk0 hk9 ht
  go_wp2_with fail
  refine (HK.out _).mono ?_
  rintro e w' ⟨rfl, rfl⟩
  go_wp2_with fail
  go_region_held3 (fun _ => True) (trivial)
    (first
      | (refine step_append_rd (by rfl) _ _ 24 (by rfl) w1.heap.size 30 _ 4 32 Try.underlying24 infoRt rfl (by decide) (.slice (some ⟨w1.heap.size, 0, none⟩) 0 0) 0 [] (by rfl) HLI.out _ T1.length (rtCells T1) (by rfl) (HT1R.out.below HBL.out) (rtCells_one T1) HN1.out HN2.out HBL.out.size ?_
         intro v3 w3 hv3 hg3
         have HB3 : Hid (Below w1.heap.size w1 w3) := below_append HBL.out HLI.out hg3 HBL.out.size
         have HO3 : Hid (w3.ownsRow w1.heap.size 30 4 v3 T1.length (rtCells T1)) := by (have h := hv3; rw [Nat.zero_add, List.nil_append] at h; exact h)
         clear hv3 hg3)
      | (refine step_append_rd (by rfl) _ _ 24 (by rfl) w1.heap.size 30 _ 4 32 Try.underlying24 infoRt rfl (by decide) v3 T1.length (rtCells T1) (by rfl) HO3.out _ T2.length (rtCells T2) (by rfl) (HT2R.out.below HB3.out) (rtCells_one T2) HN3.out HN4.out HB3.out.size ?_
         intro v4 w4 hv4 hg4
         have HB4 : Hid (Below w1.heap.size w1 w4) := below_append HB3.out HO3.out hg4 HB3.out.size
         have HO4 := Lib.hid hv4
         clear hv4 hg4))
  have HVT : Hid (IsRts w4 v4 (T1 ++ T2)) := by
    show Rd _ _ _ _ _
    rw [List.length_append, rtCells_append]
    exact Rd.of_owns HO4.out
  have HTL : Hid ((T1 ++ T2).length = rs.length) := by show _ = _; rw [List.length_append]; exact HL4.out
  generalize T1 ++ T2 = T at *
  have HVR := Lib.hid (HV2.out.below HB4.out)
  have HVC := Lib.hid (HV1.out.below HB4.out)
  have HBW := Lib.hid (Below.to HB1.out HB4.out HB1.out.size)
  obtain ⟨a6, c6, rfl, -, -⟩ := HVT.out.open
  have hTl := HTL.out
  obtain ⟨N, hN⟩ : ∃ N : Nat, T.length = N := ⟨_, rfl⟩
  have hN0 : 0 < N := by omega
  have hN8 : N ≤ 8 := by omega
  rw [hN]
  rw [hN] at HVT
  have eN : IntKind.i64.wrap ((N : Int) - 1) = (N : Int) - 1 := by rw [IntKind.wrap_i64]; omega
  have HNN := Lib.hid hN
  clear hTl hN HT1R HT2R HLI HBL HN1 HN2 HN3 HN4 HO3 HB3 HO4 HV1 HV2 HB1 HB4 HTL HK
  go_wp2_with fail
  go_loopw [14, 15] (fun o q wr => ∃ (j : Nat) (K : Int) (vb : Value), vb = o ∧ q = .int .i64 K ∧ K = (N : Int) - 1 - (j : Int) ∧ j ≤ N ∧ Hid (wr.ownsRow w4.heap.size 30 4 vb j (rtCells (T.reverse.take j))) ∧ Hid (Below w4.heap.size w4 wr)) (fun _ q _ => (intOf q + 1).toNat)
  case atStart => exact ⟨0, _, _, rfl, rfl, by omega, Nat.zero_le _, Lib.hid (World.ownsRow_nil _ _ _ _), Lib.hid (Below.refl _ _)⟩
  case round =>
    obtain ⟨j, K, vb, rfl, rfl, hK, hj, HOW, HBR⟩ := hrel
    have eK : IntKind.i64.wrap (K - 1) = K - 1 := by rw [IntKind.wrap_i64]; omega
    have hs4 := HBR.out.size
    by_cases hjN : j < N
    · obtain ⟨m, hm⟩ : ∃ m : Nat, m = N - 1 - j := ⟨_, rfl⟩
      have hmK : K = (m : Int) := by omega
      have hmT : m < T.length := by have := HNN.out; omega
      obtain ⟨b7, o7, q7, e7, hlt7, d0, d1, d2, d3⟩ := (HVT.out.below HBR.out).at hmT
      simp only [Value.slice.injEq] at e7
      obtain ⟨rfl, -, -⟩ := e7
      have HRV : Hid (rtCells (T.reverse.take (j + 1)) = rtCells (T.reverse.take j) ++ rtRow T[m]) := by
        show _ = _
        have hjT : j < T.length := by have := HNN.out; omega
        rw [rev_take hjT, rtCells_append, rtCells_single]
        have : T.length - 1 - j = m := by have := HNN.out; omega
        simp only [this]
      generalize T[m] = s at *
      obtain ⟨sc, sk, sf, su⟩ := s
      simp only at d0 d1 d2 d3
      have hm0 : (0 : Int) ≤ (m : Int) := by omega
      have hmN : (m : Int) < (N : Int) := by omega
      have HLX : Hid (∀ W : World, Rd (W.alloc (.cells (litRt ⟨sc, sk, sf, su⟩) 30)) (.slice (some ⟨W.heap.size, 0, none⟩) 1 1) 4 1 (rtRow ⟨sc, sk, sf, su⟩)) := fun W => Rd.lit W (litRt ⟨sc, sk, sf, su⟩) 30 4 1 rfl (by unfold maxLen; omega)
      obtain ⟨a8, c8, rfl, -, -⟩ := owns_slice HOW.out
      subst hmK
      have HMM := Lib.hid hm
      clear hm hmT hK
      go_wp2_with (at_builtin; go_must (refine wpList_append_rd rfl _ _ 24 rfl w4.heap.size 30 _ 4 32 Try.underlying24 infoRt rfl (by decide) (.slice a8 j c8) j (rtCells (T.reverse.take j)) rfl (owns_below HOW.out ?b0) _ 1 (rtRow ⟨sc, sk, sf, su⟩) rfl (HLX.out _) (by intro c hc; simp [rtRow] at hc; rcases hc with rfl | rfl | rfl | rfl <;> rfl) ?b1 ?b2 ?b3 ?_))
      case b0 => exact (Below.refl _ _).alloc (Nat.le_refl _) _
      case b1 => unfold maxLen; omega
      case b2 => omega
      case b3 => simp; omega
      intro v9 w9 hv9 hg9
      have HB9 := Lib.hid (below_append (Below.to HBR.out ((Below.refl _ _).alloc (Nat.le_refl _) _) hs4) (owns_below HOW.out ((Below.refl _ _).alloc (Nat.le_refl _) _)) hg9 (by simp; omega))
      have HO9 : Hid (w9.ownsRow w4.heap.size 30 4 v9 (j + 1) (rtCells (T.reverse.take (j + 1)))) := by
        show World.ownsRow _ _ _ _ _ _ _
        rw [HRV.out]
        exact hv9
      clear hv9 hg9 HRV
      go_wp2_with fail
      go_roundw
      case rel => exact ⟨j + 1, _, _, rfl, rfl, by have := HMM.out; omega, by omega, HO9, HB9⟩
      case measure => simp [intOf]
    · obtain rfl : j = N := by omega
      have HVB : Hid (IsRts wr vb T.reverse) := by
        refine IsRts.of_owns (n := j) (B := w4.heap.size) (e := 30) ?_
        have h := HOW.out
        rw [List.take_of_length_le (by rw [List.length_reverse]; exact Nat.le_of_eq HNN.out)] at h
        exact h
      have hKn : ¬ (0 : Int) ≤ K := by omega
      have HVR2 := Lib.hid (HVR.out.below HBR.out)
      have HVC2 := Lib.hid (HVC.out.below HBR.out)
      have HVT2 := Lib.hid (HVT.out.below HBR.out)
      have HB0 := Lib.hid (Below.to HBW.out HBR.out HBW.out.size)
      have HRE : Hid (T.reverse.length = j) := by show _ = _; rw [List.length_reverse]; exact HNN.out
      have HP2 : Hid (T.reverse.Perm rs) := (List.reverse_perm T).trans HPM.out
      have HRT : Hid (RetsOk cs.length T) := fun r hr => HR.out.1 r (HPM.out.subset hr)
      have HRV : Hid (RetsOk cs.length T.reverse) := fun r hr => HR.out.1 r (HP2.out.subset hr)
      clear HOW HBR HVR HVC HVT HBW
      generalize T.reverse = TR at *
      obtain ⟨a8, c8, rfl, -, -⟩ := HVB.out.open
      go_wp2_with fail
      refine (allowed_any rs cs _ _ D _ HVR2.out HVC2.out (by omega) (by omega) HR.out.1 HG.out.1.ok hb0 hb1).mono ?_
      rintro e w5 ⟨v10, nv, rfl, out, HAL, hv10, hb10⟩
      have HB10 := Lib.hid (Below.to HB0.out hb10 HB0.out.size)
      have HV10 := Lib.hid hv10
      have HVT3 := Lib.hid (HVT2.out.below hb10)
      have HVC3 := Lib.hid (HVC2.out.below hb10)
      have HVB3 := Lib.hid (HVB.out.below hb10)
      obtain ⟨a10, c10, rfl, -, -, -⟩ := hv10.open
      clear hv10 hb10 HVT2 HVC2 HVB HVR2 HB0
      go_wp2_with fail
      refine (allowed_any T cs _ _ D _ HVT3.out HVC3.out (by have := HNN.out; omega) (by omega) HRT.out HG.out.1.ok hb0 hb1).mono ?_
      rintro e w6 ⟨v11, nv', rfl, out', HAL', hv11, hb11⟩
      obtain ⟨rfl, rfl⟩ := Alw.eq HAL.out HAL'.out (fun p _ => (excF_perm HPM.out cs p).symm)
      have HB11 := Lib.hid (Below.to HB10.out hb11 HB10.out.size)
      have HV11 := Lib.hid hv11
      have HV10' := Lib.hid (HV10.out.below hb11)
      have HVC4 := Lib.hid (HVC3.out.below hb11)
      have HVB4 := Lib.hid (HVB3.out.below hb11)
      obtain ⟨a11, c11, rfl, -, -, -⟩ := hv11.open
      clear hv11 hb11 HVT3 HVC3 HVB3 HV10 HAL' HB10
      go_wp2_with fail
      refine (allowed_any TR cs _ _ D _ HVB4.out HVC4.out (by have := HRE.out; omega) (by omega) HRV.out HG.out.1.ok hb0 hb1).mono ?_
      rintro e w7 ⟨v12, nv', rfl, out', HAL', hv12, hb12⟩
      obtain ⟨rfl, rfl⟩ := Alw.eq HAL.out HAL'.out (fun p _ => (excF_perm HP2.out cs p).symm)
      have HB12 := Lib.hid (Below.to HB11.out hb12 HB11.out.size)
      have HV12 := Lib.hid hv12
      have HV10 := Lib.hid (HV10'.out.below hb12)
      have HV11' := Lib.hid (HV11.out.below hb12)
      obtain ⟨a12, c12, rfl, -, -, -⟩ := hv12.open
      clear hv12 hb12 HVC4 HVB4 HV10' HAL' HV11 HB11
      go_wp2_with fail
      refine (sameSpans_eq _ _ _ _ HV10.out HV11'.out).mono ?_
      rintro e w13 ⟨rfl, hb13⟩
      have HB13 := Lib.hid (Below.to HB12.out hb13 HB12.out.size)
      have HV13 := Lib.hid (HV10.out.below hb13)
      have HV14 := Lib.hid (HV12.out.below hb13)
      clear hb13 HV10 HV11' HV12 HB12
      go_wp2_with fail
      refine (sameSpans_eq _ _ _ _ HV13.out HV14.out).mono ?_
      rintro e w14 ⟨rfl, hb14⟩
      have HB14 := Lib.hid (Below.to HB13.out hb14 HB13.out.size)
      have HL := Lib.hid lives_any
      clear hb14 HV13 HV14 HB13
      cases nv
      all_goals
        go_wp2_with fail
        refine (HL.out _).mono ?_
        rintro e w99 ⟨rfl, hb99⟩
        have HB99 := Lib.hid (Below.to HB14.out hb99 HB14.out.size)
        clear hb99
        go_wp2_with fail
        go_ret
        exact ⟨rfl, HB99.out⟩

end Go.Proofs.Ytbiedadgejgnoaa
