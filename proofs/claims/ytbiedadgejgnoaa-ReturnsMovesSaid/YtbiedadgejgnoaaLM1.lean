/-
  The law ReturnsMoves: its walk.
-/
import Derived.Test.YtbiedadgejgnoaaRtU
import Derived.Test.YtbiedadgejgnoaaRtK
import Derived.Test.YtbiedadgejgnoaaRtZ
import Derived.Test.YtbiedadgejgnoaaApK
namespace Go.Proofs.Ytbiedadgejgnoaa
open Go.RowKit

/-- The returns that say that the paper was delivered. -/
def kind1 (l : List Ret) : List Ret := l.filter (fun r => decide (r.kind = 1))
theorem kind1_take {l : List Ret} {k : Nat} (hk : k < l.length) : kind1 (l.take (k + 1)) = if l[k].kind = 1 then kind1 (l.take k) ++ [l[k]] else kind1 (l.take k) := by
  unfold kind1
  rw [List.take_succ_eq_append_getElem hk, List.filter_append]
  split
  · rename_i h; simp [h]
  · rename_i h; simp [h]
theorem kind1_len (l : List Ret) : (kind1 l).length ≤ l.length := List.length_filter_le _ _
theorem kind1_near {day : Int} {n : Nat} {l : List Ret} (h : NearR day l) (hr : RetsOk n l) : Near1 day (kind1 l) := fun r hrm => by
  obtain ⟨h1, h2⟩ := List.mem_filter.1 hrm
  have hk : r.kind = 1 := by simpa using h2
  have g := h r h1
  refine ⟨hk, g.1 hk, ?_, g.2⟩
  obtain ⟨-, k | k | k⟩ := hr r h1 <;> omega
theorem kind1_ok {n : Nat} {l : List Ret} (hr : RetsOk n l) : RetsOk n (kind1 l) := fun r h => hr r (List.mem_filter.1 h).1
theorem shR_ok {n : Nat} {l : List Ret} {k day : Int} (hr : RetsOk n l) (hn : Near1 day l) (h0 : 3 ≤ day + k) (h1 : day + k + 40 ≤ 3652058) : RetsOk n (shR k l) := fun r h => by
  obtain ⟨s, hs, rfl⟩ := List.mem_map.1 h
  obtain ⟨g1, g2, g3, g4⟩ := hn s hs
  obtain ⟨⟨k1, k2⟩, -⟩ := hr s hs
  exact ⟨⟨k1, k2⟩, .inl ⟨g1, by simp only; omega, by simp only; omega, by simp only; omega⟩⟩
theorem shR_append (k : Int) (l : List Ret) (r : Ret) : shR k (l ++ [r]) = shR k l ++ [⟨r.car, r.kind, r.fr + k, r.un + k⟩] := by simp [shR]
theorem shR_len (k : Int) (l : List Ret) : (shR k l).length = l.length := by simp [shR]

set_option maxHeartbeats 2000000 in
set_option maxRecDepth 100000 in
theorem returnsMoves_any (c l : List Int) (v u : Value) (n by' : Int) (w : World) (hx : IsInts w v c) (hc : ∀ x ∈ c, I64 x) (hy : IsInts w u l) (hl : ∀ x ∈ l, I64 x) (hn : I64 n) (hd : I64 by') :
    Calls Try.prog 10 #[v, u, .int .i64 n, .int .i64 by'] w fun e w' => e = .returned (.bool true) ∧ Below w.heap.size w w' := by
  have HA : Hid (∀ W, Calls Try.prog 14 #[.int .i64 n, .int .i64 360] W fun e w' => e = .returned (.int .i64 (around n 360)) ∧ W = w') := fun W => around_any n 360 hn (by omega) W
  have HZ : Hid (∀ W, Calls Try.prog 14 #[.int .i64 by', .int .i64 10001] W fun e w' => e = .returned (.int .i64 (around by' 10001)) ∧ W = w') := fun W => around_any by' 10001 hd (by omega) W
  have h1 := around_lo n 360 (by omega)
  have h2 := around_hi n 360 (by omega)
  have h3 := around_lo by' 10001 (by omega)
  have h4 := around_hi by' 10001 (by omega)
  generalize around n 360 = y at *
  generalize around by' 10001 = z at *
  have hi : I64 (40 + y) := by unfold I64; omega
  have HM := Lib.hid (made_any c l v u (40 + y) w hx hc hy hl hi)
  have hbv : baseF (40 + y) = 739656 + y := by
    have ha : around (40 + y) 400 = 40 + y := by
      unfold around
      rw [if_neg (by omega)]
      omega
    unfold baseF
    rw [ha, if_neg (by omega), if_neg (by omega)]
    omega
  rw [hbv] at HM
  obtain ⟨a1, c1, rfl, -, -, -⟩ := hx.open
  obtain ⟨a2, c2, rfl, -, -, -⟩ := hy.open
  have q1 : IntKind.i64.wrap (40 + y) = 40 + y := by rw [IntKind.wrap_i64]; omega
  have q2 : IntKind.i64.wrap (z - 5000) = z - 5000 := by rw [IntKind.wrap_i64]; omega
  obtain ⟨D, hD⟩ : ∃ D, 739656 + y = D := ⟨_, rfl⟩
  rw [hD] at HM
  have hD0 : 739656 ≤ D ∧ D ≤ 740015 := by omega
  obtain ⟨hD1, hD2⟩ := hD0
  obtain ⟨k, hk⟩ : ∃ k, z - 5000 = k := ⟨_, rfl⟩
  rw [hk] at q2
  have hk0 : -5000 ≤ k ∧ k ≤ 5000 := by omega
  obtain ⟨hk1, hk2⟩ := hk0
  have q3 : IntKind.i64.wrap (D + k) = D + k := by rw [IntKind.wrap_i64]; omega
  clear hx hy hc hl hn hd hbv hi hD h3 h4
  go_enter Try.func10, Try.ntmps10
  go_wp2_with fail
  refine (HA.out _).mono ?_
  rintro e w' ⟨rfl, rfl⟩
  go_wp2_with fail
  refine HM.out.mono ?_
  rintro e w1 ⟨v1, v2, rfl, cs, rs, HG, HR, hv1, hv2, hb1'⟩
  have HV1 := Lib.hid hv1
  have HV2 := Lib.hid hv2
  have HB1 := Lib.hid hb1'
  have hrl := HR.out.2.1
  have hcl := HG.out.2.2
  obtain ⟨a3, c3, rfl, -, -⟩ := hv2.open
  obtain ⟨a4, c4, rfl, -, -, -⟩ := hv1.open
  clear hv1 hv2 hb1' HM
  go_wp2_with fail
  refine (HZ.out _).mono ?_
  rintro e w' ⟨rfl, rfl⟩
  go_wp2_with fail
  clear hk q2 h1 h2 q1
  go_loopw [13, 14, 15] (fun o p i wr => ∃ (j : Nat) (vh vt : Value) (m : Nat), vh = o ∧ vt = p ∧ i = .int .i64 j ∧ j ≤ rs.length ∧ m ≤ j ∧ Hid ((kind1 (rs.take j)).length = m) ∧
      Hid (wr.ownsRow w1.heap.size 30 4 vh m (rtCells (kind1 (rs.take j)))) ∧ Hid (wr.ownsRow w1.heap.size 30 4 vt m (rtCells (shR k (kind1 (rs.take j))))) ∧ Hid (∀ B, vh.ownBlock = some B → vt.ownBlock ≠ some B) ∧ Hid (Below w1.heap.size w1 wr)) (fun _ _ i _ => rs.length - (intOf i).toNat)
  case atStart => exact ⟨0, _, _, 0, rfl, rfl, rfl, Nat.zero_le _, Nat.zero_le _, Lib.hid rfl, Lib.hid (World.ownsRow_nil _ _ _ _), Lib.hid (World.ownsRow_nil _ _ _ _), Lib.hid (fun B h => by cases h), Lib.hid (Below.refl _ _)⟩
  case round =>
    obtain ⟨j, vh, vt, m, rfl, rfl, rfl, hj, hm, HKL, HOH, HOT, HNE, HBR⟩ := hrel
    have ej : IntKind.i64.wrap ((j : Int) + 1) = ((j + 1 : Nat) : Int) := by rw [IntKind.wrap_i64]; omega
    have hs1 := HBR.out.size
    by_cases hjl : j < rs.length
    · obtain ⟨b5, o5, q5, e5, hlt5, d0, d1, d2, d3⟩ := (HV2.out.below HBR.out).at hjl
      simp only [Value.slice.injEq, true_and] at e5
      obtain ⟨rfl, -⟩ := e5
      have HKT := Lib.hid (kind1_take hjl)
      have hrng := (HR.out.1 rs[j] (List.getElem_mem hjl)).range
      generalize rs[j] = s at *
      obtain ⟨sc, sk, sf, su⟩ := s
      simp only at d0 d1 d2 d3 hrng HKT
      obtain ⟨r1, r2, r3, r4⟩ := hrng
      by_cases hk1 : sk = 1
      · subst hk1
        have hl1 : Hid (kind1 (rs.take (j + 1)) = kind1 (rs.take j) ++ [⟨sc, 1, sf, su⟩]) := by show _ = _; rw [HKT.out, if_pos rfl]
        have f1 : IntKind.i64.wrap (sf + k) = sf + k := by rw [IntKind.wrap_i64]; omega
        have f2 : IntKind.i64.wrap (su + k) = su + k := by rw [IntKind.wrap_i64]; omega
        have HLX : Hid (∀ W : World, Rd (W.alloc (.cells (litRt ⟨sc, 1, sf, su⟩) 30)) (.slice (some ⟨W.heap.size, 0, none⟩) 1 1) 4 1 (rtRow ⟨sc, 1, sf, su⟩)) := fun W => Rd.lit W (litRt ⟨sc, 1, sf, su⟩) 30 4 1 rfl (by unfold maxLen; omega)
        obtain ⟨a8, c8, rfl, -, -⟩ := owns_slice HOH.out
        obtain ⟨a9, c9, rfl, -, -⟩ := owns_slice HOT.out
        have HD : Hid (wr.cell? ⟨b5, o5 + j * 4, none⟩ = some (.int .i64 sc) ∧ wr.cell? ⟨b5, o5 + j * 4 + 1, none⟩ = some (.int .i64 1) ∧ wr.cell? ⟨b5, o5 + j * 4 + 2, none⟩ = some (.int .i64 sf) ∧ wr.cell? ⟨b5, o5 + j * 4 + 3, none⟩ = some (.int .i64 su)) := ⟨d0, d1, d2, d3⟩
        have HLT := Lib.hid hlt5
        obtain ⟨wo, rfl⟩ : ∃ wo : World, wo = wr := ⟨_, rfl⟩
        have hw5 : b5 < w1.heap.size := by
          have h := HV2.out.at hjl
          obtain ⟨b', o', q', e', hlt', -⟩ := h
          simp only [Value.slice.injEq, true_and, Option.some.injEq, Addr.mk.injEq, and_true] at e'
          obtain ⟨⟨rfl, -⟩, -⟩ := e'
          exact hlt'
        have HW5 := Lib.hid hw5
        clear HKT hw5
        go_wp2_with (at_builtin; go_must (refine wpList_append_rda rfl _ _ 24 rfl w1.heap.size 30 _ 4 32 Try.underlying24 infoRt rfl (by decide) (.slice a8 m c8) m (rtCells (kind1 (rs.take j))) rfl (owns_below HOH.out ?b0) _ 1 (rtRow ⟨sc, 1, sf, su⟩) rfl (HLX.out _) (by intro c hc; simp [rtRow] at hc; rcases hc with rfl | rfl | rfl | rfl <;> rfl) ?b1 ?b2 ?b3 ?_))
        case b0 => exact (Below.refl _ _).alloc (Nat.le_refl _) _
        case b1 => unfold maxLen; omega
        case b2 => omega
        case b3 => simp; omega
        intro v9 w9 hv9 hg9 hat9
        have HB9 := Lib.hid (below_append (Below.to HBR.out ((Below.refl _ _).alloc (Nat.le_refl _) _) hs1) (owns_below HOH.out ((Below.refl _ _).alloc (Nat.le_refl _) _)) hg9 (by simp; omega))
        have HO9 : Hid (w9.ownsRow w1.heap.size 30 4 v9 (m + 1) (rtCells (kind1 (rs.take (j + 1))))) := by
          show World.ownsRow _ _ _ _ _ _ _
          rw [hl1.out, rtCells_append, rtCells_single]
          exact hv9
        have HT9 : Hid (w9.ownsRow w1.heap.size 30 4 (.slice a9 m c9) m (rtCells (shR k (kind1 (rs.take j))))) := by
          refine World.ownsRow.kept (World.ownsRow.alloc HOT.out _) hg9 ?_
          cases he : (Value.slice a9 m c9).ownBlock with
          | none => exact .inl rfl
          | some B =>
            right
            intro hh
            exact HNE.out B hh.symm he
        have HN9 : Hid (∀ B, v9.ownBlock = some B → (Value.slice a9 m c9).ownBlock ≠ some B) := fun B hB hh => by
          rcases hat9 with h | h
          · rw [h] at hB
            exact HNE.out B hB hh
          · rw [h] at hB
            have h1 := Option.some.inj hB
            have h2 := (HOT.out.lt B hh).2
            omega
        have HS9 := HB9.out.size
        have z0 := (HB9.out.cell (p := ⟨b5, o5 + j * 4, none⟩) HW5.out).trans ((HBR.out.cell (p := ⟨b5, o5 + j * 4, none⟩) HW5.out).symm.trans HD.out.1)
        have z1 := (HB9.out.cell (p := ⟨b5, o5 + j * 4 + 1, none⟩) HW5.out).trans ((HBR.out.cell (p := ⟨b5, o5 + j * 4 + 1, none⟩) HW5.out).symm.trans HD.out.2.1)
        have z2 := (HB9.out.cell (p := ⟨b5, o5 + j * 4 + 2, none⟩) HW5.out).trans ((HBR.out.cell (p := ⟨b5, o5 + j * 4 + 2, none⟩) HW5.out).symm.trans HD.out.2.2.1)
        have z3 := (HB9.out.cell (p := ⟨b5, o5 + j * 4 + 3, none⟩) HW5.out).trans ((HBR.out.cell (p := ⟨b5, o5 + j * 4 + 3, none⟩) HW5.out).symm.trans HD.out.2.2.2)
        obtain ⟨a10, c10, rfl, -, -⟩ := owns_slice HO9.out
        clear hv9 hg9 hat9 HOH HOT HNE HBR d0 d1 d2 d3
        have hl2 : Hid (shR k (kind1 (rs.take (j + 1))) = shR k (kind1 (rs.take j)) ++ [⟨sc, 1, sf + k, su + k⟩]) := by show _ = _; rw [hl1.out, shR_append]
        have HLY : Hid (Rd ((w9.alloc (.cells #[.int .i64 sc, .int .i64 1, .int .i64 (sf + k), .int .i64 (su + k)] 30)).alloc (.cells #[.int .i64 sc, .int .i64 1, .int .i64 (sf + k), .int .i64 (su + k)] 30)) (.slice (some ⟨w9.heap.size + 1, 0, none⟩) 1 1) 4 1 (rtRow ⟨sc, 1, sf + k, su + k⟩)) := by
          have h := Rd.lit (w9.alloc (.cells #[.int .i64 sc, .int .i64 1, .int .i64 (sf + k), .int .i64 (su + k)] 30)) (litRt ⟨sc, 1, sf + k, su + k⟩) 30 4 1 rfl (by unfold maxLen; omega)
          rw [World.size_alloc] at h
          exact h
        have HBA : Hid (Below w9.heap.size w9 ((w9.alloc (.cells #[.int .i64 sc, .int .i64 1, .int .i64 (sf + k), .int .i64 (su + k)] 30)).alloc (.cells #[.int .i64 sc, .int .i64 1, .int .i64 (sf + k), .int .i64 (su + k)] 30))) := ((Below.refl _ _).alloc (Nat.le_refl _) _).alloc (by simp) _
        go_wp2_with (at_builtin; go_must (refine wpList_append_rda rfl _ _ 24 rfl w1.heap.size 30 _ 4 32 Try.underlying24 infoRt rfl (by decide) (.slice a9 m c9) m (rtCells (shR k (kind1 (rs.take j)))) rfl (owns_below HT9.out ?d0) _ 1 (rtRow ⟨sc, 1, sf + k, su + k⟩) rfl HLY.out (by intro c hc; simp [rtRow] at hc; rcases hc with rfl | rfl | rfl | rfl <;> rfl) ?d1 ?d2 ?d3 ?_))
        case d0 => exact HBA.out
        case d1 => unfold maxLen; omega
        case d2 => omega
        case d3 => simp; omega
        intro v11 w11 hv11 hg11 hat11
        have HB11 := Lib.hid (below_append (Below.to HB9.out HBA.out HS9) (owns_below HT9.out HBA.out) hg11 (by simp; omega))
        have HT11 : Hid (w11.ownsRow w1.heap.size 30 4 v11 (m + 1) (rtCells (shR k (kind1 (rs.take (j + 1)))))) := by
          show World.ownsRow _ _ _ _ _ _ _
          rw [hl2.out, rtCells_append, rtCells_single]
          exact hv11
        have HO11 : Hid (w11.ownsRow w1.heap.size 30 4 (.slice a10 (m + 1) c10) (m + 1) (rtCells (kind1 (rs.take (j + 1))))) := by
          refine World.ownsRow.kept (World.ownsRow.alloc (World.ownsRow.alloc HO9.out _) _) hg11 ?_
          cases he : (Value.slice a10 (m + 1) c10).ownBlock with
          | none => exact .inl rfl
          | some B =>
            right
            intro hh
            exact HN9.out B he hh.symm
        have HN11 : Hid (∀ B, (Value.slice a10 (m + 1) c10).ownBlock = some B → v11.ownBlock ≠ some B) := fun B hB hh => by
          rcases hat11 with h | h
          · rw [h] at hh
            exact HN9.out B hB hh
          · rw [h] at hh
            have h1 := Option.some.inj hh
            have h2 := (HO9.out.lt B hB).2
            first
              | omega
              | (simp at h1; omega)
        have HK11 : Hid ((kind1 (rs.take (j + 1))).length = m + 1) := by show _ = _; rw [hl1.out, List.length_append, List.length_singleton, HKL.out]
        clear hv11 hg11 hat11 HT9 HO9 HN9 HLY HBA z0 z1 z2 z3
        go_wp2_with fail
        go_roundw
        case rel => exact ⟨j + 1, _, _, m + 1, rfl, rfl, by go_num, by omega, by omega, HK11, HO11, HT11, HN11, HB11⟩
        case measure => simp [intOf]; omega
      · have hl1 : Hid (kind1 (rs.take (j + 1)) = kind1 (rs.take j)) := by show _ = _; rw [HKT.out, if_neg hk1]
        have hkb : (sk == 1) = false := by simpa using hk1
        have HK2 : Hid ((kind1 (rs.take (j + 1))).length = m) := by show _ = _; rw [hl1.out]; exact HKL.out
        have HO2 : Hid (wr.ownsRow w1.heap.size 30 4 vh m (rtCells (kind1 (rs.take (j + 1))))) := by show World.ownsRow _ _ _ _ _ _ _; rw [hl1.out]; exact HOH.out
        have HT2 : Hid (wr.ownsRow w1.heap.size 30 4 vt m (rtCells (shR k (kind1 (rs.take (j + 1)))))) := by show World.ownsRow _ _ _ _ _ _ _; rw [hl1.out]; exact HOT.out
        clear HKT HOH HOT HKL hk1
        go_wp2_with fail
        go_roundw
        case rel => exact ⟨j + 1, _, _, m, rfl, rfl, by go_num, by omega, by omega, HK2, HO2, HT2, HNE, HBR⟩
        case measure => simp [intOf]; omega
    · obtain rfl : j = rs.length := by omega
      obtain ⟨H, hH⟩ : ∃ H, kind1 rs = H := ⟨_, rfl⟩
      have hke : kind1 (rs.take rs.length) = H := by rw [List.take_length]; exact hH
      rw [hke] at HKL HOH HOT
      have HVH : Hid (IsRts wr vh H) := IsRts.of_owns HOH.out
      have HVT : Hid (IsRts wr vt (shR k H)) := IsRts.of_owns HOT.out
      have HNR : Hid (Near1 D H) := by rw [← hH]; exact kind1_near HR.out.2.2 HR.out.1
      have HOK : Hid (RetsOk cs.length H) := by rw [← hH]; exact kind1_ok HR.out.1
      have HSO : Hid (RetsOk cs.length (shR k H)) := shR_ok HOK.out HNR.out (by omega) (by omega)
      have HV3 := Lib.hid (HV1.out.below HBR.out)
      have HB3 := Lib.hid (Below.to HB1.out HBR.out HB1.out.size)
      have HSL : Hid ((shR k H).length = m) := by show _ = _; rw [shR_len]; exact HKL.out
      clear hke hH HOH HOT HNE HBR
      generalize hSH : shR k H = SH at *
      have HSH := Lib.hid hSH
      clear hSH
      obtain ⟨a8, c8, rfl, -, -⟩ := HVH.out.open
      obtain ⟨a9, c9, rfl, -, -⟩ := HVT.out.open
      go_wp2_with fail
      refine (served_any H cs _ _ D _ HVH.out HV3.out (by have := HKL.out; omega) (by omega) HOK.out HG.out.1.ok (by omega) (by omega)).mono ?_
      rintro e w5 ⟨x, b, rfl, out5, nv5, HS5, HX5, hb5⟩
      have HB5 := Lib.hid (Below.to HB3.out hb5 HB3.out.size)
      have HVT5 := Lib.hid (HVT.out.below hb5)
      have HV5 := Lib.hid (HV3.out.below hb5)
      clear hb5 HVT HVH HV3
      go_wp2_with fail
      refine (served_any SH cs _ _ (D + k) _ HVT5.out HV5.out (by have := HSL.out; omega) (by omega) HSO.out HG.out.1.ok (by omega) (by omega)).mono ?_
      rintro e w6 ⟨x', b', rfl, out6, nv6, HS6, HX6, hb6⟩
      have HB6 := Lib.hid (Below.to HB5.out hb6 HB5.out.size)
      have hmv := Alw.moves (k := k) HNR.out (by omega) (by omega) (by omega) (by omega) HS5.out (by have h := HS6.out; rw [← HSH.out] at h; exact h)
      have HXR : Hid (b = true → 0 ≤ x ∧ x ≤ 3652058) := fun h => by
        subst h
        obtain ⟨-, hc⟩ := servedF_cov HS5.out.val HX5.out
        have := (HS5.out.cov _).1 hc
        omega
      obtain ⟨rfl, hx⟩ := servedF_moves hmv HX5.out HX6.out
      have HX := Lib.hid hx
      have HL := Lib.hid lives_any
      clear hb6 hmv HX5 HX6 HS5 HS6 hx
      cases b with
      | true =>
        have hx' := HX.out rfl
        subst hx'
        obtain ⟨x0, x9⟩ := HXR.out rfl
        have q7 : IntKind.i64.wrap (x + k) = x + k := by rw [IntKind.wrap_i64]; omega
        go_wp2_with fail
        refine (HL.out _).mono ?_
        rintro e w99 ⟨rfl, hb99⟩
        have HB99 := Lib.hid (Below.to HB6.out hb99 HB6.out.size)
        clear hb99
        go_wp2_with fail
        go_ret
        exact ⟨rfl, HB99.out⟩
      | false =>
        go_wp2_with fail
        refine (HL.out _).mono ?_
        rintro e w99 ⟨rfl, hb99⟩
        have HB99 := Lib.hid (Below.to HB6.out hb99 HB6.out.size)
        clear hb99
        go_wp2_with fail
        go_ret
        exact ⟨rfl, HB99.out⟩

end Go.Proofs.Ytbiedadgejgnoaa
