/-
  The law ReturnsChecks: its walk.
-/
import Derived.Test.YtbiedadgejgnoaaRtU
import Derived.Test.YtbiedadgejgnoaaRtK
import Derived.Test.YtbiedadgejgnoaaRtC
import Derived.Test.YtbiedadgejgnoaaLO1
namespace Go.Proofs.Ytbiedadgejgnoaa
open Go.RowKit

theorem rtCells_set4 (l : List Ret) (k : Nat) (hk : k < l.length) (a b c d : Int) : ((((rtCells l).set (k * 4) (.int .i64 a)).set (k * 4 + 1) (.int .i64 b)).set (k * 4 + 2) (.int .i64 c)).set (k * 4 + 3) (.int .i64 d) = rtCells (l.set k ⟨a, b, c, d⟩) := by
  have h0 := rtCells_set l k 0 hk (by omega) (.int .i64 a) ⟨a, l[k].kind, l[k].fr, l[k].un⟩ rfl
  rw [Nat.add_zero] at h0
  rw [h0]
  have hk1 : k < (l.set k ⟨a, l[k].kind, l[k].fr, l[k].un⟩).length := by simpa using hk
  rw [rtCells_set _ k 1 hk1 (by omega) (.int .i64 b) ⟨a, b, l[k].fr, l[k].un⟩ (by simp [rtRow])]
  rw [List.set_set]
  have hk2 : k < (l.set k ⟨a, b, l[k].fr, l[k].un⟩).length := by simpa using hk
  rw [rtCells_set _ k 2 hk2 (by omega) (.int .i64 c) ⟨a, b, c, l[k].un⟩ (by simp [rtRow])]
  rw [List.set_set]
  have hk3 : k < (l.set k ⟨a, b, c, l[k].un⟩).length := by simpa using hk
  rw [rtCells_set _ k 3 hk3 (by omega) (.int .i64 d) ⟨a, b, c, d⟩ (by simp [rtRow])]
  rw [List.set_set]
theorem take_rt {l : List Ret} {k : Nat} (hk : k < l.length) : rtCells (l.take (k + 1)) = rtCells (l.take k) ++ rtRow l[k] := by
  rw [List.take_succ_eq_append_getElem hk, rtCells_append, rtCells_single]

set_option maxHeartbeats 4000000 in
set_option maxRecDepth 100000 in
theorem returnsChecks_any (l0 : List Ret) (c l : List Int) (v0 v u : Value) (at' oc ok of ou : Int) (w : World) (h0 : IsRts w v0 l0) (hx : IsInts w v c) (hc : ∀ x ∈ c, I64 x) (hy : IsInts w u l) (hl : ∀ x ∈ l, I64 x) (ha : I64 at') :
    Calls Try.prog 11 #[v0, v, u, .int .i64 at', .agg #[.int .i64 oc, .int .i64 ok, .int .i64 of, .int .i64 ou]] w fun e w' => e = .returned (.bool true) ∧ Below w.heap.size w w' := by
  obtain ⟨wb, hwb⟩ : ∃ wb, wb = w.alloc (.cells #[.int .i64 oc, .int .i64 ok, .int .i64 of, .int .i64 ou] 30) := ⟨_, rfl⟩
  have hbw : Below w.heap.size w wb := by rw [hwb]; exact (Below.refl _ _).alloc (Nat.le_refl _) _
  have hsb : wb.heap[w.heap.size]? = some (.cells #[.int .i64 oc, .int .i64 ok, .int .i64 of, .int .i64 ou] 30) := by rw [hwb]; exact World.alloc_heap_new w _
  have hszb : w.heap.size < wb.heap.size := by rw [hwb]; simp
  have HM := Lib.hid (made_any c l v u 50 wb (hx.below hbw) hc (hy.below hbw) hl (by unfold I64; omega))
  have H0 := Lib.hid (h0.below hbw)
  have HWB := Lib.hid hbw
  have HSB : Hid (w.heap.size < wb.heap.size) := hszb
  have HBX : Hid (∀ W, Below wb.heap.size wb W → W.cell? ⟨w.heap.size, 0, none⟩ = some (.int .i64 oc) ∧ W.cell? ⟨w.heap.size, 1, none⟩ = some (.int .i64 ok) ∧ W.cell? ⟨w.heap.size, 2, none⟩ = some (.int .i64 of) ∧ W.cell? ⟨w.heap.size, 3, none⟩ = some (.int .i64 ou)) := fun W hW => by
    have hh := (hW.block w.heap.size hszb).trans hsb
    refine ⟨?_, ?_, ?_, ?_⟩ <;> simp [World.cell?, hh]
  have HA5 : Hid (∀ W, Calls Try.prog 14 #[.int .i64 at', .int .i64 5] W fun e w' => e = .returned (.int .i64 (around at' 5)) ∧ W = w') := fun W => around_any at' 5 ha (by omega) W
  have h5 := around_lo at' 5 (by omega)
  have h6 := around_hi at' 5 (by omega)
  have HAN : Hid (∀ m : Nat, 0 < m → ∃ k : Nat, k < m ∧ ∀ W, Calls Try.prog 14 #[.int .i64 at', .int .i64 (m : Int)] W fun e w' => e = .returned (.int .i64 (k : Int)) ∧ W = w') := fun m hm => by
    obtain ⟨k, hk, hlt⟩ := around_nat (n := at') (m := m) hm
    exact ⟨k, hlt, fun W => by have h := around_any at' (m : Int) ha (by omega) W; rw [hk] at h; exact h⟩
  obtain ⟨a0, c0, rfl, hm0, -⟩ := h0.open
  unfold maxLen at hm0
  obtain ⟨a1, c1, rfl, -, -, -⟩ := hx.open
  obtain ⟨a2, c2, rfl, -, -, -⟩ := hy.open
  generalize baseF 50 = D at *
  generalize around at' 5 = z at *
  have HWE := Lib.hid hwb
  clear hx hy hc hl h0 ha hbw hsb hszb hwb
  go_enter Try.func11, Try.ntmps11
  go_wp2_with fail
  rw [← HWE.out]
  refine HM.out.mono ?_
  rintro e w1 ⟨v1, v2, rfl, cs, rs, HG, HR, hv1, hv2, hb1'⟩
  have HV1 := Lib.hid hv1
  have HV2 := Lib.hid hv2
  have HB1 := Lib.hid hb1'
  have hrl := HR.out.2.1
  obtain ⟨a3, c3, rfl, -, -⟩ := hv2.open
  obtain ⟨a4, c4, rfl, -, -, -⟩ := hv1.open
  clear hv1 hv2 hb1' HM
  go_wp2_with fail
  go_loopw [14, 15] (fun o i wr => ∃ (j : Nat) (vh : Value), vh = o ∧ i = .int .i64 j ∧ j ≤ l0.length ∧ j ≤ 35 ∧ Hid (wr.ownsRow w1.heap.size 30 4 vh j (rtCells (l0.take j))) ∧ Hid (Below w1.heap.size w1 wr)) (fun _ i _ => 100 - (intOf i).toNat)
  case atStart => exact ⟨0, _, rfl, rfl, Nat.zero_le _, Nat.zero_le _, Lib.hid (World.ownsRow_nil _ _ _ _), Lib.hid (Below.refl _ _)⟩
  case round =>
    obtain ⟨j, vh, rfl, rfl, hj, hj35, HOW, HBR⟩ := hrel
    have ej : IntKind.i64.wrap ((j : Int) + 1) = ((j + 1 : Nat) : Int) := by rw [IntKind.wrap_i64]; omega
    have hs1 := HBR.out.size
    by_cases hgo : (j : Int) < (l0.length : Int) ∧ (j : Int) < 35
    · obtain ⟨hg1, hg2⟩ := hgo
      have hjl : j < l0.length := by omega
      obtain ⟨b5, o5, q5, e5, hlt5, d0, d1, d2, d3⟩ := (H0.out.below (Below.to HB1.out HBR.out HB1.out.size)).at hjl
      simp only [Value.slice.injEq, true_and] at e5
      obtain ⟨rfl, -⟩ := e5
      have HKT := Lib.hid (take_rt hjl)
      generalize l0[j] = s at *
      obtain ⟨sc, sk, sf, su⟩ := s
      simp only at d0 d1 d2 d3 HKT
      have HLX : Hid (∀ W : World, Rd (W.alloc (.cells (litRt ⟨sc, sk, sf, su⟩) 30)) (.slice (some ⟨W.heap.size, 0, none⟩) 1 1) 4 1 (rtRow ⟨sc, sk, sf, su⟩)) := fun W => Rd.lit W (litRt ⟨sc, sk, sf, su⟩) 30 4 1 rfl (by unfold maxLen; omega)
      obtain ⟨a8, c8, rfl, -, -⟩ := owns_slice HOW.out
      go_wp2_with (at_builtin; go_must (refine wpList_append_rd rfl _ _ 24 rfl w1.heap.size 30 _ 4 32 Try.underlying24 infoRt rfl (by decide) (.slice a8 j c8) j (rtCells (l0.take j)) rfl (owns_below HOW.out ?b0) _ 1 (rtRow ⟨sc, sk, sf, su⟩) rfl (HLX.out _) (by intro c hc; simp [rtRow] at hc; rcases hc with rfl | rfl | rfl | rfl <;> rfl) ?b1 ?b2 ?b3 ?_))
      case b0 => exact (Below.refl _ _).alloc (Nat.le_refl _) _
      case b1 => unfold maxLen; omega
      case b2 => omega
      case b3 => simp; omega
      intro v9 w9 hv9 hg9
      have HB9 := Lib.hid (below_append (Below.to HBR.out ((Below.refl _ _).alloc (Nat.le_refl _) _) hs1) (owns_below HOW.out ((Below.refl _ _).alloc (Nat.le_refl _) _)) hg9 (by simp; omega))
      have HO9 : Hid (w9.ownsRow w1.heap.size 30 4 v9 (j + 1) (rtCells (l0.take (j + 1)))) := by
        show World.ownsRow _ _ _ _ _ _ _
        rw [HKT.out]
        exact hv9
      clear hv9 hg9 HKT
      go_wp2_with fail
      go_roundw
      case rel => exact ⟨j + 1, _, rfl, by go_num, by omega, by omega, HO9, HB9⟩
      case measure => simp [intOf]; omega
    · have HVA : Hid (IsRts wr vh (l0.take j)) := IsRts.of_owns HOW.out
      have HLA : Hid ((l0.take j).length = j) := by show _ = _; rw [List.length_take]; omega
      generalize l0.take j = A at *
      have HBW2 := Lib.hid (Below.to HB1.out HBR.out HB1.out.size)
      have HV1b := Lib.hid (HV1.out.below HBR.out)
      have HV2b := Lib.hid (HV2.out.below HBR.out)
      obtain ⟨wq, rfl⟩ : ∃ wq : World, wq = wr := ⟨_, rfl⟩
      obtain ⟨a8, c8, rfl, -, -⟩ := HVA.out.open
      have hparts : ¬ (j : Int) < (l0.length : Int) ∨ ((j : Int) < (l0.length : Int) ∧ ¬ (j : Int) < 35) := by omega
      clear hgo HOW HV1 HV2 HBR HB1
      rcases hparts with hg | ⟨hg, hg'⟩
      all_goals
        go_wp2_with (at_builtin; go_must (refine wpList_append_rd rfl _ _ 24 rfl wq.heap.size 30 _ 4 32 Try.underlying24 infoRt rfl (by decide) (.slice (some ⟨wq.heap.size, 0, none⟩) 0 0) 0 [] rfl (litR0 wq _ _ rfl (Nat.le_refl _)) _ rs.length (rtCells rs) rfl (HV2b.out.below ?b0) (rtCells_one rs) ?b1 ?b2 (by simp) ?_))
        case b0 => exact (Below.refl _ _).alloc (Nat.le_refl _) _
        case b1 => unfold maxLen; omega
        case b2 => omega
        intro v9 w9 hv9 hg9
        have HB9 := Lib.hid (below_append ((Below.refl _ _).alloc (Nat.le_refl _) _) (litR0 wq _ _ rfl (Nat.le_refl _)) hg9 (by simp))
        have HO9 : Hid (w9.ownsRow wq.heap.size 30 4 v9 rs.length (rtCells rs)) := by show World.ownsRow _ _ _ _ _ _ _; simpa using hv9
        clear hv9 hg9
        by_cases hz : 0 < rs.length
        · obtain ⟨g, cap, rfl, hg0, hglt, hcap⟩ := owns_some HO9.out hz
          obtain ⟨k, hk, hyk⟩ := HAN.out rs.length hz
          have HYK := Lib.hid hyk
          clear hyk
          have HBB := Lib.hid (Below.to HBW2.out HB9.out HBW2.out.size)
          have KD : Hid (w9.drew.cell? ⟨w.heap.size, 0, none⟩ = some (.int .i64 oc) ∧ w9.drew.cell? ⟨w.heap.size, 1, none⟩ = some (.int .i64 ok) ∧ w9.drew.cell? ⟨w.heap.size, 2, none⟩ = some (.int .i64 of) ∧ w9.drew.cell? ⟨w.heap.size, 3, none⟩ = some (.int .i64 ou)) := HBX.out _ HBB.out.drew
          have hr4 : (rtCells rs).length = rs.length * 4 := rtCells_len rs
          obtain ⟨hst1, -⟩ := HO9.out.stored (k * 4) (.int .i64 oc)
          obtain ⟨hst2, -⟩ := hst1.stored (k * 4 + 1) (.int .i64 ok)
          obtain ⟨hst3, -⟩ := hst2.stored (k * 4 + 2) (.int .i64 of)
          obtain ⟨hst4, -⟩ := hst3.stored (k * 4 + 3) (.int .i64 ou)
          have e0 := HO9.out.frozenAt (k * 4)
          have e1 := hst1.frozenAt (k * 4 + 1)
          have e2 := hst2.frozenAt (k * 4 + 2)
          have e3 := hst3.frozenAt (k * 4 + 3)
          have y0 := (HO9.out.cellAt (k * 4) (by omega)).trans (List.getElem?_eq_getElem (by omega))
          have y1 := (hst1.cellAt (k * 4 + 1) (by omega)).trans (List.getElem?_eq_getElem (by simp; omega))
          have y2 := (hst2.cellAt (k * 4 + 2) (by omega)).trans (List.getElem?_eq_getElem (by simp; omega))
          have y3 := (hst3.cellAt (k * 4 + 3) (by omega)).trans (List.getElem?_eq_getElem (by simp; omega))
          obtain ⟨Y0, hY0⟩ : ∃ Y, w9.cell? ⟨g, k * 4, none⟩ = some Y := ⟨_, y0⟩
          obtain ⟨Y1, hY1⟩ : ∃ Y, (w9.setCell ⟨g, k * 4, none⟩ (.int .i64 oc)).cell? ⟨g, k * 4 + 1, none⟩ = some Y := ⟨_, y1⟩
          obtain ⟨Y2, hY2⟩ : ∃ Y, ((w9.setCell ⟨g, k * 4, none⟩ (.int .i64 oc)).setCell ⟨g, k * 4 + 1, none⟩ (.int .i64 ok)).cell? ⟨g, k * 4 + 2, none⟩ = some Y := ⟨_, y2⟩
          obtain ⟨Y3, hY3⟩ : ∃ Y, (((w9.setCell ⟨g, k * 4, none⟩ (.int .i64 oc)).setCell ⟨g, k * 4 + 1, none⟩ (.int .i64 ok)).setCell ⟨g, k * 4 + 2, none⟩ (.int .i64 of)).cell? ⟨g, k * 4 + 3, none⟩ = some Y := ⟨_, y3⟩
          rw [rtCells_set4 rs k hk] at hst4
          have HST := Lib.hid hst4
          clear y0 y1 y2 y3 hst1 hst2 hst3 hst4
          have hkL : (k : Int) < (rs.length : Int) := by omega
          have hkL0 : (0 : Int) ≤ (k : Int) := by omega
          have hgB : wb.heap.size ≤ g := Nat.le_trans HBW2.out.size hg0
          have HBE : Hid (Below wb.heap.size wb ((((w9.setCell ⟨g, k * 4, none⟩ (.int .i64 oc)).setCell ⟨g, k * 4 + 1, none⟩ (.int .i64 ok)).setCell ⟨g, k * 4 + 2, none⟩ (.int .i64 of)).setCell ⟨g, k * 4 + 3, none⟩ (.int .i64 ou)).drew) := ((((HBB.out.setCell (p := ⟨g, k * 4, none⟩) hgB _).setCell (p := ⟨g, k * 4 + 1, none⟩) hgB _).setCell (p := ⟨g, k * 4 + 2, none⟩) hgB _).setCell (p := ⟨g, k * 4 + 3, none⟩) hgB _).drew
          have HBF : Hid (Below wq.heap.size wq ((((w9.setCell ⟨g, k * 4, none⟩ (.int .i64 oc)).setCell ⟨g, k * 4 + 1, none⟩ (.int .i64 ok)).setCell ⟨g, k * 4 + 2, none⟩ (.int .i64 of)).setCell ⟨g, k * 4 + 3, none⟩ (.int .i64 ou)).drew) := ((((HB9.out.setCell (p := ⟨g, k * 4, none⟩) hg0 _).setCell (p := ⟨g, k * 4 + 1, none⟩) hg0 _).setCell (p := ⟨g, k * 4 + 2, none⟩) hg0 _).setCell (p := ⟨g, k * 4 + 3, none⟩) hg0 _).drew
          have KE : Hid (((((w9.setCell ⟨g, k * 4, none⟩ (.int .i64 oc)).setCell ⟨g, k * 4 + 1, none⟩ (.int .i64 ok)).setCell ⟨g, k * 4 + 2, none⟩ (.int .i64 of)).setCell ⟨g, k * 4 + 3, none⟩ (.int .i64 ou)).drew.cell? ⟨w.heap.size, 0, none⟩ = some (.int .i64 oc) ∧ ((((w9.setCell ⟨g, k * 4, none⟩ (.int .i64 oc)).setCell ⟨g, k * 4 + 1, none⟩ (.int .i64 ok)).setCell ⟨g, k * 4 + 2, none⟩ (.int .i64 of)).setCell ⟨g, k * 4 + 3, none⟩ (.int .i64 ou)).drew.cell? ⟨w.heap.size, 1, none⟩ = some (.int .i64 ok) ∧ ((((w9.setCell ⟨g, k * 4, none⟩ (.int .i64 oc)).setCell ⟨g, k * 4 + 1, none⟩ (.int .i64 ok)).setCell ⟨g, k * 4 + 2, none⟩ (.int .i64 of)).setCell ⟨g, k * 4 + 3, none⟩ (.int .i64 ou)).drew.cell? ⟨w.heap.size, 2, none⟩ = some (.int .i64 of) ∧ ((((w9.setCell ⟨g, k * 4, none⟩ (.int .i64 oc)).setCell ⟨g, k * 4 + 1, none⟩ (.int .i64 ok)).setCell ⟨g, k * 4 + 2, none⟩ (.int .i64 of)).setCell ⟨g, k * 4 + 3, none⟩ (.int .i64 ou)).drew.cell? ⟨w.heap.size, 3, none⟩ = some (.int .i64 ou)) := HBX.out _ HBE.out
          go_wp2_with fail
          go_region_held3 (fun w' => w'.cell? ⟨w.heap.size, 0, none⟩ = some (.int .i64 oc) ∧ w'.cell? ⟨w.heap.size, 1, none⟩ = some (.int .i64 ok) ∧ w'.cell? ⟨w.heap.size, 2, none⟩ = some (.int .i64 of) ∧ w'.cell? ⟨w.heap.size, 3, none⟩ = some (.int .i64 ou))
            (first
              | exact KD.out
              | exact KE.out
              | go_keep)
            (first
              | (go_at_call 14
                 refine (HYK.out _).mono ?_
                 rintro e w' ⟨rfl, rfl⟩))
          obtain ⟨W, hW⟩ : ∃ W, W = ((((w9.setCell ⟨g, k * 4, none⟩ (.int .i64 oc)).setCell ⟨g, k * 4 + 1, none⟩ (.int .i64 ok)).setCell ⟨g, k * 4 + 2, none⟩ (.int .i64 of)).setCell ⟨g, k * 4 + 3, none⟩ (.int .i64 ou)).drew := ⟨_, rfl⟩
          rw [← hW]
          have HVX : Hid (IsRts W (.slice (some ⟨g, 0, none⟩) rs.length cap) (rs.set k ⟨oc, ok, of, ou⟩)) := by
            show IsRts _ _ _
            rw [hW]
            exact IsRts.of_owns (World.ownsRow.drew HST.out)
          have HXL : Hid ((rs.set k ⟨oc, ok, of, ou⟩).length = rs.length) := by show _ = _; simp
          rw [← hW] at HBF
          generalize rs.set k ⟨oc, ok, of, ou⟩ = X at *
          obtain ⟨ax, hax⟩ : ∃ ax : Option Addr, ax = some ⟨g, 0, none⟩ := ⟨_, rfl⟩
          rw [← hax]
          rw [← hax] at HVX
          obtain ⟨cx, rfl⟩ : ∃ cx : Nat, cx = cap := ⟨_, rfl⟩
          clear hax HO9 HB9 HST KD KE HBE HBB hW hY0 hY1 hY2 hY3 e0 e1 e2 e3 hgB hg0 hglt hr4 hkL hkL0 HYK HAN hcap
          have HVAw := Lib.hid (HVA.out.below HBF.out)
          have HVRw := Lib.hid (HV2b.out.below HBF.out)
          have HVCw := Lib.hid (HV1b.out.below HBF.out)
          have HBWw := Lib.hid (Below.to HBW2.out HBF.out HBW2.out.size)
          have q30 : IntKind.i64.wrap (30 + z) = 30 + z := by rw [IntKind.wrap_i64]; omega
          clear HVA HV2b HV1b HBW2 HBF
          go_wp2_with fail
          go_loopw [17, 18] (fun o i wr => ∃ (j2 : Nat) (vm : Value), vm = o ∧ i = .int .i64 j2 ∧ j2 ≤ 34 ∧ Hid (wr.ownsRow W.heap.size 30 4 vm j2 (rtCells (List.replicate j2 ⟨0, 3, 0, 0⟩))) ∧ Hid (Below W.heap.size W wr)) (fun _ i _ => 100 - (intOf i).toNat)
          case atStart => exact ⟨0, _, rfl, rfl, Nat.zero_le _, Lib.hid (World.ownsRow_nil _ _ _ _), Lib.hid (Below.refl _ _)⟩
          case round =>
            obtain ⟨j2, vm, rfl, rfl, hj2, HOW, HBR⟩ := hrel
            have ej2 : IntKind.i64.wrap ((j2 : Int) + 1) = ((j2 + 1 : Nat) : Int) := by rw [IntKind.wrap_i64]; omega
            have hs1 := HBR.out.size
            by_cases hgo : (j2 : Int) < 30 + z
            · have HLX : Hid (∀ W : World, Rd (W.alloc (.cells (litRt ⟨0, 3, 0, 0⟩) 30)) (.slice (some ⟨W.heap.size, 0, none⟩) 1 1) 4 1 (rtRow ⟨0, 3, 0, 0⟩)) := fun W => Rd.lit W (litRt ⟨0, 3, 0, 0⟩) 30 4 1 rfl (by unfold maxLen; omega)
              have HRP : Hid (rtCells (List.replicate (j2 + 1) ⟨0, 3, 0, 0⟩) = rtCells (List.replicate j2 ⟨0, 3, 0, 0⟩) ++ rtRow ⟨0, 3, 0, 0⟩) := by show _ = _; rw [List.replicate_succ', rtCells_append, rtCells_single]
              obtain ⟨a9, c9, rfl, -, -⟩ := owns_slice HOW.out
              go_wp2_with fail
              refine (HA5.out _).mono ?_
              rintro e w' ⟨rfl, rfl⟩
              go_wp2_with (at_builtin; go_must (refine wpList_append_rd rfl _ _ 24 rfl W.heap.size 30 _ 4 32 Try.underlying24 infoRt rfl (by decide) (.slice a9 j2 c9) j2 (rtCells (List.replicate j2 ⟨0, 3, 0, 0⟩)) rfl (owns_below HOW.out ?b0) _ 1 (rtRow ⟨0, 3, 0, 0⟩) rfl (HLX.out _) (by intro c hc; simp [rtRow] at hc; rcases hc with rfl | rfl | rfl | rfl <;> rfl) ?b1 ?b2 ?b3 ?_))
              case b0 => exact (Below.refl _ _).alloc (Nat.le_refl _) _
              case b1 => unfold maxLen; omega
              case b2 => omega
              case b3 => simp; omega
              intro v9 w10 hv9 hg9
              have HB9 := Lib.hid (below_append (Below.to HBR.out ((Below.refl _ _).alloc (Nat.le_refl _) _) hs1) (owns_below HOW.out ((Below.refl _ _).alloc (Nat.le_refl _) _)) hg9 (by simp; omega))
              have HO9 : Hid (w10.ownsRow W.heap.size 30 4 v9 (j2 + 1) (rtCells (List.replicate (j2 + 1) ⟨0, 3, 0, 0⟩))) := by
                show World.ownsRow _ _ _ _ _ _ _
                rw [HRP.out]
                exact hv9
              clear hv9 hg9 HRP
              go_wp2_with fail
              go_roundw
              case rel => exact ⟨j2 + 1, _, rfl, by go_num, by omega, HO9, HB9⟩
              case measure => simp [intOf]; omega
            · obtain ⟨am, cm, rfl, -, -⟩ := owns_slice HOW.out
              have HVM : Hid (IsRts wr (.slice am j2 cm) (List.replicate j2 ⟨0, 3, 0, 0⟩)) := IsRts.of_owns HOW.out
              have HVA1 := Lib.hid (HVAw.out.below HBR.out)
              have HVR1 := Lib.hid (HVRw.out.below HBR.out)
              have HVC1 := Lib.hid (HVCw.out.below HBR.out)
              have HVX1 := Lib.hid (HVX.out.below HBR.out)
              have HB1w := Lib.hid (Below.to HBWw.out HBR.out HBWw.out.size)
              clear HOW HBR HVAw HVRw HVCw HVX HBWw
              go_wp2_with fail
              refine (HA5.out _).mono ?_
              rintro e w' ⟨rfl, rfl⟩
              go_wp2_with fail
              obtain ⟨W5, hW5⟩ : ∃ W5, W5 = wr.alloc (.cells #[.slice a8 A.length c8, .slice a3 rs.length c3, .slice ax rs.length cx, .slice am j2 cm] 24) := ⟨_, rfl⟩
              rw [← hW5]
              have hb5 : Below wr.heap.size wr W5 := by rw [hW5]; exact (Below.refl _ _).alloc (Nat.le_refl _) _
              have HC : Hid (∀ q, q < 4 → ∃ vi Li, W5.cell? ⟨wr.heap.size, q, none⟩ = some vi ∧ IsRts W5 vi Li) := by
                intro q hq
                rcases (by omega : q = 0 ∨ q = 1 ∨ q = 2 ∨ q = 3) with rfl | rfl | rfl | rfl
                · exact ⟨_, _, by rw [hW5]; exact (cells_alloc _ _ _ _).trans rfl, HVA1.out.below hb5⟩
                · exact ⟨_, _, by rw [hW5]; exact (cells_alloc _ _ _ _).trans rfl, HVR1.out.below hb5⟩
                · exact ⟨_, _, by rw [hW5]; exact (cells_alloc _ _ _ _).trans rfl, HVX1.out.below hb5⟩
                · exact ⟨_, _, by rw [hW5]; exact (cells_alloc _ _ _ _).trans rfl, HVM.out.below hb5⟩
              have HS5 : Hid (wr.heap.size < W5.heap.size) := by show _ < _; rw [hW5]; simp
              have HVC5 := Lib.hid (HVC1.out.below hb5)
              have HVR5 := Lib.hid (HVR1.out.below hb5)
              have HB5 := Lib.hid (Below.to HB1w.out hb5 HB1w.out.size)
              obtain ⟨P, hP⟩ : ∃ P, P = wr.heap.size := ⟨_, rfl⟩
              rw [← hP] at HC HS5
              rw [← hP]
              clear hP hW5 hb5 HVA1 HVR1 HVC1 HVX1 HB1w HVM
              go_loopw [20] (fun i wr => ∃ q : Nat, i = .int .i64 q ∧ q ≤ 4 ∧ Hid (Below W5.heap.size W5 wr)) (fun i _ => 4 - (intOf i).toNat)
              case atStart => exact ⟨0, rfl, Nat.zero_le _, Lib.hid (Below.refl _ _)⟩
              case round =>
                obtain ⟨q, rfl, hq, HBQ⟩ := hrel
                have eq' : IntKind.i64.wrap ((q : Int) + 1) = ((q + 1 : Nat) : Int) := by rw [IntKind.wrap_i64]; omega
                by_cases hq4 : q < 4
                · obtain ⟨vi, Li, hci, hvi⟩ := HC.out q hq4
                  have HQD := Lib.hid HBQ.out.drew
                  have HKK : Hid (∀ X, Below wr.drew.heap.size wr.drew X → X.cell? ⟨P, q, none⟩ = some vi) := fun X hX => ((Below.to HQD.out hX HQD.out.size).cell (p := ⟨P, q, none⟩) HS5.out).trans hci
                  have K0 : Hid (wr.drew.cell? ⟨P, q, none⟩ = some vi) := HKK.out _ (Below.refl _ _)
                  obtain ⟨CK, hCK⟩ : ∃ CK, chkF cs.length Li = CK := ⟨_, rfl⟩
                  have HCK : Hid (∀ X, Below wr.drew.heap.size wr.drew X → Calls Try.prog 24 #[vi, .slice a4 cs.length c4] X fun e w' => e = .returned (.int .i64 CK) ∧ Below X.heap.size X w') := fun X hX => by
                    have hw := Below.to HQD.out hX HQD.out.size
                    have h := check_any Li cs vi (.slice a4 cs.length c4) X (hvi.below hw) (HVC5.out.below hw)
                    rw [hCK] at h
                    exact h
                  have HRK : Hid (∀ X, Below wr.drew.heap.size wr.drew X → Calls Try.prog 25 #[vi, .slice a4 cs.length c4] X fun e w' => e = .returned (.int .i64 CK) ∧ Below X.heap.size X w') := fun X hX => by
                    have hw := Below.to HQD.out hX HQD.out.size
                    have h := refCheck_any Li cs vi (.slice a4 cs.length c4) X (hvi.below hw) (HVC5.out.below hw)
                    rw [hCK] at h
                    exact h
                  have hqL : (q : Int) < 4 := by omega
                  clear hvi hCK hci
                  go_wp2_with fail
                  go_region_held3 (fun w' => w'.cell? ⟨P, q, none⟩ = some vi)
                    (first
                      | exact K4.out
                      | exact K3.out
                      | exact K0.out
                      | go_keep)
                    (first
                      | (go_at_call 24
                         refine (HCK.out _ (Below.refl _ _)).mono ?_
                         rintro e w3 ⟨rfl, hb3⟩
                         have B3 := Lib.hid hb3
                         have K3 := Lib.hid (HKK.out _ B3.out)
                         clear hb3)
                      | (go_at_call 25
                         refine (HRK.out _ (Below.refl _ _)).mono ?_
                         rintro e w3 ⟨rfl, hb3⟩
                         have B3 := Lib.hid hb3
                         have K3 := Lib.hid (HKK.out _ B3.out)
                         clear hb3)
                      | (go_at_call 24
                         refine (HCK.out _ B3.out).mono ?_
                         rintro e w4 ⟨rfl, hb4⟩
                         have B4 := Lib.hid (Below.to B3.out hb4 B3.out.size)
                         have K4 := Lib.hid (HKK.out _ B4.out)
                         clear hb4)
                      | (go_at_call 25
                         refine (HRK.out _ B3.out).mono ?_
                         rintro e w4 ⟨rfl, hb4⟩
                         have B4 := Lib.hid (Below.to B3.out hb4 B3.out.size)
                         have K4 := Lib.hid (HKK.out _ B4.out)
                         clear hb4))
                  all_goals
                    have HB8 := Lib.hid (Below.to HQD.out B4.out HQD.out.size)
                    clear K0 K3 K4 HKK HCK HRK B3
                    go_wp2_with fail
                    go_roundw
                    case rel => exact ⟨q + 1, by go_num, by omega, HB8⟩
                    case measure => simp [intOf]; omega
                · have hq4' : ¬ (q : Int) < 4 := by omega
                  have HGC := Lib.hid (check_any rs cs (.slice a3 rs.length c3) (.slice a4 cs.length c4) wr (HVR5.out.below HBQ.out) (HVC5.out.below HBQ.out))
                  rw [chkF_rets HR.out.1 (by omega)] at HGC
                  have HB6 := Lib.hid (Below.to HB5.out HBQ.out HB5.out.size)
                  have HL := Lib.hid lives_any
                  go_wp2_with fail
                  refine HGC.out.mono ?_
                  rintro e w8 ⟨rfl, hb8⟩
                  have HB8 := Lib.hid (Below.to HWB.out (Below.to HB6.out hb8 HB6.out.size) HWB.out.size)
                  clear hb8
                  go_wp2_with fail
                  refine (HL.out _).mono ?_
                  rintro e w99 ⟨rfl, hb99⟩
                  have HB99 := Lib.hid (Below.to HB8.out hb99 HB8.out.size)
                  clear hb99
                  go_wp2_with fail
                  go_ret
                  exact ⟨rfl, HB99.out⟩
        · have HVX : Hid (IsRts w9 v9 rs) := IsRts.of_owns HO9.out
          obtain ⟨a9, c9, rfl, -, -⟩ := owns_slice HO9.out
          have hzI : ¬ 0 < (rs.length : Int) := by omega
          have HBF := HB9
          obtain ⟨ax, rfl⟩ : ∃ ax : Option Addr, ax = a9 := ⟨_, rfl⟩
          obtain ⟨cx, rfl⟩ : ∃ cx : Nat, cx = c9 := ⟨_, rfl⟩
          obtain ⟨W, rfl⟩ : ∃ W : World, W = w9 := ⟨_, rfl⟩
          go_wp2_with fail
          clear HO9 HB9 HAN
          have HVAw := Lib.hid (HVA.out.below HBF.out)
          have HVRw := Lib.hid (HV2b.out.below HBF.out)
          have HVCw := Lib.hid (HV1b.out.below HBF.out)
          have HBWw := Lib.hid (Below.to HBW2.out HBF.out HBW2.out.size)
          have q30 : IntKind.i64.wrap (30 + z) = 30 + z := by rw [IntKind.wrap_i64]; omega
          clear HVA HV2b HV1b HBW2 HBF
          go_wp2_with fail
          go_loopw [17, 18] (fun o i wr => ∃ (j2 : Nat) (vm : Value), vm = o ∧ i = .int .i64 j2 ∧ j2 ≤ 34 ∧ Hid (wr.ownsRow W.heap.size 30 4 vm j2 (rtCells (List.replicate j2 ⟨0, 3, 0, 0⟩))) ∧ Hid (Below W.heap.size W wr)) (fun _ i _ => 100 - (intOf i).toNat)
          case atStart => exact ⟨0, _, rfl, rfl, Nat.zero_le _, Lib.hid (World.ownsRow_nil _ _ _ _), Lib.hid (Below.refl _ _)⟩
          case round =>
            obtain ⟨j2, vm, rfl, rfl, hj2, HOW, HBR⟩ := hrel
            have ej2 : IntKind.i64.wrap ((j2 : Int) + 1) = ((j2 + 1 : Nat) : Int) := by rw [IntKind.wrap_i64]; omega
            have hs1 := HBR.out.size
            by_cases hgo : (j2 : Int) < 30 + z
            · have HLX : Hid (∀ W : World, Rd (W.alloc (.cells (litRt ⟨0, 3, 0, 0⟩) 30)) (.slice (some ⟨W.heap.size, 0, none⟩) 1 1) 4 1 (rtRow ⟨0, 3, 0, 0⟩)) := fun W => Rd.lit W (litRt ⟨0, 3, 0, 0⟩) 30 4 1 rfl (by unfold maxLen; omega)
              have HRP : Hid (rtCells (List.replicate (j2 + 1) ⟨0, 3, 0, 0⟩) = rtCells (List.replicate j2 ⟨0, 3, 0, 0⟩) ++ rtRow ⟨0, 3, 0, 0⟩) := by show _ = _; rw [List.replicate_succ', rtCells_append, rtCells_single]
              obtain ⟨a9, c9, rfl, -, -⟩ := owns_slice HOW.out
              go_wp2_with fail
              refine (HA5.out _).mono ?_
              rintro e w' ⟨rfl, rfl⟩
              go_wp2_with (at_builtin; go_must (refine wpList_append_rd rfl _ _ 24 rfl W.heap.size 30 _ 4 32 Try.underlying24 infoRt rfl (by decide) (.slice a9 j2 c9) j2 (rtCells (List.replicate j2 ⟨0, 3, 0, 0⟩)) rfl (owns_below HOW.out ?b0) _ 1 (rtRow ⟨0, 3, 0, 0⟩) rfl (HLX.out _) (by intro c hc; simp [rtRow] at hc; rcases hc with rfl | rfl | rfl | rfl <;> rfl) ?b1 ?b2 ?b3 ?_))
              case b0 => exact (Below.refl _ _).alloc (Nat.le_refl _) _
              case b1 => unfold maxLen; omega
              case b2 => omega
              case b3 => simp; omega
              intro v9 w10 hv9 hg9
              have HB9 := Lib.hid (below_append (Below.to HBR.out ((Below.refl _ _).alloc (Nat.le_refl _) _) hs1) (owns_below HOW.out ((Below.refl _ _).alloc (Nat.le_refl _) _)) hg9 (by simp; omega))
              have HO9 : Hid (w10.ownsRow W.heap.size 30 4 v9 (j2 + 1) (rtCells (List.replicate (j2 + 1) ⟨0, 3, 0, 0⟩))) := by
                show World.ownsRow _ _ _ _ _ _ _
                rw [HRP.out]
                exact hv9
              clear hv9 hg9 HRP
              go_wp2_with fail
              go_roundw
              case rel => exact ⟨j2 + 1, _, rfl, by go_num, by omega, HO9, HB9⟩
              case measure => simp [intOf]; omega
            · obtain ⟨am, cm, rfl, -, -⟩ := owns_slice HOW.out
              have HVM : Hid (IsRts wr (.slice am j2 cm) (List.replicate j2 ⟨0, 3, 0, 0⟩)) := IsRts.of_owns HOW.out
              have HVA1 := Lib.hid (HVAw.out.below HBR.out)
              have HVR1 := Lib.hid (HVRw.out.below HBR.out)
              have HVC1 := Lib.hid (HVCw.out.below HBR.out)
              have HVX1 := Lib.hid (HVX.out.below HBR.out)
              have HB1w := Lib.hid (Below.to HBWw.out HBR.out HBWw.out.size)
              clear HOW HBR HVAw HVRw HVCw HVX HBWw
              go_wp2_with fail
              refine (HA5.out _).mono ?_
              rintro e w' ⟨rfl, rfl⟩
              go_wp2_with fail
              obtain ⟨W5, hW5⟩ : ∃ W5, W5 = wr.alloc (.cells #[.slice a8 A.length c8, .slice a3 rs.length c3, .slice ax rs.length cx, .slice am j2 cm] 24) := ⟨_, rfl⟩
              rw [← hW5]
              have hb5 : Below wr.heap.size wr W5 := by rw [hW5]; exact (Below.refl _ _).alloc (Nat.le_refl _) _
              have HC : Hid (∀ q, q < 4 → ∃ vi Li, W5.cell? ⟨wr.heap.size, q, none⟩ = some vi ∧ IsRts W5 vi Li) := by
                intro q hq
                rcases (by omega : q = 0 ∨ q = 1 ∨ q = 2 ∨ q = 3) with rfl | rfl | rfl | rfl
                · exact ⟨_, _, by rw [hW5]; exact (cells_alloc _ _ _ _).trans rfl, HVA1.out.below hb5⟩
                · exact ⟨_, _, by rw [hW5]; exact (cells_alloc _ _ _ _).trans rfl, HVR1.out.below hb5⟩
                · exact ⟨_, _, by rw [hW5]; exact (cells_alloc _ _ _ _).trans rfl, HVX1.out.below hb5⟩
                · exact ⟨_, _, by rw [hW5]; exact (cells_alloc _ _ _ _).trans rfl, HVM.out.below hb5⟩
              have HS5 : Hid (wr.heap.size < W5.heap.size) := by show _ < _; rw [hW5]; simp
              have HVC5 := Lib.hid (HVC1.out.below hb5)
              have HVR5 := Lib.hid (HVR1.out.below hb5)
              have HB5 := Lib.hid (Below.to HB1w.out hb5 HB1w.out.size)
              obtain ⟨P, hP⟩ : ∃ P, P = wr.heap.size := ⟨_, rfl⟩
              rw [← hP] at HC HS5
              rw [← hP]
              clear hP hW5 hb5 HVA1 HVR1 HVC1 HVX1 HB1w HVM
              go_loopw [20] (fun i wr => ∃ q : Nat, i = .int .i64 q ∧ q ≤ 4 ∧ Hid (Below W5.heap.size W5 wr)) (fun i _ => 4 - (intOf i).toNat)
              case atStart => exact ⟨0, rfl, Nat.zero_le _, Lib.hid (Below.refl _ _)⟩
              case round =>
                obtain ⟨q, rfl, hq, HBQ⟩ := hrel
                have eq' : IntKind.i64.wrap ((q : Int) + 1) = ((q + 1 : Nat) : Int) := by rw [IntKind.wrap_i64]; omega
                by_cases hq4 : q < 4
                · obtain ⟨vi, Li, hci, hvi⟩ := HC.out q hq4
                  have HQD := Lib.hid HBQ.out.drew
                  have HKK : Hid (∀ X, Below wr.drew.heap.size wr.drew X → X.cell? ⟨P, q, none⟩ = some vi) := fun X hX => ((Below.to HQD.out hX HQD.out.size).cell (p := ⟨P, q, none⟩) HS5.out).trans hci
                  have K0 : Hid (wr.drew.cell? ⟨P, q, none⟩ = some vi) := HKK.out _ (Below.refl _ _)
                  obtain ⟨CK, hCK⟩ : ∃ CK, chkF cs.length Li = CK := ⟨_, rfl⟩
                  have HCK : Hid (∀ X, Below wr.drew.heap.size wr.drew X → Calls Try.prog 24 #[vi, .slice a4 cs.length c4] X fun e w' => e = .returned (.int .i64 CK) ∧ Below X.heap.size X w') := fun X hX => by
                    have hw := Below.to HQD.out hX HQD.out.size
                    have h := check_any Li cs vi (.slice a4 cs.length c4) X (hvi.below hw) (HVC5.out.below hw)
                    rw [hCK] at h
                    exact h
                  have HRK : Hid (∀ X, Below wr.drew.heap.size wr.drew X → Calls Try.prog 25 #[vi, .slice a4 cs.length c4] X fun e w' => e = .returned (.int .i64 CK) ∧ Below X.heap.size X w') := fun X hX => by
                    have hw := Below.to HQD.out hX HQD.out.size
                    have h := refCheck_any Li cs vi (.slice a4 cs.length c4) X (hvi.below hw) (HVC5.out.below hw)
                    rw [hCK] at h
                    exact h
                  have hqL : (q : Int) < 4 := by omega
                  clear hvi hCK hci
                  go_wp2_with fail
                  go_region_held3 (fun w' => w'.cell? ⟨P, q, none⟩ = some vi)
                    (first
                      | exact K4.out
                      | exact K3.out
                      | exact K0.out
                      | go_keep)
                    (first
                      | (go_at_call 24
                         refine (HCK.out _ (Below.refl _ _)).mono ?_
                         rintro e w3 ⟨rfl, hb3⟩
                         have B3 := Lib.hid hb3
                         have K3 := Lib.hid (HKK.out _ B3.out)
                         clear hb3)
                      | (go_at_call 25
                         refine (HRK.out _ (Below.refl _ _)).mono ?_
                         rintro e w3 ⟨rfl, hb3⟩
                         have B3 := Lib.hid hb3
                         have K3 := Lib.hid (HKK.out _ B3.out)
                         clear hb3)
                      | (go_at_call 24
                         refine (HCK.out _ B3.out).mono ?_
                         rintro e w4 ⟨rfl, hb4⟩
                         have B4 := Lib.hid (Below.to B3.out hb4 B3.out.size)
                         have K4 := Lib.hid (HKK.out _ B4.out)
                         clear hb4)
                      | (go_at_call 25
                         refine (HRK.out _ B3.out).mono ?_
                         rintro e w4 ⟨rfl, hb4⟩
                         have B4 := Lib.hid (Below.to B3.out hb4 B3.out.size)
                         have K4 := Lib.hid (HKK.out _ B4.out)
                         clear hb4))
                  all_goals
                    have HB8 := Lib.hid (Below.to HQD.out B4.out HQD.out.size)
                    clear K0 K3 K4 HKK HCK HRK B3
                    go_wp2_with fail
                    go_roundw
                    case rel => exact ⟨q + 1, by go_num, by omega, HB8⟩
                    case measure => simp [intOf]; omega
                · have hq4' : ¬ (q : Int) < 4 := by omega
                  have HGC := Lib.hid (check_any rs cs (.slice a3 rs.length c3) (.slice a4 cs.length c4) wr (HVR5.out.below HBQ.out) (HVC5.out.below HBQ.out))
                  rw [chkF_rets HR.out.1 (by omega)] at HGC
                  have HB6 := Lib.hid (Below.to HB5.out HBQ.out HB5.out.size)
                  have HL := Lib.hid lives_any
                  go_wp2_with fail
                  refine HGC.out.mono ?_
                  rintro e w8 ⟨rfl, hb8⟩
                  have HB8 := Lib.hid (Below.to HWB.out (Below.to HB6.out hb8 HB6.out.size) HWB.out.size)
                  clear hb8
                  go_wp2_with fail
                  refine (HL.out _).mono ?_
                  rintro e w99 ⟨rfl, hb99⟩
                  have HB99 := Lib.hid (Below.to HB8.out hb99 HB8.out.size)
                  clear hb99
                  go_wp2_with fail
                  go_ret
                  exact ⟨rfl, HB99.out⟩

end Go.Proofs.Ytbiedadgejgnoaa
