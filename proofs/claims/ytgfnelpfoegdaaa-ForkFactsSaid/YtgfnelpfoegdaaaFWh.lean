/-
  Contract of the law's lives.
-/
import Derived.Test.YtgfnelpfoegdaaaFWg
namespace Go.Proofs.Ytgfnelpfoegdaaa
open Go.RowKit

abbrev exL : List Br := exB [10, 11, 12] [20, 21]
def exM : List Br := [⟨-1, 1, 0, [10, 11, 12, 20, 21], true⟩, ⟨0, 2, 2, [20, 21], false⟩]

theorem ex_ev0 : eventsZ exL 0 = [10, 11, 12] := by
  show eventsZ exL ((0 : Nat) : Int) = _
  rw [eventsZ_nat, events_some (x := ⟨-1, 1, 0, [10, 11, 12], true⟩) rfl (by simp), eventsZ_neg (by simp)]
  rfl
theorem ex_ev1 : eventsZ exL 1 = [10, 11, 20, 21] := by
  show eventsZ exL ((1 : Nat) : Int) = _
  rw [eventsZ_nat, events_some (x := ⟨0, 2, 2, [20, 21], true⟩) rfl (by simp)]
  simp only
  rw [ex_ev0]
  rfl
theorem ex_common : commonF (eventsZ exL 0) (eventsZ exL 1) = 2 := by rw [ex_ev0, ex_ev1]; rfl
theorem ex_remand : remandF exL ((1 : Nat) : Int) = (exM, 0) := by
  rw [remandF_mid (x := ⟨0, 2, 2, [20, 21], true⟩) (y := ⟨-1, 1, 0, [10, 11, 12], true⟩) (p := 0) rfl rfl rfl rfl]
  rfl
theorem ex_g8 : Good exM := by have h := remandF_good (b := ((1 : Nat) : Int)) ex_g7 (by rw [ex_remand]); rw [ex_remand] at h; exact h
theorem ex_remand0 : remandF exM ((0 : Nat) : Int) = ([], 11) := remandF_root (x := ⟨-1, 1, 0, [10, 11, 12, 20, 21], true⟩) rfl rfl (by simp)
theorem ex_add5 : addF exM 1 5 = ([], 41) := rfl
theorem ex_fork3 : forkF exM 2 0 = ([], 0, 3) := rfl
theorem ex_ev2 : eventsZ exM 0 = [10, 11, 12, 20, 21] := by
  show eventsZ exM ((0 : Nat) : Int) = _
  rw [eventsZ_nat, events_some (x := ⟨-1, 1, 0, [10, 11, 12, 20, 21], true⟩) rfl (by simp), eventsZ_neg (by simp)]
  rfl
theorem ex_depth : depthZ exM 1 = 1 := by
  show depthZ exM ((1 : Nat) : Int) = _
  rw [depthZ_nat]
  unfold depth
  rw [chain_some (x := ⟨0, 2, 2, [20, 21], false⟩) rfl (by simp)]
  show (1 :: chainZ exM ((0 : Nat) : Int)).length - 1 = 1
  rw [chainZ_nat, chain_some (x := ⟨-1, 1, 0, [10, 11, 12, 20, 21], true⟩) rfl (by simp), chainZ_neg (by simp)]
  rfl

theorem same_eq (xs : List Int) (v u : Value) (w : World) (hx : IsInts w v xs) (hy : IsInts w u xs) :
    Calls Try.prog 28 #[v, u] w fun e w' => e = .returned (.bool true) ∧ ∃ n, w' = w.drewN n := by
  have h := sameInts_any xs xs v u w hx hy
  rw [decide_eq_true rfl] at h
  exact h

theorem ex_lit (xs : List Int) (w : World) (h : xs.length ≤ 1000) : IsInts (w.alloc (.cells (ints xs).toArray 3)) (.slice (some ⟨w.heap.size, 0, none⟩) xs.length xs.length) xs := by
  have := Rd.lit w (ints xs).toArray 3 1 xs.length (by simp [ints]) (by unfold maxLen; omega)
  exact this

set_option maxHeartbeats 2000000 in
set_option maxRecDepth 100000 in
theorem lives_any (w : World) : Calls Try.prog 11 #[] w fun e w' => e = .returned (.bool true) ∧ Below w.heap.size w w' := by
  go_enter Try.func11, Try.ntmps11
  go_wp2_with fail
  refine (example_any _).mono ?_
  rintro e w1 ⟨v1, rfl, hv1, hb1⟩
  obtain ⟨ad, cap, hve, -, -, hc⟩ := hv1.open
  have hve2 : v1 = .slice ad 2 cap := hve
  obtain ⟨bb, off, u, rfl, -, c0, c1, c2, c3, c4⟩ := hc 1 (by decide)
  have d1 : w1.cell? ⟨bb, off + 6, none⟩ = some (.int .i64 2) := c1
  have d2 : w1.cell? ⟨bb, off + 7, none⟩ = some (.int .i64 2) := c2
  subst hve2
  clear c0 c1 c2 c3 c4 hc hve
  have HV1 := Lib.hid hv1
  have HB1 := Lib.hid hb1
  clear hv1 hb1
  go_wp2_with fail
  refine (forkCommon exL _ 0 1 _ HV1.out ex_g7).mono ?_
  rintro e w2 ⟨rfl, hb2⟩
  rw [ex_common]
  have HV2 := Lib.hid (HV1.out.below hb2)
  have HB2 := Lib.hid (Below.to HB1.out hb2 HB1.out.size)
  clear hb2
  go_wp2_with fail
  refine (forkCheck exL _ _ HV2.out (by decide) ex_g7.owns).mono ?_
  rintro e w3 ⟨rfl, hb3⟩
  rw [checkF_ok ex_g7]
  have HV3 := Lib.hid (HV2.out.below hb3)
  have HB3 := Lib.hid (Below.to HB2.out hb3 HB2.out.size)
  clear hb3
  go_wp2_with fail
  have h4 := forkRemand exL (.slice (some ⟨bb, off, none⟩) 2 cap) ((1 : Nat) : Int) w3 HV3.out ex_g7 (by omega)
  rw [ex_remand] at h4
  refine Calls.mono h4 ?_
  rintro e w4 ⟨v4, rfl, hv4, hb4⟩
  have HM4 := Lib.hid hv4
  have HV4 := Lib.hid (HV3.out.below hb4)
  have HB4 := Lib.hid (Below.to HB3.out hb4 HB3.out.size)
  clear hb4 hv4 h4
  go_wp2_with fail
  have h5 := forkRemand exM v4 ((0 : Nat) : Int) w4 HM4.out ex_g8 (by omega)
  rw [ex_remand0] at h5
  refine Calls.mono h5 ?_
  rintro e w5 ⟨v5, rfl, -, hb5⟩
  have HM5 := Lib.hid (HM4.out.below hb5)
  have HV5 := Lib.hid (HV4.out.below hb5)
  have HB5 := Lib.hid (Below.to HB4.out hb5 HB4.out.size)
  clear hb5 h5
  go_wp2_with fail
  have h6 := forkAdd exM v4 1 5 w5 HM5.out ex_g8 (by omega)
  rw [ex_add5] at h6
  refine Calls.mono h6 ?_
  rintro e w6 ⟨v6, rfl, -, hb6⟩
  have HM6 := Lib.hid (HM5.out.below hb6)
  have HV6 := Lib.hid (HV5.out.below hb6)
  have HB6 := Lib.hid (Below.to HB5.out hb6 HB5.out.size)
  clear hb6 h6
  go_wp2_with fail
  have h7 := forkFork exM v4 2 0 w6 HM6.out ex_g8 (by omega)
  rw [ex_fork3] at h7
  refine Calls.mono h7 ?_
  rintro e w7 ⟨v7, rfl, -, hb7⟩
  have HM7 := Lib.hid (HM6.out.below hb7)
  have HV7 := Lib.hid (HV6.out.below hb7)
  have HB7 := Lib.hid (Below.to HB6.out hb7 HB6.out.size)
  clear hb7 h7
  go_wp2_with fail
  refine (forkEventsZ exL _ 0 _ HV7.out ex_g7).mono ?_
  rintro e w8 ⟨v8, rfl, hv8, hb8⟩
  rw [ex_ev0] at hv8
  have HE8 := Lib.hid hv8
  have HM8 := Lib.hid (HM7.out.below hb8)
  have HV8 := Lib.hid (HV7.out.below hb8)
  have HB8 := Lib.hid (Below.to HB7.out hb8 HB7.out.size)
  clear hb8 hv8
  go_wp2_with fail
  refine (same_eq [10, 11, 12] _ _ _ (HE8.out.below ((Below.refl _ w8).alloc (Nat.le_refl _) _)) (ex_lit [10, 11, 12] w8 (by decide))).mono ?_
  rintro e w9 ⟨rfl, n9, hw9⟩
  have hb9 : Below w8.heap.size w8 w9 := by rw [hw9]; exact below_drewN ((Below.refl _ w8).alloc (Nat.le_refl _) _) _
  have HM9 := Lib.hid (HM8.out.below hb9)
  have HV9 := Lib.hid (HV8.out.below hb9)
  have HB9 := Lib.hid (Below.to HB8.out hb9 HB8.out.size)
  clear hb9 hw9
  go_wp2_with fail
  refine (forkEventsZ exL _ 1 _ HV9.out ex_g7).mono ?_
  rintro e w10 ⟨v10, rfl, hv10, hb10⟩
  rw [ex_ev1] at hv10
  have HE10 := Lib.hid hv10
  have HM10 := Lib.hid (HM9.out.below hb10)
  have HV10 := Lib.hid (HV9.out.below hb10)
  have HB10 := Lib.hid (Below.to HB9.out hb10 HB9.out.size)
  clear hb10 hv10
  go_wp2_with fail
  refine (same_eq [10, 11, 20, 21] _ _ _ (HE10.out.below ((Below.refl _ w10).alloc (Nat.le_refl _) _)) (ex_lit [10, 11, 20, 21] w10 (by decide))).mono ?_
  rintro e w11 ⟨rfl, n11, hw11⟩
  have hb11 : Below w10.heap.size w10 w11 := by rw [hw11]; exact below_drewN ((Below.refl _ w10).alloc (Nat.le_refl _) _) _
  have HM11 := Lib.hid (HM10.out.below hb11)
  have HV11 := Lib.hid (HV10.out.below hb11)
  have HB11 := Lib.hid (Below.to HB10.out hb11 HB10.out.size)
  clear hb11 hw11
  go_wp2_with fail
  refine (forkEventsZ exM _ 0 _ HM11.out ex_g8).mono ?_
  rintro e w12 ⟨v12, rfl, hv12, hb12⟩
  rw [ex_ev2] at hv12
  have HE12 := Lib.hid hv12
  have HM12 := Lib.hid (HM11.out.below hb12)
  have HV12 := Lib.hid (HV11.out.below hb12)
  have HB12 := Lib.hid (Below.to HB11.out hb12 HB11.out.size)
  clear hb12 hv12
  go_wp2_with fail
  refine (same_eq [10, 11, 12, 20, 21] _ _ _ (HE12.out.below ((Below.refl _ w12).alloc (Nat.le_refl _) _)) (ex_lit [10, 11, 12, 20, 21] w12 (by decide))).mono ?_
  rintro e w13 ⟨rfl, n13, hw13⟩
  have hb13 : Below w12.heap.size w12 w13 := by rw [hw13]; exact below_drewN ((Below.refl _ w12).alloc (Nat.le_refl _) _) _
  have HM13 := Lib.hid (HM12.out.below hb13)
  have HV13 := Lib.hid (HV12.out.below hb13)
  have HB13 := Lib.hid (Below.to HB12.out hb13 HB12.out.size)
  clear hb13 hw13
  go_wp2_with fail
  refine (forkDepth exM _ 1 _ HM13.out (ex_g8.str _).dec (by have := chainZ_len (l := exM) (by decide) 1; omega)).mono ?_
  rintro e w14 ⟨rfl, hb14⟩
  rw [ex_depth]
  have HB14 := Lib.hid (Below.to HB13.out hb14 HB13.out.size)
  clear hb14
  go_wp2_with fail
  go_ret
  exact ⟨rfl, HB14.out⟩

end Go.Proofs.Ytgfnelpfoegdaaa
