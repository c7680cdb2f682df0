/-
  Contract of the law's example.
  Contract of the law's lives.
-/
import Derived.Test.YtgfnelpfoegdaaaDoorForkH
import Derived.Test.YtgfnelpfoegdaaaDoorFWe
namespace Go.Proofs.YtgfnelpfoegdaaaDoor
open Go.RowKit

def exA (xs : List Int) : List Br := [⟨-1, 1, 0, xs, true⟩]
def exB (xs ys : List Int) : List Br := [⟨-1, 1, 0, xs, true⟩, ⟨0, 2, 2, ys, true⟩]

theorem ex_root : rootF [] 1 = (exA [], 0, 0) := rfl
theorem ex_add0 : addF (exA []) 0 10 = (exA [10], 0) := rfl
theorem ex_add1 : addF (exA [10]) 0 11 = (exA [10, 11], 0) := rfl
theorem ex_fork : forkF (exA [10, 11]) 0 2 = (exB [10, 11] [], 1, 0) := by
  have hd : depth (exA [10, 11]) 0 = 0 := chain_root (x := ⟨-1, 1, 0, [10, 11], true⟩) rfl (by simp)
  unfold forkF
  simp [exA, exB, sz] at hd ⊢
  simp [hd]
theorem ex_add2 : addF (exB [10, 11] []) 0 12 = (exB [10, 11, 12] [], 0) := rfl
theorem ex_add3 : addF (exB [10, 11, 12] []) 1 20 = (exB [10, 11, 12] [20], 0) := rfl
theorem ex_add4 : addF (exB [10, 11, 12] [20]) 1 21 = (exB [10, 11, 12] [20, 21], 0) := rfl

theorem good_nil : Good [] := ⟨by simp, fun i x hi => absurd hi (Nat.not_lt_zero _)⟩
theorem ex_g1 : Good (exA []) := by have h := rootF_good (n := 1) good_nil (by rw [ex_root]); rw [ex_root] at h; exact h
theorem ex_g2 : Good (exA [10]) := by have h := addF_good (b := 0) (ev := 10) ex_g1 (by rw [ex_add0]); rw [ex_add0] at h; exact h
theorem ex_g3 : Good (exA [10, 11]) := by have h := addF_good (b := 0) (ev := 11) ex_g2 (by rw [ex_add1]); rw [ex_add1] at h; exact h
theorem ex_g4 : Good (exB [10, 11] []) := by have h := forkF_good (b := 0) (n := 2) ex_g3 (by rw [ex_fork]); rw [ex_fork] at h; exact h
theorem ex_g5 : Good (exB [10, 11, 12] []) := by have h := addF_good (b := 0) (ev := 12) ex_g4 (by rw [ex_add2]); rw [ex_add2] at h; exact h
theorem ex_g6 : Good (exB [10, 11, 12] [20]) := by have h := addF_good (b := 1) (ev := 20) ex_g5 (by rw [ex_add3]); rw [ex_add3] at h; exact h
theorem ex_g7 : Good (exB [10, 11, 12] [20, 21]) := by have h := addF_good (b := 1) (ev := 21) ex_g6 (by rw [ex_add4]); rw [ex_add4] at h; exact h

theorem ex_c1 (w : World) : Calls Tryd.prog 42 #[.slice none 0 0, .int .i64 1] w (Ret3 w (exA [], 0, 0)) := by
  have h := forkRoot [] (.slice none 0 0) 1 w (IsBrs.nil _ _ _) (by simp) (by simp)
  rw [ex_root] at h; exact h
theorem ex_ca {l m : List Br} {b ev : Int} (e : addF l b ev = (m, 0)) (hg : Good l) (hb : b ≤ 1) {v : Value} {w : World} (hl : IsBrs w v l) : Calls Tryd.prog 21 #[v, .int .i64 b, .int .i64 ev] w (Ret2 w (m, 0)) := by
  have h := forkAdd l v b ev w hl hg (by omega)
  rw [e] at h; exact h
theorem ex_cf {v : Value} {w : World} (hl : IsBrs w v (exA [10, 11])) : Calls Tryd.prog 22 #[v, .int .i64 0, .int .i64 2] w (Ret3 w (exB [10, 11] [], 1, 0)) := by
  have h := forkFork _ v 0 2 w hl ex_g3 (by omega)
  rw [ex_fork] at h; exact h

set_option maxHeartbeats 1000000 in
set_option maxRecDepth 100000 in
theorem example_any (w : World) : Calls Tryd.prog 17 #[] w fun e w' => ∃ v, e = .returned (.tuple #[v, .bool true]) ∧ IsBrs w' v (exB [10, 11, 12] [20, 21]) ∧ Below w.heap.size w w' := by
  go_enter Tryd.func17, Tryd.ntmps17
  go_wp2_with fail
  refine (ex_c1 _).mono ?_
  rintro e w1 ⟨v1, rfl, hv1, hb1⟩
  have HV1 := Lib.hid hv1
  have HB1 := Lib.hid hb1
  clear hv1 hb1
  go_wp2_with fail
  refine (ex_ca ex_add0 ex_g1 (by omega) HV1.out).mono ?_
  rintro e w2 ⟨v2, rfl, hv2, hb2⟩
  have HV2 := Lib.hid hv2
  have HB2 := Lib.hid (Below.to HB1.out hb2 HB1.out.size)
  clear hv2 hb2
  go_wp2_with fail
  refine (ex_ca ex_add1 ex_g2 (by omega) HV2.out).mono ?_
  rintro e w3 ⟨v3, rfl, hv3, hb3⟩
  have HV3 := Lib.hid hv3
  have HB3 := Lib.hid (Below.to HB2.out hb3 HB2.out.size)
  clear hv3 hb3
  go_wp2_with fail
  refine (ex_cf HV3.out).mono ?_
  rintro e w4 ⟨v4, rfl, hv4, hb4⟩
  have HV4 := Lib.hid hv4
  have HB4 := Lib.hid (Below.to HB3.out hb4 HB3.out.size)
  clear hv4 hb4
  go_wp2_with fail
  refine (ex_ca ex_add2 ex_g4 (by omega) HV4.out).mono ?_
  rintro e w5 ⟨v5, rfl, hv5, hb5⟩
  have HV5 := Lib.hid hv5
  have HB5 := Lib.hid (Below.to HB4.out hb5 HB4.out.size)
  clear hv5 hb5
  go_wp2_with fail
  refine (ex_ca ex_add3 ex_g5 (by omega) HV5.out).mono ?_
  rintro e w6 ⟨v6, rfl, hv6, hb6⟩
  have HV6 := Lib.hid hv6
  have HB6 := Lib.hid (Below.to HB5.out hb6 HB5.out.size)
  clear hv6 hb6
  go_wp2_with fail
  refine (ex_ca ex_add4 ex_g6 (by omega) HV6.out).mono ?_
  rintro e w7 ⟨v7, rfl, hv7, hb7⟩
  have HV7 := Lib.hid hv7
  have HB7 := Lib.hid (Below.to HB6.out hb7 HB6.out.size)
  clear hv7 hb7
  go_wp2_with fail
  go_ret2
  exact ⟨_, rfl, HV7.out, HB7.out⟩

end Go.Proofs.YtgfnelpfoegdaaaDoor

namespace Go.Proofs.YtgfnelpfoegdaaaDoor
open Go.RowKit

abbrev exL : List Br := exB [10, 11, 12] [20, 21]
def exM : List Br := [⟨-1, 1, 0, [10, 11, 12, 20, 21], true⟩, ⟨0, 2, 2, [20, 21], false⟩]

theorem ex_ev0 : eventsZ exL 0 = [10, 11, 12] := by
  show eventsZ exL ((0 : Nat) : Int) = _
  rw [eventsZ_nat, events_some (x := ⟨-1, 1, 0, [10, 11, 12], true⟩) rfl (by simp), eventsZ_neg (by simp)]
  rfl
theorem ex_ev1 : eventsZ exL 1 = [10, 11, 20, 21] := by
  show eventsZ exL ((1 : Nat) : Int) = _
  rw [eventsZ_nat, events_some (x := ⟨0, 2, 2, [20, 21], true⟩) rfl (by simp)]
  simp only
  rw [ex_ev0]
  rfl
theorem ex_common : commonF (eventsZ exL 0) (eventsZ exL 1) = 2 := by rw [ex_ev0, ex_ev1]; rfl
theorem ex_remand : remandF exL ((1 : Nat) : Int) = (exM, 0) := by
  rw [remandF_mid (x := ⟨0, 2, 2, [20, 21], true⟩) (y := ⟨-1, 1, 0, [10, 11, 12], true⟩) (p := 0) rfl rfl rfl rfl]
  rfl
theorem ex_g8 : Good exM := by have h := remandF_good (b := ((1 : Nat) : Int)) ex_g7 (by rw [ex_remand]); rw [ex_remand] at h; exact h
theorem ex_remand0 : remandF exM ((0 : Nat) : Int) = ([], 11) := remandF_root (x := ⟨-1, 1, 0, [10, 11, 12, 20, 21], true⟩) rfl rfl (by simp)
theorem ex_add5 : addF exM 1 5 = ([], 41) := rfl
theorem ex_fork3 : forkF exM 2 0 = ([], 0, 3) := rfl
theorem ex_ev2 : eventsZ exM 0 = [10, 11, 12, 20, 21] := by
  show eventsZ exM ((0 : Nat) : Int) = _
  rw [eventsZ_nat, events_some (x := ⟨-1, 1, 0, [10, 11, 12, 20, 21], true⟩) rfl (by simp), eventsZ_neg (by simp)]
  rfl
theorem ex_depth : depthZ exM 1 = 1 := by
  show depthZ exM ((1 : Nat) : Int) = _
  rw [depthZ_nat]
  unfold depth
  rw [chain_some (x := ⟨0, 2, 2, [20, 21], false⟩) rfl (by simp)]
  show (1 :: chainZ exM ((0 : Nat) : Int)).length - 1 = 1
  rw [chainZ_nat, chain_some (x := ⟨-1, 1, 0, [10, 11, 12, 20, 21], true⟩) rfl (by simp), chainZ_neg (by simp)]
  rfl

theorem same_eq (xs : List Int) (v u : Value) (w : World) (hx : IsInts w v xs) (hy : IsInts w u xs) :
    Calls Tryd.prog 23 #[v, u] w fun e w' => e = .returned (.bool true) ∧ ∃ n, w' = w.drewN n := by
  have h := sameInts_any xs xs v u w hx hy
  rw [decide_eq_true rfl] at h
  exact h

theorem ex_lit (xs : List Int) (w : World) (h : xs.length ≤ 1000) : IsInts (w.alloc (.cells (ints xs).toArray 3)) (.slice (some ⟨w.heap.size, 0, none⟩) xs.length xs.length) xs := by
  have := Rd.lit w (ints xs).toArray 3 1 xs.length (by simp [ints]) (by unfold maxLen; omega)
  exact this

set_option maxHeartbeats 2000000 in
set_option maxRecDepth 100000 in
theorem lives_any (w : World) : Calls Tryd.prog 6 #[] w fun e w' => e = .returned (.bool true) ∧ Below w.heap.size w w' := by
  go_enter Tryd.func6, Tryd.ntmps6
  go_wp2_with fail
  refine (example_any _).mono ?_
  rintro e w1 ⟨v1, rfl, hv1, hb1⟩
  obtain ⟨ad, cap, hve, -, -, hc⟩ := hv1.open
  have hve2 : v1 = .slice ad 2 cap := hve
  obtain ⟨bb, off, u, rfl, -, c0, c1, c2, c3, c4⟩ := hc 1 (by decide)
  have d1 : w1.cell? ⟨bb, off + 6, none⟩ = some (.int .i64 2) := c1
  have d2 : w1.cell? ⟨bb, off + 7, none⟩ = some (.int .i64 2) := c2
  subst hve2
  clear c0 c1 c2 c3 c4 hc hve
  have HV1 := Lib.hid hv1
  have HB1 := Lib.hid hb1
  clear hv1 hb1
  go_wp2_with fail
  refine (forkCommon exL _ 0 1 _ HV1.out ex_g7).mono ?_
  rintro e w2 ⟨rfl, hb2⟩
  rw [ex_common]
  have HV2 := Lib.hid (HV1.out.below hb2)
  have HB2 := Lib.hid (Below.to HB1.out hb2 HB1.out.size)
  clear hb2
  go_wp2_with fail
  refine (forkCheck exL _ _ HV2.out (by decide) ex_g7.owns).mono ?_
  rintro e w3 ⟨rfl, hb3⟩
  rw [checkF_ok ex_g7]
  have HV3 := Lib.hid (HV2.out.below hb3)
  have HB3 := Lib.hid (Below.to HB2.out hb3 HB2.out.size)
  clear hb3
  go_wp2_with fail
  have h4 := forkRemand exL (.slice (some ⟨bb, off, none⟩) 2 cap) ((1 : Nat) : Int) w3 HV3.out ex_g7 (by omega)
  rw [ex_remand] at h4
  refine Calls.mono h4 ?_
  rintro e w4 ⟨v4, rfl, hv4, hb4⟩
  have HM4 := Lib.hid hv4
  have HV4 := Lib.hid (HV3.out.below hb4)
  have HB4 := Lib.hid (Below.to HB3.out hb4 HB3.out.size)
  clear hb4 hv4 h4
  go_wp2_with fail
  have h5 := forkRemand exM v4 ((0 : Nat) : Int) w4 HM4.out ex_g8 (by omega)
  rw [ex_remand0] at h5
  refine Calls.mono h5 ?_
  rintro e w5 ⟨v5, rfl, -, hb5⟩
  have HM5 := Lib.hid (HM4.out.below hb5)
  have HV5 := Lib.hid (HV4.out.below hb5)
  have HB5 := Lib.hid (Below.to HB4.out hb5 HB4.out.size)
  clear hb5 h5
  go_wp2_with fail
  have h6 := forkAdd exM v4 1 5 w5 HM5.out ex_g8 (by omega)
  rw [ex_add5] at h6
  refine Calls.mono h6 ?_
  rintro e w6 ⟨v6, rfl, -, hb6⟩
  have HM6 := Lib.hid (HM5.out.below hb6)
  have HV6 := Lib.hid (HV5.out.below hb6)
  have HB6 := Lib.hid (Below.to HB5.out hb6 HB5.out.size)
  clear hb6 h6
  go_wp2_with fail
  have h7 := forkFork exM v4 2 0 w6 HM6.out ex_g8 (by omega)
  rw [ex_fork3] at h7
  refine Calls.mono h7 ?_
  rintro e w7 ⟨v7, rfl, -, hb7⟩
  have HM7 := Lib.hid (HM6.out.below hb7)
  have HV7 := Lib.hid (HV6.out.below hb7)
  have HB7 := Lib.hid (Below.to HB6.out hb7 HB6.out.size)
  clear hb7 h7
  go_wp2_with fail
  refine (forkEventsZ exL _ 0 _ HV7.out ex_g7).mono ?_
  rintro e w8 ⟨v8, rfl, hv8, hb8⟩
  rw [ex_ev0] at hv8
  have HE8 := Lib.hid hv8
  have HM8 := Lib.hid (HM7.out.below hb8)
  have HV8 := Lib.hid (HV7.out.below hb8)
  have HB8 := Lib.hid (Below.to HB7.out hb8 HB7.out.size)
  clear hb8 hv8
  go_wp2_with fail
  refine (same_eq [10, 11, 12] _ _ _ (HE8.out.below ((Below.refl _ w8).alloc (Nat.le_refl _) _)) (ex_lit [10, 11, 12] w8 (by decide))).mono ?_
  rintro e w9 ⟨rfl, n9, hw9⟩
  have hb9 : Below w8.heap.size w8 w9 := by rw [hw9]; exact below_drewN ((Below.refl _ w8).alloc (Nat.le_refl _) _) _
  have HM9 := Lib.hid (HM8.out.below hb9)
  have HV9 := Lib.hid (HV8.out.below hb9)
  have HB9 := Lib.hid (Below.to HB8.out hb9 HB8.out.size)
  clear hb9 hw9
  go_wp2_with fail
  refine (forkEventsZ exL _ 1 _ HV9.out ex_g7).mono ?_
  rintro e w10 ⟨v10, rfl, hv10, hb10⟩
  rw [ex_ev1] at hv10
  have HE10 := Lib.hid hv10
  have HM10 := Lib.hid (HM9.out.below hb10)
  have HV10 := Lib.hid (HV9.out.below hb10)
  have HB10 := Lib.hid (Below.to HB9.out hb10 HB9.out.size)
  clear hb10 hv10
  go_wp2_with fail
  refine (same_eq [10, 11, 20, 21] _ _ _ (HE10.out.below ((Below.refl _ w10).alloc (Nat.le_refl _) _)) (ex_lit [10, 11, 20, 21] w10 (by decide))).mono ?_
  rintro e w11 ⟨rfl, n11, hw11⟩
  have hb11 : Below w10.heap.size w10 w11 := by rw [hw11]; exact below_drewN ((Below.refl _ w10).alloc (Nat.le_refl _) _) _
  have HM11 := Lib.hid (HM10.out.below hb11)
  have HV11 := Lib.hid (HV10.out.below hb11)
  have HB11 := Lib.hid (Below.to HB10.out hb11 HB10.out.size)
  clear hb11 hw11
  go_wp2_with fail
  refine (forkEventsZ exM _ 0 _ HM11.out ex_g8).mono ?_
  rintro e w12 ⟨v12, rfl, hv12, hb12⟩
  rw [ex_ev2] at hv12
  have HE12 := Lib.hid hv12
  have HM12 := Lib.hid (HM11.out.below hb12)
  have HV12 := Lib.hid (HV11.out.below hb12)
  have HB12 := Lib.hid (Below.to HB11.out hb12 HB11.out.size)
  clear hb12 hv12
  go_wp2_with fail
  refine (same_eq [10, 11, 12, 20, 21] _ _ _ (HE12.out.below ((Below.refl _ w12).alloc (Nat.le_refl _) _)) (ex_lit [10, 11, 12, 20, 21] w12 (by decide))).mono ?_
  rintro e w13 ⟨rfl, n13, hw13⟩
  have hb13 : Below w12.heap.size w12 w13 := by rw [hw13]; exact below_drewN ((Below.refl _ w12).alloc (Nat.le_refl _) _) _
  have HM13 := Lib.hid (HM12.out.below hb13)
  have HV13 := Lib.hid (HV12.out.below hb13)
  have HB13 := Lib.hid (Below.to HB12.out hb13 HB12.out.size)
  clear hb13 hw13
  go_wp2_with fail
  refine (forkDepth exM _ 1 _ HM13.out (ex_g8.str _).dec (by have := chainZ_len (l := exM) (by decide) 1; omega)).mono ?_
  rintro e w14 ⟨rfl, hb14⟩
  rw [ex_depth]
  have HB14 := Lib.hid (Below.to HB13.out hb14 HB13.out.size)
  clear hb14
  go_wp2_with fail
  go_ret
  exact ⟨rfl, HB14.out⟩

end Go.Proofs.YtgfnelpfoegdaaaDoor
