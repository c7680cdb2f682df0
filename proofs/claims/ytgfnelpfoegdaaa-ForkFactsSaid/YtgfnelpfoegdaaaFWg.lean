/-
  Contract of the law's example.
-/
import Derived.Test.YtgfnelpfoegdaaaForkH
import Derived.Test.YtgfnelpfoegdaaaFWe
namespace Go.Proofs.Ytgfnelpfoegdaaa
open Go.RowKit

def exA (xs : List Int) : List Br := [⟨-1, 1, 0, xs, true⟩]
def exB (xs ys : List Int) : List Br := [⟨-1, 1, 0, xs, true⟩, ⟨0, 2, 2, ys, true⟩]

theorem ex_root : rootF [] 1 = (exA [], 0, 0) := rfl
theorem ex_add0 : addF (exA []) 0 10 = (exA [10], 0) := rfl
theorem ex_add1 : addF (exA [10]) 0 11 = (exA [10, 11], 0) := rfl
theorem ex_fork : forkF (exA [10, 11]) 0 2 = (exB [10, 11] [], 1, 0) := by
  have hd : depth (exA [10, 11]) 0 = 0 := chain_root (x := ⟨-1, 1, 0, [10, 11], true⟩) rfl (by simp)
  unfold forkF
  simp [exA, exB, sz] at hd ⊢
  simp [hd]
theorem ex_add2 : addF (exB [10, 11] []) 0 12 = (exB [10, 11, 12] [], 0) := rfl
theorem ex_add3 : addF (exB [10, 11, 12] []) 1 20 = (exB [10, 11, 12] [20], 0) := rfl
theorem ex_add4 : addF (exB [10, 11, 12] [20]) 1 21 = (exB [10, 11, 12] [20, 21], 0) := rfl

theorem good_nil : Good [] := ⟨by simp, fun i x hi => absurd hi (Nat.not_lt_zero _)⟩
theorem ex_g1 : Good (exA []) := by have h := rootF_good (n := 1) good_nil (by rw [ex_root]); rw [ex_root] at h; exact h
theorem ex_g2 : Good (exA [10]) := by have h := addF_good (b := 0) (ev := 10) ex_g1 (by rw [ex_add0]); rw [ex_add0] at h; exact h
theorem ex_g3 : Good (exA [10, 11]) := by have h := addF_good (b := 0) (ev := 11) ex_g2 (by rw [ex_add1]); rw [ex_add1] at h; exact h
theorem ex_g4 : Good (exB [10, 11] []) := by have h := forkF_good (b := 0) (n := 2) ex_g3 (by rw [ex_fork]); rw [ex_fork] at h; exact h
theorem ex_g5 : Good (exB [10, 11, 12] []) := by have h := addF_good (b := 0) (ev := 12) ex_g4 (by rw [ex_add2]); rw [ex_add2] at h; exact h
theorem ex_g6 : Good (exB [10, 11, 12] [20]) := by have h := addF_good (b := 1) (ev := 20) ex_g5 (by rw [ex_add3]); rw [ex_add3] at h; exact h
theorem ex_g7 : Good (exB [10, 11, 12] [20, 21]) := by have h := addF_good (b := 1) (ev := 21) ex_g6 (by rw [ex_add4]); rw [ex_add4] at h; exact h

theorem ex_c1 (w : World) : Calls Try.prog 15 #[.slice none 0 0, .int .i64 1] w (Ret3 w (exA [], 0, 0)) := by
  have h := forkRoot [] (.slice none 0 0) 1 w (IsBrs.nil _ _ _) (by simp) (by simp)
  rw [ex_root] at h; exact h
theorem ex_ca {l m : List Br} {b ev : Int} (e : addF l b ev = (m, 0)) (hg : Good l) (hb : b ≤ 1) {v : Value} {w : World} (hl : IsBrs w v l) : Calls Try.prog 20 #[v, .int .i64 b, .int .i64 ev] w (Ret2 w (m, 0)) := by
  have h := forkAdd l v b ev w hl hg (by omega)
  rw [e] at h; exact h
theorem ex_cf {v : Value} {w : World} (hl : IsBrs w v (exA [10, 11])) : Calls Try.prog 17 #[v, .int .i64 0, .int .i64 2] w (Ret3 w (exB [10, 11] [], 1, 0)) := by
  have h := forkFork _ v 0 2 w hl ex_g3 (by omega)
  rw [ex_fork] at h; exact h

set_option maxHeartbeats 1000000 in
set_option maxRecDepth 100000 in
theorem example_any (w : World) : Calls Try.prog 40 #[] w fun e w' => ∃ v, e = .returned (.tuple #[v, .bool true]) ∧ IsBrs w' v (exB [10, 11, 12] [20, 21]) ∧ Below w.heap.size w w' := by
  go_enter Try.func40, Try.ntmps40
  go_wp2_with fail
  refine (ex_c1 _).mono ?_
  rintro e w1 ⟨v1, rfl, hv1, hb1⟩
  have HV1 := Lib.hid hv1
  have HB1 := Lib.hid hb1
  clear hv1 hb1
  go_wp2_with fail
  refine (ex_ca ex_add0 ex_g1 (by omega) HV1.out).mono ?_
  rintro e w2 ⟨v2, rfl, hv2, hb2⟩
  have HV2 := Lib.hid hv2
  have HB2 := Lib.hid (Below.to HB1.out hb2 HB1.out.size)
  clear hv2 hb2
  go_wp2_with fail
  refine (ex_ca ex_add1 ex_g2 (by omega) HV2.out).mono ?_
  rintro e w3 ⟨v3, rfl, hv3, hb3⟩
  have HV3 := Lib.hid hv3
  have HB3 := Lib.hid (Below.to HB2.out hb3 HB2.out.size)
  clear hv3 hb3
  go_wp2_with fail
  refine (ex_cf HV3.out).mono ?_
  rintro e w4 ⟨v4, rfl, hv4, hb4⟩
  have HV4 := Lib.hid hv4
  have HB4 := Lib.hid (Below.to HB3.out hb4 HB3.out.size)
  clear hv4 hb4
  go_wp2_with fail
  refine (ex_ca ex_add2 ex_g4 (by omega) HV4.out).mono ?_
  rintro e w5 ⟨v5, rfl, hv5, hb5⟩
  have HV5 := Lib.hid hv5
  have HB5 := Lib.hid (Below.to HB4.out hb5 HB4.out.size)
  clear hv5 hb5
  go_wp2_with fail
  refine (ex_ca ex_add3 ex_g5 (by omega) HV5.out).mono ?_
  rintro e w6 ⟨v6, rfl, hv6, hb6⟩
  have HV6 := Lib.hid hv6
  have HB6 := Lib.hid (Below.to HB5.out hb6 HB5.out.size)
  clear hv6 hb6
  go_wp2_with fail
  refine (ex_ca ex_add4 ex_g6 (by omega) HV6.out).mono ?_
  rintro e w7 ⟨v7, rfl, hv7, hb7⟩
  have HV7 := Lib.hid hv7
  have HB7 := Lib.hid (Below.to HB6.out hb7 HB6.out.size)
  clear hv7 hb7
  go_wp2_with fail
  go_ret2
  exact ⟨_, rfl, HV7.out, HB7.out⟩

end Go.Proofs.Ytgfnelpfoegdaaa
