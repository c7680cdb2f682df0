/-
  Contract of the law's step: one operation, which has no effect if it fails. (Printed by wip/tools/gen_step.py.)
-/
import Derived.Test.YtgfnelpfoegdaaaFR6
import Derived.Test.YtgfnelpfoegdaaaForkL
namespace Go.Proofs.Ytgfnelpfoegdaaa
open Go.RowKit

set_option maxHeartbeats 4000000 in
set_option maxRecDepth 100000 in
theorem step_any (l : List Br) (v : Value) (K B N : Int) (w : World) (hl : IsBrs w v l) (hg : Good l) (hK : I64 K) (hB : I64 B) :
    Calls Try.prog 24 #[v, .agg #[.int .i64 K, .int .i64 B, .int .i64 N]] w (Ret2 w (stepF l (around K 10) (around B ((l.length : Int) + 1)) N)) := by
  obtain ⟨W0, hW0⟩ : ∃ W0, W0 = w.alloc (.cells #[.int .i64 K, .int .i64 B, .int .i64 N] 42) := ⟨_, rfl⟩
  have hbel0 : Below w.heap.size w W0 := by rw [hW0]; exact (Below.refl _ _).alloc (Nat.le_refl _) _
  have hbx : ∀ o, W0.cell? ⟨w.heap.size, o, none⟩ = (#[.int .i64 K, .int .i64 B, .int .i64 N] : Array Value)[o]? := by rw [hW0]; exact cells_alloc w _ _
  have c0 : W0.cell? ⟨w.heap.size, 0, none⟩ = some (.int .i64 K) := hbx 0
  have c1 : W0.cell? ⟨w.heap.size, 1, none⟩ = some (.int .i64 B) := hbx 1
  have c2 : W0.cell? ⟨w.heap.size, 2, none⟩ = some (.int .i64 N) := hbx 2
  have HW0 := Lib.hid hW0
  have HL0 := Lib.hid (hl.below hbel0)
  have HB0 := Lib.hid hbel0
  have HG := Lib.hid hg
  have hl256 := hg.1
  have HLN : Hid (l.length ≤ 1000) := (by show _ ≤ _; omega)
  obtain ⟨ad, cap, rfl, -, -, -⟩ := hl.open
  have hj0 := around_lo K 10 (by omega)
  have hj9 := around_hi K 10 (by omega)
  have ht0 := around_lo B ((l.length : Int) + 1) (by omega)
  have ht9 := around_hi B ((l.length : Int) + 1) (by omega)
  have HA1 := Lib.hid (around_any B ((l.length : Int) + 1) hB (by omega) W0)
  have HA2 := Lib.hid (around_any K 10 hK (by omega) W0)
  generalize around K 10 = j at *
  generalize around B ((l.length : Int) + 1) = t at *
  have hwl : IntKind.i64.wrap ((l.length : Int) + 1) = (l.length : Int) + 1 := by rw [IntKind.wrap_i64]; omega
  clear hW0 hbel0 hbx hl hg hK hB
  by_cases h0 : j = 0
  · subst h0
    obtain ⟨m, n1, e1, hr⟩ : ∃ m n1 e1, rootF l N = (m, n1, e1) := ⟨_, _, _, rfl⟩
    have h := forkRoot l _ N W0 HL0.out HLN.out HG.out.owns
    rw [hr] at h
    have hraw : rawF l 0 t N = (m, e1) := by unfold rawF; simp [hr]
    by_cases hz : e1 = 0
    · subst hz
      have hs : stepF l 0 t N = (m, 0) := by rw [stepF_ok (by rw [hraw]), hraw]
      rw [hs]
      clear hs hraw hr
      go_enter Try.func24, Try.ntmps24
      go_wp2_with fail
      rw [← HW0.out]
      refine HA1.out.mono ?_
      rintro e w' ⟨rfl, rfl⟩
      go_wp2_with fail
      refine HA2.out.mono ?_
      rintro e w' ⟨rfl, rfl⟩
      go_wp2_with fail
      refine Calls.mono h ?_
      rintro e w9 ⟨v9, rfl, hv9, hb9⟩
      have HB9 := Lib.hid (Below.to HB0.out hb9 HB0.out.size)
      have HV9 := Lib.hid hv9
      have HL9 := Lib.hid (HL0.out.below hb9)
      clear hb9 h hv9
      go_wp2_with fail
      go_ret2
      exact ⟨_, rfl, HV9.out, HB9.out⟩
    · have hs : stepF l 0 t N = (l, e1) := by rw [stepF_err (by rw [hraw]; exact hz), hraw]
      rw [hs]
      have hzn : (e1 == 0) = false := by simpa using hz
      have hzb : (e1 != 0) = true := by simpa using hz
      clear hs hraw hr hz
      go_enter Try.func24, Try.ntmps24
      go_wp2_with fail
      rw [← HW0.out]
      refine HA1.out.mono ?_
      rintro e w' ⟨rfl, rfl⟩
      go_wp2_with fail
      refine HA2.out.mono ?_
      rintro e w' ⟨rfl, rfl⟩
      go_wp2_with fail
      refine Calls.mono h ?_
      rintro e w9 ⟨v9, rfl, hv9, hb9⟩
      have HB9 := Lib.hid (Below.to HB0.out hb9 HB0.out.size)
      have HV9 := Lib.hid hv9
      have HL9 := Lib.hid (HL0.out.below hb9)
      clear hb9 h hv9
      go_wp2_with fail
      go_ret2
      exact ⟨_, rfl, HL9.out, HB9.out⟩
  · by_cases h1 : j = 1 ∨ j = 2
    · rcases h1 with rfl | rfl
      · skip
        obtain ⟨m, n1, e1, hr⟩ : ∃ m n1 e1, forkF l t N = (m, n1, e1) := ⟨_, _, _, rfl⟩
        have h := forkFork l _ t N W0 HL0.out HG.out (by omega)
        rw [hr] at h
        have hraw : rawF l 1 t N = (m, e1) := by unfold rawF; simp [hr]
        by_cases hz : e1 = 0
        · subst hz
          have hs : stepF l 1 t N = (m, 0) := by rw [stepF_ok (by rw [hraw]), hraw]
          rw [hs]
          clear hs hraw hr
          go_enter Try.func24, Try.ntmps24
          go_wp2_with fail
          rw [← HW0.out]
          refine HA1.out.mono ?_
          rintro e w' ⟨rfl, rfl⟩
          go_wp2_with fail
          refine HA2.out.mono ?_
          rintro e w' ⟨rfl, rfl⟩
          go_wp2_with fail
          refine Calls.mono h ?_
          rintro e w9 ⟨v9, rfl, hv9, hb9⟩
          have HB9 := Lib.hid (Below.to HB0.out hb9 HB0.out.size)
          have HV9 := Lib.hid hv9
          have HL9 := Lib.hid (HL0.out.below hb9)
          clear hb9 h hv9
          go_wp2_with fail
          go_ret2
          exact ⟨_, rfl, HV9.out, HB9.out⟩
        · have hs : stepF l 1 t N = (l, e1) := by rw [stepF_err (by rw [hraw]; exact hz), hraw]
          rw [hs]
          have hzn : (e1 == 0) = false := by simpa using hz
          have hzb : (e1 != 0) = true := by simpa using hz
          clear hs hraw hr hz
          go_enter Try.func24, Try.ntmps24
          go_wp2_with fail
          rw [← HW0.out]
          refine HA1.out.mono ?_
          rintro e w' ⟨rfl, rfl⟩
          go_wp2_with fail
          refine HA2.out.mono ?_
          rintro e w' ⟨rfl, rfl⟩
          go_wp2_with fail
          refine Calls.mono h ?_
          rintro e w9 ⟨v9, rfl, hv9, hb9⟩
          have HB9 := Lib.hid (Below.to HB0.out hb9 HB0.out.size)
          have HV9 := Lib.hid hv9
          have HL9 := Lib.hid (HL0.out.below hb9)
          clear hb9 h hv9
          go_wp2_with fail
          go_ret2
          exact ⟨_, rfl, HL9.out, HB9.out⟩
      · skip
        obtain ⟨m, n1, e1, hr⟩ : ∃ m n1 e1, forkF l t N = (m, n1, e1) := ⟨_, _, _, rfl⟩
        have h := forkFork l _ t N W0 HL0.out HG.out (by omega)
        rw [hr] at h
        have hraw : rawF l 2 t N = (m, e1) := by unfold rawF; simp [hr]
        by_cases hz : e1 = 0
        · subst hz
          have hs : stepF l 2 t N = (m, 0) := by rw [stepF_ok (by rw [hraw]), hraw]
          rw [hs]
          clear hs hraw hr
          go_enter Try.func24, Try.ntmps24
          go_wp2_with fail
          rw [← HW0.out]
          refine HA1.out.mono ?_
          rintro e w' ⟨rfl, rfl⟩
          go_wp2_with fail
          refine HA2.out.mono ?_
          rintro e w' ⟨rfl, rfl⟩
          go_wp2_with fail
          refine Calls.mono h ?_
          rintro e w9 ⟨v9, rfl, hv9, hb9⟩
          have HB9 := Lib.hid (Below.to HB0.out hb9 HB0.out.size)
          have HV9 := Lib.hid hv9
          have HL9 := Lib.hid (HL0.out.below hb9)
          clear hb9 h hv9
          go_wp2_with fail
          go_ret2
          exact ⟨_, rfl, HV9.out, HB9.out⟩
        · have hs : stepF l 2 t N = (l, e1) := by rw [stepF_err (by rw [hraw]; exact hz), hraw]
          rw [hs]
          have hzn : (e1 == 0) = false := by simpa using hz
          have hzb : (e1 != 0) = true := by simpa using hz
          clear hs hraw hr hz
          go_enter Try.func24, Try.ntmps24
          go_wp2_with fail
          rw [← HW0.out]
          refine HA1.out.mono ?_
          rintro e w' ⟨rfl, rfl⟩
          go_wp2_with fail
          refine HA2.out.mono ?_
          rintro e w' ⟨rfl, rfl⟩
          go_wp2_with fail
          refine Calls.mono h ?_
          rintro e w9 ⟨v9, rfl, hv9, hb9⟩
          have HB9 := Lib.hid (Below.to HB0.out hb9 HB0.out.size)
          have HV9 := Lib.hid hv9
          have HL9 := Lib.hid (HL0.out.below hb9)
          clear hb9 h hv9
          go_wp2_with fail
          go_ret2
          exact ⟨_, rfl, HL9.out, HB9.out⟩
    · by_cases h3 : j = 3
      · subst h3
        obtain ⟨m, e1, hr⟩ : ∃ m e1, remandF l t = (m, e1) := ⟨_, _, rfl⟩
        have h := forkRemand l _ t W0 HL0.out HG.out (by omega)
        rw [hr] at h
        have hraw : rawF l 3 t N = (m, e1) := by unfold rawF; simp [hr]
        by_cases hz : e1 = 0
        · subst hz
          have hs : stepF l 3 t N = (m, 0) := by rw [stepF_ok (by rw [hraw]), hraw]
          rw [hs]
          clear hs hraw hr
          go_enter Try.func24, Try.ntmps24
          go_wp2_with fail
          rw [← HW0.out]
          refine HA1.out.mono ?_
          rintro e w' ⟨rfl, rfl⟩
          go_wp2_with fail
          refine HA2.out.mono ?_
          rintro e w' ⟨rfl, rfl⟩
          go_wp2_with fail
          refine Calls.mono h ?_
          rintro e w9 ⟨v9, rfl, hv9, hb9⟩
          have HB9 := Lib.hid (Below.to HB0.out hb9 HB0.out.size)
          have HV9 := Lib.hid hv9
          have HL9 := Lib.hid (HL0.out.below hb9)
          clear hb9 h hv9
          go_wp2_with fail
          go_ret2
          exact ⟨_, rfl, HV9.out, HB9.out⟩
        · have hs : stepF l 3 t N = (l, e1) := by rw [stepF_err (by rw [hraw]; exact hz), hraw]
          rw [hs]
          have hzn : (e1 == 0) = false := by simpa using hz
          have hzb : (e1 != 0) = true := by simpa using hz
          clear hs hraw hr hz
          go_enter Try.func24, Try.ntmps24
          go_wp2_with fail
          rw [← HW0.out]
          refine HA1.out.mono ?_
          rintro e w' ⟨rfl, rfl⟩
          go_wp2_with fail
          refine HA2.out.mono ?_
          rintro e w' ⟨rfl, rfl⟩
          go_wp2_with fail
          refine Calls.mono h ?_
          rintro e w9 ⟨v9, rfl, hv9, hb9⟩
          have HB9 := Lib.hid (Below.to HB0.out hb9 HB0.out.size)
          have HV9 := Lib.hid hv9
          have HL9 := Lib.hid (HL0.out.below hb9)
          clear hb9 h hv9
          go_wp2_with fail
          go_ret2
          exact ⟨_, rfl, HL9.out, HB9.out⟩
      · have g0 : (j == 0) = false := by simpa using h0
        have g1 : (j == 1) = false := by simp; omega
        have g2 : (j == 2) = false := by simp; omega
        have g3 : (j == 3) = false := by simpa using h3
        obtain ⟨m, e1, hr⟩ : ∃ m e1, addF l t N = (m, e1) := ⟨_, _, rfl⟩
        have h := forkAdd l _ t N W0 HL0.out HG.out (by omega)
        rw [hr] at h
        have hraw : rawF l j t N = (m, e1) := by unfold rawF; rw [if_neg h0, if_neg h1, if_neg h3, hr]
        by_cases hz : e1 = 0
        · subst hz
          have hs : stepF l j t N = (m, 0) := by rw [stepF_ok (by rw [hraw]), hraw]
          rw [hs]
          clear hs hraw hr
          go_enter Try.func24, Try.ntmps24
          go_wp2_with fail
          rw [← HW0.out]
          refine HA1.out.mono ?_
          rintro e w' ⟨rfl, rfl⟩
          go_wp2_with fail
          refine HA2.out.mono ?_
          rintro e w' ⟨rfl, rfl⟩
          go_wp2_with fail
          refine Calls.mono h ?_
          rintro e w9 ⟨v9, rfl, hv9, hb9⟩
          have HB9 := Lib.hid (Below.to HB0.out hb9 HB0.out.size)
          have HV9 := Lib.hid hv9
          have HL9 := Lib.hid (HL0.out.below hb9)
          clear hb9 h hv9
          go_wp2_with fail
          go_ret2
          exact ⟨_, rfl, HV9.out, HB9.out⟩
        · have hs : stepF l j t N = (l, e1) := by rw [stepF_err (by rw [hraw]; exact hz), hraw]
          rw [hs]
          have hzn : (e1 == 0) = false := by simpa using hz
          have hzb : (e1 != 0) = true := by simpa using hz
          clear hs hraw hr hz
          go_enter Try.func24, Try.ntmps24
          go_wp2_with fail
          rw [← HW0.out]
          refine HA1.out.mono ?_
          rintro e w' ⟨rfl, rfl⟩
          go_wp2_with fail
          refine HA2.out.mono ?_
          rintro e w' ⟨rfl, rfl⟩
          go_wp2_with fail
          refine Calls.mono h ?_
          rintro e w9 ⟨v9, rfl, hv9, hb9⟩
          have HB9 := Lib.hid (Below.to HB0.out hb9 HB0.out.size)
          have HV9 := Lib.hid hv9
          have HL9 := Lib.hid (HL0.out.below hb9)
          clear hb9 h hv9
          go_wp2_with fail
          go_ret2
          exact ⟨_, rfl, HL9.out, HB9.out⟩

end Go.Proofs.Ytgfnelpfoegdaaa
