/-
  Contract of the reference's generator Branches.
-/
import Derived.Test.YtgfnelpfoegdaaaFWh
namespace Go.Proofs.Ytgfnelpfoegdaaa
open Go.RowKit

/-- A valid record with at least one branch. -/
def Good1 (l : List Br) : Prop := Good l ∧ 1 ≤ l.length

theorem root1 {l : List Br} {n : Int} (hg : Good1 l) (h : (rootF l n).2.2 = 0) : Good1 (rootF l n).1 := by
  refine ⟨rootF_good hg.1 h, ?_⟩
  unfold rootF at h ⊢
  by_cases hn : 0 ≤ n ∧ n < 16
  · rw [if_pos hn] at h ⊢
    by_cases hf : 256 ≤ l.length
    · rw [if_pos hf] at h; cases h
    · rw [if_neg hf]; simp
  · rw [if_neg hn] at h; cases h
theorem fork1 {l : List Br} {b n : Int} (hg : Good1 l) (h : (forkF l b n).2.2 = 0) : Good1 (forkF l b n).1 := by
  refine ⟨forkF_good hg.1 h, ?_⟩
  unfold forkF at h ⊢
  split at h
  · cases h
  · rename_i h0
    rw [if_neg h0]
    split at h
    · cases h
    · rename_i x hx
      try rw [hx]
      try simp only at h ⊢
      split at h
      · cases h
      · rename_i h1
        rw [if_neg h1]
        split at h
        · cases h
        · rename_i h2
          rw [if_neg h2]
          split at h
          · cases h
          · rename_i h3
            rw [if_neg h3]
            split at h
            · cases h
            · rename_i h4
              rw [if_neg h4]
              simp
theorem add1 {l : List Br} {b ev : Int} (hg : Good1 l) (h : (addF l b ev).2 = 0) : Good1 (addF l b ev).1 := by
  refine ⟨addF_good hg.1 h, ?_⟩
  have h1 := hg.2
  unfold addF at h ⊢
  split at h
  · cases h
  · rename_i h0
    rw [if_neg h0]
    split at h
    · cases h
    · rename_i x hx
      try rw [hx]
      try simp only at h ⊢
      split at h
      · cases h
      · rename_i h1
        rw [if_neg h1]
        split at h
        · cases h
        · rename_i h2
          rw [if_neg h2]
          simpa using hg.2
theorem remand1' {l : List Br} {b : Int} (hg : Good1 l) (h : (remandF l b).2 = 0) : Good1 (remandF l b).1 := by
  refine ⟨remandF_good hg.1 h, ?_⟩
  unfold remandF at h ⊢
  split at h
  · cases h
  · rename_i h0
    rw [if_neg h0]
    split at h
    · cases h
    · rename_i x hx
      try rw [hx]
      try simp only at h ⊢
      split at h
      · cases h
      · rename_i h1
        rw [if_neg h1]
        split at h
        · cases h
        · rename_i h2
          rw [if_neg h2]
          split at h
          · cases h
          · rename_i y hy
            try rw [hy]
            try simp only at h ⊢
            split at h
            · cases h
            · rename_i h3
              rw [if_neg h3]
              simpa using hg.2

set_option maxHeartbeats 4000000 in
set_option maxRecDepth 100000 in
theorem branches_any (xs : List Int) (v : Value) (w : World) (hx : IsInts w v xs) (hw : ∀ x ∈ xs, I64 x) :
    Calls Try.prog 14 #[v] w fun e w' => ∃ v', e = .returned v' ∧ ∃ l, IsBrs w' v' l ∧ Good1 l ∧ Below w.heap.size w w' := by
  obtain ⟨ad, cap, rfl, hlen, -, hc⟩ := hx.open
  unfold maxLen at hlen
  have HX := Lib.hid hx
  have HW := Lib.hid hw
  have HC := Lib.hid hc
  have h0 := refRoot [] (.slice none 0 0) 0 w (IsBrs.nil _ _ _) (by simp) (by simp)
  have HR0 := Lib.hid (show Calls Try.prog 16 #[.slice none 0 0, .int .i64 0] w (Ret3 w ([⟨-1, 0, 0, [], true⟩], 0, 0)) from h0)
  have HG0 : Hid (Good1 [⟨-1, 0, 0, [], true⟩]) := ⟨rootF_good (l := []) (n := 0) good_nil rfl, by simp⟩
  clear hx hw hc h0
  go_enter Try.func14, Try.ntmps14
  go_wp2_with fail
  refine HR0.out.mono ?_
  rintro e w1 ⟨v1, rfl, hv1, hb1⟩
  have HV1 := Lib.hid hv1
  have HB1 := Lib.hid hb1
  clear hv1 hb1
  go_wp2_with fail
  go_loopw [3, 6] (fun a i wr => ∃ (k : Nat) (m : List Br), i = .int .i64 k ∧ k ≤ 362 ∧ IsBrs wr a m ∧ Hid (Good1 m) ∧ w.heap.size ≤ wr.heap.size ∧ Hid (Below w.heap.size w wr)) (fun _ i _ => 400 - (intOf i).toNat)
  case atStart => exact ⟨0, _, rfl, by omega, HV1.out, HG0, HB1.out.size, HB1⟩
  case round =>
    obtain ⟨k, m, rfl, hk, hm, HG, hsz, HB⟩ := hrel
    have HM := Lib.hid hm
    obtain ⟨ad2, cap2, rfl, -, -, -⟩ := hm.open
    clear hm
    by_cases hkl : (k : Int) < (xs.length : Int)
    · by_cases hk2 : (k : Int) < 360
      · have hkn : k < xs.length := by omega
        obtain ⟨bb, off, rfl, hcell0⟩ := HC.out k hkn
        have hcell : wr.cell? ⟨bb, off + k, none⟩ = some (.int .i64 xs[k]) := (HB.out.cell (World.block_lt_of_cell? _ _ hcell0)).trans hcell0
        have HXR := HX.out.below HB.out
        have HLN : Hid (m.length ≤ 1000) := (by have := HG.out.1.1; show _ ≤ _; omega)
        have hml : (1 : Int) ≤ (m.length : Int) := by have := HG.out.2; omega
        obtain ⟨a, ha⟩ : ∃ a, pick xs (k + 1) m.length = a := ⟨_, rfl⟩
        obtain ⟨c, hcc⟩ : ∃ c, pick xs (k + 2) 16 = c := ⟨_, rfl⟩
        obtain ⟨j, hj⟩ : ∃ j, around xs[k] 10 = j := ⟨_, rfl⟩
        have hp1 := pick_any xs _ (k + 1) m.length wr HXR HW.out (by omega) hml
        have hp2 := pick_any xs _ (k + 2) 16 wr HXR HW.out (by omega) (by omega)
        have har := around_any xs[k] 10 (HW.out _ (List.getElem_mem hkn)) (by omega) wr
        rw [ha] at hp1
        rw [hcc] at hp2
        rw [hj] at har
        have hc0 : 0 ≤ c ∧ c < 16 := by
          rw [← hcc]; unfold pick
          split
          · exact ⟨around_lo _ _ (by omega), around_hi _ _ (by omega)⟩
          · omega
        obtain ⟨hc1, hc2⟩ := hc0
        have HP1 := Lib.hid (show Calls Try.prog 43 #[.slice (some ⟨bb, off, none⟩) xs.length cap, .int .i64 ((k : Int) + 1), .int .i64 m.length] wr fun e w' => e = .returned (.int .i64 a) ∧ wr = w' from hp1)
        have HP2 := Lib.hid (show Calls Try.prog 43 #[.slice (some ⟨bb, off, none⟩) xs.length cap, .int .i64 ((k : Int) + 2), .int .i64 16] wr fun e w' => e = .returned (.int .i64 c) ∧ wr = w' from hp2)
        have HAR := Lib.hid har
        clear hp1 hp2 har ha hcc hj hcell0 HXR
        generalize xs[k] = xk at *
        clear hkn
        by_cases hj0 : j = 0
        · skip
          subst hj0
          by_cases hz : (rootF m c).2.2 = 0
          · have HN : Hid (Good1 (rootF m c).1) := root1 HG.out hz
            have hz' : ((rootF m c).2.2 == 0) = true := by simpa using hz
            clear hz
            go_wp2_with fail
            refine HP1.out.mono ?_
            rintro e w' ⟨rfl, rfl⟩
            go_wp2_with fail
            refine HP2.out.mono ?_
            rintro e w' ⟨rfl, rfl⟩
            go_wp2_with fail
            refine HAR.out.mono ?_
            rintro e w' ⟨rfl, rfl⟩
            go_wp2_with fail
            refine (refRoot m _ c wr HM.out HLN.out HG.out.1.owns).mono ?_
            rintro e w9 ⟨v9, rfl, hv9, hb9⟩
            have HB9 := Lib.hid (Below.to HB.out hb9 hsz)
            go_wp2_with fail
            go_roundw
            case rel => exact ⟨k + 3, _, by go_num, by omega, hv9, HN, HB9.out.size, HB9⟩
            case measure => simp [intOf]; omega
          · have hz' : ((rootF m c).2.2 == 0) = false := by simpa using hz
            clear hz
            go_wp2_with fail
            refine HP1.out.mono ?_
            rintro e w' ⟨rfl, rfl⟩
            go_wp2_with fail
            refine HP2.out.mono ?_
            rintro e w' ⟨rfl, rfl⟩
            go_wp2_with fail
            refine HAR.out.mono ?_
            rintro e w' ⟨rfl, rfl⟩
            go_wp2_with fail
            refine (refRoot m _ c wr HM.out HLN.out HG.out.1.owns).mono ?_
            rintro e w9 ⟨v9, rfl, hv9, hb9⟩
            have HB9 := Lib.hid (Below.to HB.out hb9 hsz)
            go_wp2_with fail
            go_roundw
            case rel => exact ⟨k + 3, m, by go_num, by omega, HM.out.below hb9, HG, HB9.out.size, HB9⟩
            case measure => simp [intOf]; omega
        · by_cases hj1 : j = 1 ∨ j = 2
          · rcases hj1 with hj1 | hj1
            · subst hj1
              by_cases hz : (forkF m a c).2.2 = 0
              · have HN : Hid (Good1 (forkF m a c).1) := fork1 HG.out hz
                have hz' : ((forkF m a c).2.2 == 0) = true := by simpa using hz
                clear hz
                go_wp2_with fail
                refine HP1.out.mono ?_
                rintro e w' ⟨rfl, rfl⟩
                go_wp2_with fail
                refine HP2.out.mono ?_
                rintro e w' ⟨rfl, rfl⟩
                go_wp2_with fail
                refine HAR.out.mono ?_
                rintro e w' ⟨rfl, rfl⟩
                go_wp2_with fail
                refine (refFork m _ a c wr HM.out HG.out.1).mono ?_
                rintro e w9 ⟨v9, rfl, hv9, hb9⟩
                have HB9 := Lib.hid (Below.to HB.out hb9 hsz)
                go_wp2_with fail
                go_roundw
                case rel => exact ⟨k + 3, _, by go_num, by omega, hv9, HN, HB9.out.size, HB9⟩
                case measure => simp [intOf]; omega
              · have hz' : ((forkF m a c).2.2 == 0) = false := by simpa using hz
                clear hz
                go_wp2_with fail
                refine HP1.out.mono ?_
                rintro e w' ⟨rfl, rfl⟩
                go_wp2_with fail
                refine HP2.out.mono ?_
                rintro e w' ⟨rfl, rfl⟩
                go_wp2_with fail
                refine HAR.out.mono ?_
                rintro e w' ⟨rfl, rfl⟩
                go_wp2_with fail
                refine (refFork m _ a c wr HM.out HG.out.1).mono ?_
                rintro e w9 ⟨v9, rfl, hv9, hb9⟩
                have HB9 := Lib.hid (Below.to HB.out hb9 hsz)
                go_wp2_with fail
                go_roundw
                case rel => exact ⟨k + 3, m, by go_num, by omega, HM.out.below hb9, HG, HB9.out.size, HB9⟩
                case measure => simp [intOf]; omega
            · subst hj1
              by_cases hz : (forkF m a c).2.2 = 0
              · have HN : Hid (Good1 (forkF m a c).1) := fork1 HG.out hz
                have hz' : ((forkF m a c).2.2 == 0) = true := by simpa using hz
                clear hz
                go_wp2_with fail
                refine HP1.out.mono ?_
                rintro e w' ⟨rfl, rfl⟩
                go_wp2_with fail
                refine HP2.out.mono ?_
                rintro e w' ⟨rfl, rfl⟩
                go_wp2_with fail
                refine HAR.out.mono ?_
                rintro e w' ⟨rfl, rfl⟩
                go_wp2_with fail
                refine (refFork m _ a c wr HM.out HG.out.1).mono ?_
                rintro e w9 ⟨v9, rfl, hv9, hb9⟩
                have HB9 := Lib.hid (Below.to HB.out hb9 hsz)
                go_wp2_with fail
                go_roundw
                case rel => exact ⟨k + 3, _, by go_num, by omega, hv9, HN, HB9.out.size, HB9⟩
                case measure => simp [intOf]; omega
              · have hz' : ((forkF m a c).2.2 == 0) = false := by simpa using hz
                clear hz
                go_wp2_with fail
                refine HP1.out.mono ?_
                rintro e w' ⟨rfl, rfl⟩
                go_wp2_with fail
                refine HP2.out.mono ?_
                rintro e w' ⟨rfl, rfl⟩
                go_wp2_with fail
                refine HAR.out.mono ?_
                rintro e w' ⟨rfl, rfl⟩
                go_wp2_with fail
                refine (refFork m _ a c wr HM.out HG.out.1).mono ?_
                rintro e w9 ⟨v9, rfl, hv9, hb9⟩
                have HB9 := Lib.hid (Below.to HB.out hb9 hsz)
                go_wp2_with fail
                go_roundw
                case rel => exact ⟨k + 3, m, by go_num, by omega, HM.out.below hb9, HG, HB9.out.size, HB9⟩
                case measure => simp [intOf]; omega
          · by_cases hj3 : j = 3
            · skip
              subst hj3
              by_cases hz : (remandF m a).2 = 0
              · have HN : Hid (Good1 (remandF m a).1) := remand1' HG.out hz
                have hz' : ((remandF m a).2 == 0) = true := by simpa using hz
                clear hz
                go_wp2_with fail
                refine HP1.out.mono ?_
                rintro e w' ⟨rfl, rfl⟩
                go_wp2_with fail
                refine HP2.out.mono ?_
                rintro e w' ⟨rfl, rfl⟩
                go_wp2_with fail
                refine HAR.out.mono ?_
                rintro e w' ⟨rfl, rfl⟩
                go_wp2_with fail
                refine (refRemand m _ a wr HM.out HG.out.1).mono ?_
                rintro e w9 ⟨v9, rfl, hv9, hb9⟩
                have HB9 := Lib.hid (Below.to HB.out hb9 hsz)
                go_wp2_with fail
                go_roundw
                case rel => exact ⟨k + 3, _, by go_num, by omega, hv9, HN, HB9.out.size, HB9⟩
                case measure => simp [intOf]; omega
              · have hz' : ((remandF m a).2 == 0) = false := by simpa using hz
                clear hz
                go_wp2_with fail
                refine HP1.out.mono ?_
                rintro e w' ⟨rfl, rfl⟩
                go_wp2_with fail
                refine HP2.out.mono ?_
                rintro e w' ⟨rfl, rfl⟩
                go_wp2_with fail
                refine HAR.out.mono ?_
                rintro e w' ⟨rfl, rfl⟩
                go_wp2_with fail
                refine (refRemand m _ a wr HM.out HG.out.1).mono ?_
                rintro e w9 ⟨v9, rfl, hv9, hb9⟩
                have HB9 := Lib.hid (Below.to HB.out hb9 hsz)
                go_wp2_with fail
                go_roundw
                case rel => exact ⟨k + 3, m, by go_num, by omega, HM.out.below hb9, HG, HB9.out.size, HB9⟩
                case measure => simp [intOf]; omega
            · have e0 : (j == 0) = false := by simpa using hj0
              have e1 : (j == 1) = false := by simp; omega
              have e2 : (j == 2) = false := by simp; omega
              have e3 : (j == 3) = false := by simpa using hj3
              have q1 : IntKind.i64.wrap (100 * (k : Int)) = 100 * (k : Int) := by rw [IntKind.wrap_i64]; omega
              have q2 : IntKind.i64.wrap (100 * (k : Int) + c) = 100 * (k : Int) + c := by rw [IntKind.wrap_i64]; omega
              clear hj0 hj1 hj3
              by_cases hz : (addF m a (100 * (k : Int) + c)).2 = 0
              · have HN : Hid (Good1 (addF m a (100 * (k : Int) + c)).1) := add1 HG.out hz
                have hz' : ((addF m a (100 * (k : Int) + c)).2 == 0) = true := by simpa using hz
                clear hz
                go_wp2_with fail
                refine HP1.out.mono ?_
                rintro e w' ⟨rfl, rfl⟩
                go_wp2_with fail
                refine HP2.out.mono ?_
                rintro e w' ⟨rfl, rfl⟩
                go_wp2_with fail
                refine HAR.out.mono ?_
                rintro e w' ⟨rfl, rfl⟩
                go_wp2_with fail
                refine (refAdd m _ a (100 * (k : Int) + c) wr HM.out HG.out.1).mono ?_
                rintro e w9 ⟨v9, rfl, hv9, hb9⟩
                have HB9 := Lib.hid (Below.to HB.out hb9 hsz)
                go_wp2_with fail
                go_roundw
                case rel => exact ⟨k + 3, _, by go_num, by omega, hv9, HN, HB9.out.size, HB9⟩
                case measure => simp [intOf]; omega
              · have hz' : ((addF m a (100 * (k : Int) + c)).2 == 0) = false := by simpa using hz
                clear hz
                go_wp2_with fail
                refine HP1.out.mono ?_
                rintro e w' ⟨rfl, rfl⟩
                go_wp2_with fail
                refine HP2.out.mono ?_
                rintro e w' ⟨rfl, rfl⟩
                go_wp2_with fail
                refine HAR.out.mono ?_
                rintro e w' ⟨rfl, rfl⟩
                go_wp2_with fail
                refine (refAdd m _ a (100 * (k : Int) + c) wr HM.out HG.out.1).mono ?_
                rintro e w9 ⟨v9, rfl, hv9, hb9⟩
                have HB9 := Lib.hid (Below.to HB.out hb9 hsz)
                go_wp2_with fail
                go_roundw
                case rel => exact ⟨k + 3, m, by go_num, by omega, HM.out.below hb9, HG, HB9.out.size, HB9⟩
                case measure => simp [intOf]; omega
      · go_wp2_with fail
        go_ret
        exact ⟨_, rfl, m, HM.out, HG.out, HB.out⟩
    · go_wp2_with fail
      go_ret
      exact ⟨_, rfl, m, HM.out, HG.out, HB.out⟩

end Go.Proofs.Ytgfnelpfoegdaaa
