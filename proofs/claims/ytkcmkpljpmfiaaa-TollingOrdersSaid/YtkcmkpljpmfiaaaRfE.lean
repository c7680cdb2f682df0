/-
  The reference's Days, Extend and Used.
-/
import Derived.Test.YtkcmkpljpmfiaaaRfM
namespace Go.Proofs.Ytkcmkpljpmfiaaa
open Go.RowKit

/-- All days of the list are days of the range. -/
def InR (l : List (Int × Int)) : Prop := ∀ s ∈ l, 0 ≤ s.1 ∧ s.1 ≤ s.2 ∧ s.2 ≤ 3652058
theorem InR.val {l : List (Int × Int)} (h : InR l) : ValSp l := fun s hs => (h s hs).2.1
theorem InR.B {l : List (Int × Int)} (h : InR l) : SpB l := fun s hs => by have := h s hs; omega
theorem InR.lo {l : List (Int × Int)} (h : InR l) : ∀ s ∈ l, 0 ≤ s.1 := fun s hs => (h s hs).1
theorem InR.mrg {l : List (Int × Int)} (h : InR l) : InR (mrg l) := fun s hs => by
  have h1 := mrg_in h.val (lo := 0) (hi := 3652058) (fun t ht => ⟨(h t ht).1, (h t ht).2.2⟩) s hs
  have h2 := (mrg_law h.val).1 s hs
  omega

set_option maxHeartbeats 2000000 in
set_option maxRecDepth 100000 in
theorem refDays_any (l : List (Int × Int)) (v : Value) (f u : Int) (w : World) (hx : IsSps w v l) (hl : l.length ≤ 100000) (hr : InR l) (hf : DayB f) (hu : DayB u) :
    Calls Try.prog 20 #[v, .int .i64 f, .int .i64 u] w fun e w' => e = .returned (.int .i64 (daysF f u (mrg l))) ∧ Below w.heap.size w w' := by
  have HM := Lib.hid (refMerge_any l v w hx hl hr.B hr.val hr.lo)
  have HMB := Lib.hid hr.mrg.B
  have hml : (mrg l).length ≤ 100000 := Nat.le_trans (mrg_len l) hl
  unfold DayB at hf hu
  obtain ⟨hf1, hf2⟩ := hf
  obtain ⟨hu1, hu2⟩ := hu
  clear hx hr
  generalize mrg l = m at *
  go_enter Try.func20, Try.ntmps20
  go_wp2_with fail
  refine HM.out.mono ?_
  rintro e w1 ⟨v1, rfl, hv1, hb1⟩
  have HB1 := Lib.hid hb1
  have HV1 := Lib.hid hv1
  obtain ⟨a1, c1, rfl, -, -, -⟩ := hv1.open
  clear hb1 hv1 HM
  go_wp2_with fail
  go_loopw [8, 9] (fun a i wr => ∃ (k : Nat) (n : Int), a = .int .i64 n ∧ i = .int .i64 k ∧ k ≤ m.length ∧ 0 ≤ n ∧ n ≤ 4000000000000 * (k : Int) ∧ Hid (n = daysF f u (m.take k)) ∧ w1.heap.size ≤ wr.heap.size ∧ Hid (Below w1.heap.size w1 wr)) (fun _ i _ => m.length - (intOf i).toNat)
  case atStart => exact ⟨0, 0, rfl, rfl, Nat.zero_le _, by omega, by omega, Lib.hid rfl, Nat.le_refl _, Lib.hid (Below.refl _ _)⟩
  case round =>
    obtain ⟨k, n, rfl, rfl, hk, hn0, hnk, HN, hsz, HBR⟩ := hrel
    by_cases hkl : k < m.length
    · obtain ⟨b5, o5, q5, e5, hlt5, c0, c1'⟩ := (HV1.out.below HBR.out).at hkl
      simp only [Value.slice.injEq, true_and] at e5
      obtain ⟨rfl, -⟩ := e5
      have hsB := HMB.out m[k] (List.getElem_mem hkl)
      have HT : Hid (daysF f u (m.take (k + 1)) = n + dayOf f u m[k]) := by show _ = _; rw [daysF_take hkl, HN.out]
      generalize m[k] = s at *
      obtain ⟨s1, s2⟩ := s
      simp only at c0 c1' hsB
      obtain ⟨hs1a, hs1b, hs2a, hs2b⟩ := hsB
      have q1 : IntKind.i64.wrap (min s2 u - max s1 f) = min s2 u - max s1 f := by rw [IntKind.wrap_i64]; omega
      have q2 : IntKind.i64.wrap (min s2 u - max s1 f + 1) = min s2 u - max s1 f + 1 := by rw [IntKind.wrap_i64]; omega
      have q3 : IntKind.i64.wrap (n + max 0 (min s2 u - max s1 f + 1)) = n + max 0 (min s2 u - max s1 f + 1) := by rw [IntKind.wrap_i64]; omega
      have HT2 : Hid (n + max 0 (min s2 u - max s1 f + 1) = daysF f u (m.take (k + 1))) := HT.out.symm
      clear HN HT
      go_wp2_with fail
      go_quiet (fail)
      all_goals
        have HB9 := Lib.hid (below_drewN HBR.out nq)
        have hs9 := HB9.out.size
        go_wp2_with fail
        go_roundw
        case rel => exact ⟨k + 1, n + max 0 (min s2 u - max s1 f + 1), rfl, by go_num, by omega, by omega, by omega, HT2, hs9, HB9⟩
        case measure => simp [intOf]; omega
    · obtain rfl : k = m.length := by omega
      have HF : Hid (n = daysF f u m) := by
        show _ = _
        rw [HN.out, List.take_length]
      have HB9 := Lib.hid (Below.to HB1.out HBR.out HB1.out.size)
      clear HN HBR
      go_wp2_with fail
      go_ret
      exact ⟨ret_int HF.out, HB9.out⟩

theorem rx_less {m : List (Int × Int)} {G d left : Int} {j : Nat} (h : Rx m G d left j) (hj : j < m.length) : cntU m m[j].2 < cntU m d := by
  have h1 := h.behind j hj (Nat.le_refl _)
  exact cnt_lt (fun t _ h => by simp at h ⊢; omega) ⟨m[j], List.getElem_mem hj, by simpa using h1, by simp⟩

set_option maxHeartbeats 4000000 in
set_option maxRecDepth 100000 in
theorem refExtend_any (l : List (Int × Int)) (v : Value) (st due : Int) (w : World) (hx : IsSps w v l) (hl : l.length ≤ 100000) (hr : InR l) (hst : 0 ≤ st ∧ st ≤ 3652058) (hdue : 0 ≤ due ∧ due ≤ 3652058) :
    Calls Try.prog 23 #[.int .i64 st, .int .i64 due, v] w fun e w' => e = .returned (.tuple #[.int .i64 (extF st due (mrg l)).1, .int .i64 (extF st due (mrg l)).2]) ∧ Below w.heap.size w w' := by
  have HM := Lib.hid (refMerge_any l v w hx hl hr.B hr.val hr.lo)
  have HR := Lib.hid hr.mrg
  have HAP := Lib.hid (mrg_law hr.val).2.1
  have hml : (mrg l).length ≤ 100000 := Nat.le_trans (mrg_len l) hl
  obtain ⟨hst1, hst2⟩ := hst
  obtain ⟨hdue1, hdue2⟩ := hdue
  clear hx hr
  generalize mrg l = m at *
  by_cases hle : due ≤ st
  · have HF : Hid (extF st due m = (due, 0)) := by show _ = _; unfold extF; rw [if_pos hle]
    go_enter Try.func23, Try.ntmps23
    go_wp2_with fail
    go_ret2
    exact ⟨by rw [HF.out]; rfl, Below.refl _ _⟩
  · have hlt : st < due := by omega
    obtain ⟨G, hG⟩ : ∃ G, extGo st due m = G := ⟨_, rfl⟩
    obtain ⟨j0, hj0, hrx0⟩ := Rx.start HR.out.val HAP.out hlt
    rw [hG] at hrx0
    have HRX0 := Lib.hid hrx0
    have HFO : Hid (G ≤ 3652058 → extF st due m = (G, 0)) := fun h => by unfold extF; rw [if_neg hle, hG, if_neg (by omega)]
    have HFN : Hid (3652058 < G → extF st due m = (0, 31)) := fun h => by unfold extF; rw [if_neg hle, hG, if_pos h]
    have hws : IntKind.i64.wrap (due - st) = due - st := by rw [IntKind.wrap_i64]; omega
    clear hle hG hrx0
    go_enter Try.func23, Try.ntmps23
    go_wp2_with fail
    refine HM.out.mono ?_
    rintro e w1 ⟨v1, rfl, hv1, hb1⟩
    have HB1 := Lib.hid hb1
    have HV1 := Lib.hid hv1
    obtain ⟨a1, c1, rfl, -, -, -⟩ := hv1.open
    clear hb1 hv1 HM
    go_wp2_with fail
    go_loop [9, 10] (fun a b => ∃ (j : Nat) (d left : Int), a = .int .i64 d ∧ b = .int .i64 left ∧ j ≤ m.length ∧ 0 ≤ d ∧ d ≤ 3652058 ∧ 0 ≤ left ∧ left ≤ 3652058 ∧ Hid (0 < left → Rx m G d left j) ∧ Hid (left = 0 → d = G ∧ G ≤ 3652058)) (fun a b => if intOf b = 0 then 0 else cntU m (intOf a) + 1)
    case atStart => exact ⟨j0, st, due - st, rfl, rfl, hj0, by omega, by omega, by omega, by omega, Lib.hid (fun _ => HRX0.out), Lib.hid (fun h => by omega)⟩
    case round =>
      obtain ⟨j, d, left, rfl, rfl, hj, hd0, hd1, hl0, hl1, HRX, HEND⟩ := hrel
      by_cases hleft : 0 < left
      · have HX := Lib.hid (HRX.out hleft)
        clear HRX HEND
        have hwl : IntKind.i64.wrap ((m.length : Int) - 1) = (m.length : Int) - 1 := by rw [IntKind.wrap_i64]; omega
        go_wp2_with fail
        go_loop [11, 12, 13] (fun a b i => ∃ (k : Nat) (N U t : Int), a = .int .i64 N ∧ b = .int .i64 U ∧ i = .int .i64 t ∧ t = (k : Int) - 1 ∧ k ≤ m.length ∧ Hid (N = rxNext m d (max k j) ∧ U = rxUntil m (max k j))) (fun _ _ i => (intOf i + 1).toNat)
        case atStart => exact ⟨m.length, 3652059, 3652059, (m.length : Int) - 1, rfl, rfl, by first | rfl | go_num, rfl, Nat.le_refl _, Lib.hid (by rw [Nat.max_eq_left hj, rxNext_end (Nat.le_refl _), rxUntil_end (Nat.le_refl _)]; exact ⟨rfl, rfl⟩)⟩
        case round =>
          obtain ⟨k, N, U, t, rfl, rfl, rfl, ht, hk, HNU⟩ := hrel
          cases k with
          | succ k =>
            obtain rfl : t = (k : Int) := by omega
            have hkl : k < m.length := by omega
            obtain ⟨b5, o5, q5, e5, -, d0, d1⟩ := HV1.out.at hkl
            simp only [Value.slice.injEq, true_and] at e5
            obtain ⟨rfl, -⟩ := e5
            have hwd : IntKind.i64.wrap (d + 1) = d + 1 := by rw [IntKind.wrap_i64]; omega
            by_cases hjk : j ≤ k
            · have hgt := HX.out.behind k hkl hjk
              have HN : Hid (max m[k].1 (d + 1) = rxNext m d (max k j) ∧ m[k].2 = rxUntil m (max k j)) := by
                show _ ∧ _
                rw [Nat.max_eq_left hjk, rxNext_at hkl, rxUntil_at hkl]
                exact ⟨rfl, rfl⟩
              generalize m[k] = s at *
              obtain ⟨s1, s2⟩ := s
              simp only at d0 d1 hgt HN
              clear HNU ht
              go_wp2_with fail
              go_round
              case rel => exact ⟨k, max s1 (d + 1), s2, (k : Int) - 1, rfl, rfl, by first | rfl | go_num, rfl, by omega, HN⟩
              case measure => first | (simp [intOf]; done) | (simp [intOf]; omega)
            · have hle := HX.out.before k hkl (by omega)
              have HN : Hid (N = rxNext m d (max k j) ∧ U = rxUntil m (max k j)) := by
                have h := HNU.out
                rw [Nat.max_eq_right (by omega : k + 1 ≤ j)] at h
                show _ ∧ _
                rw [Nat.max_eq_right (by omega : k ≤ j)]
                exact h
              generalize m[k] = s at *
              obtain ⟨s1, s2⟩ := s
              simp only at d0 d1 hle
              clear HNU ht
              go_wp2_with fail
              go_round
              case rel => exact ⟨k, N, U, (k : Int) - 1, rfl, rfl, by first | rfl | go_num, rfl, by omega, HN⟩
              case measure => first | (simp [intOf]; done) | (simp [intOf]; omega)
          | zero =>
            obtain rfl : t = -1 := by omega
            have hnu := HNU.out
            rw [Nat.zero_max] at hnu
            clear HNU ht
            have HB9 := Lib.hid HB1.out
            by_cases hjl : j < m.length
            · have hsR := HR.out m[j] (List.getElem_mem hjl)
              have hgt := HX.out.behind j hjl (Nat.le_refl _)
              rw [rxNext_at hjl, rxUntil_at hjl] at hnu
              have HSTOP := Lib.hid (fun h => HX.out.stop hjl h)
              have HSTEP := Lib.hid (fun h => HX.out.step HR.out.val HAP.out hjl h)
              have HLESS := Lib.hid (rx_less HX.out hjl)
              generalize m[j] = s at *
              obtain ⟨s1, s2⟩ := s
              simp only at hsR hgt hnu HSTOP HSTEP HLESS
              obtain ⟨hs1, hs2, hs3⟩ := hsR
              obtain ⟨hN, hUe⟩ := hnu
              have hUe := hUe.symm
              subst hUe
              rw [← hN] at HSTOP HSTEP
              have hN1 : d + 1 ≤ N := by omega
              have hN2 : N ≤ 3652060 := by omega
              have hN3 : N = d + 1 ∨ N ≤ 3652058 := by omega
              have w1' : IntKind.i64.wrap (N - 1) = N - 1 := by rw [IntKind.wrap_i64]; omega
              have w2' : IntKind.i64.wrap (N - 1 - d) = N - 1 - d := by rw [IntKind.wrap_i64]; omega
              clear hN HX
              by_cases hc : left ≤ N - 1 - d
              · have HG := Lib.hid (HSTOP.out hc)
                have m1 : min left (N - 1 - d) = left := by omega
                have w3' : IntKind.i64.wrap (d + left) = d + left := by rw [IntKind.wrap_i64]; omega
                have hdl : d + left ≤ 3652058 := by omega
                clear HSTOP HSTEP
                go_wp2_with fail
                go_round
                case rel => exact ⟨j, d + left, 0, rfl, rfl, by omega, by omega, by omega, by omega, by omega, Lib.hid (fun h => by omega), Lib.hid (fun _ => ⟨HG.out.symm, by rw [HG.out]; omega⟩)⟩
                case measure => (have hne : left ≠ 0 := by omega); simp [intOf, hne]
              · have HX2 := Lib.hid (HSTEP.out (by omega))
                have m1 : min left (N - 1 - d) = N - 1 - d := by omega
                have w3' : IntKind.i64.wrap (d + (N - 1 - d)) = d + (N - 1 - d) := by rw [IntKind.wrap_i64]; omega
                have w4' : IntKind.i64.wrap (left - (N - 1 - d)) = left - (N - 1 - d) := by rw [IntKind.wrap_i64]; omega
                have hlp : 0 < left - (N - 1 - d) := by omega
                clear HSTOP HSTEP hc
                by_cases hend : s2 = 3652058
                · have hbig : 3652058 < G := by
                    rw [HX2.out.go]
                    have := ext_from (st := s2) (m.drop (j + 1)) (s2 + (left - (N - 1 - d)))
                    omega
                  have HFF := Lib.hid (HFN.out hbig)
                  subst hend
                  clear HX2
                  go_wp2_with fail
                  go_ret2
                  exact ⟨by rw [HFF.out]; rfl, HB1.out⟩
                · have hend2 : s2 < 3652058 := by omega
                  clear hend
                  go_wp2_with fail
                  go_round
                  case rel => exact ⟨j + 1, s2, left - (N - 1 - d), rfl, rfl, by omega, by omega, by omega, by omega, by omega, Lib.hid (fun _ => HX2.out), Lib.hid (fun h => by omega)⟩
                  case measure =>
                    have hn1 : left - (N - 1 - d) ≠ 0 := by omega
                    have hn2 : left ≠ 0 := by omega
                    have hn3 : ¬ left = N - 1 - d := by omega
                    have hls := HLESS.out
                    show (if left - (N - 1 - d) = 0 then 0 else cntU m s2 + 1) < (if left = 0 then 0 else cntU m d + 1)
                    rw [if_neg hn1, if_neg hn2]
                    omega
            · have hjl2 : m.length ≤ j := by omega
              rw [rxNext_end hjl2, rxUntil_end hjl2] at hnu
              obtain ⟨rfl, rfl⟩ := hnu
              have HG := Lib.hid (HX.out.last hjl2)
              have w2' : IntKind.i64.wrap (3652058 - d) = 3652058 - d := by rw [IntKind.wrap_i64]; omega
              clear HX hjl
              by_cases hc : left ≤ 3652058 - d
              · have m1 : min left (3652058 - d) = left := by omega
                have w3' : IntKind.i64.wrap (d + left) = d + left := by rw [IntKind.wrap_i64]; omega
                have hdl : d + left ≤ 3652058 := by omega
                go_wp2_with fail
                go_round
                case rel => exact ⟨j, d + left, 0, rfl, rfl, by omega, by omega, by omega, by omega, by omega, Lib.hid (fun h => by omega), Lib.hid (fun _ => ⟨HG.out.symm, by rw [HG.out]; omega⟩)⟩
                case measure => (have hne : left ≠ 0 := by omega); simp [intOf, hne]
              · have m1 : min left (3652058 - d) = 3652058 - d := by omega
                have w3' : IntKind.i64.wrap (d + (3652058 - d)) = d + (3652058 - d) := by rw [IntKind.wrap_i64]; omega
                have w4' : IntKind.i64.wrap (left - (3652058 - d)) = left - (3652058 - d) := by rw [IntKind.wrap_i64]; omega
                have hlp : 0 < left - (3652058 - d) := by omega
                have hbig : 3652058 < G := by rw [HG.out]; omega
                have HFF := Lib.hid (HFN.out hbig)
                clear HG
                go_wp2_with fail
                go_ret2
                exact ⟨by rw [HFF.out]; rfl, HB1.out⟩
      · obtain rfl : left = 0 := by omega
        obtain ⟨rfl, hle⟩ := HEND.out rfl
        have HFF := Lib.hid (HFO.out hle)
        clear HRX HEND
        go_wp2_with fail
        go_ret2
        exact ⟨by rw [HFF.out]; rfl, HB1.out⟩


set_option maxHeartbeats 4000000 in
set_option maxRecDepth 100000 in
theorem refUsed_any (l : List (Int × Int)) (v : Value) (st due : Int) (w : World) (hx : IsSps w v l) (hl : l.length ≤ 100000) (hr : InR l) (hst : 0 ≤ st ∧ st ≤ 3652058) (hdue : 0 ≤ due ∧ due ≤ 3652058) :
    Calls Try.prog 25 #[.int .i64 st, .int .i64 due, v] w fun e w' => ∃ v', e = .returned v' ∧ IsSps w' v' (usedF st due (mrg l) l) ∧ Below w.heap.size w w' := by
  have HE := Lib.hid (refExtend_any l v st due w hx hl hr hst hdue)
  have HX := Lib.hid hx
  obtain ⟨a0, c0, rfl, -, -, -⟩ := hx.open
  generalize mrg l = m at *
  clear hx hst hdue hr
  by_cases hle : due ≤ st
  · have HF : Hid (extF st due m = (due, 0)) := by show _ = _; unfold extF; rw [if_pos hle]
    have HG : Hid (usedF st due m l = []) := by show _ = _; unfold usedF; rw [if_pos hle]
    rw [HF.out] at HE
    clear HF
    go_enter Try.func25, Try.ntmps25
    go_wp2_with fail
    refine HE.out.mono ?_
    rintro e w1 ⟨rfl, hb1⟩
    have HB1 := Lib.hid hb1
    clear hb1 HE HX
    go_wp2_with fail
    go_loop [9, 10] (fun a i => ∃ (k : Nat), a = .slice none 0 0 ∧ i = .int .i64 k ∧ k ≤ l.length) (fun _ i => l.length - (intOf i).toNat)
    case atStart => exact ⟨0, rfl, rfl, Nat.zero_le _⟩
    case round =>
      obtain ⟨k, rfl, rfl, hk⟩ := hrel
      by_cases hkl : k < l.length
      · go_wp2_with fail
        go_round
        case rel => exact ⟨k + 1, rfl, by go_num, by omega⟩
        case measure => simp [intOf]; omega
      · obtain rfl : k = l.length := by omega
        go_wp2_with fail
        go_ret
        exact ⟨_, rfl, by rw [HG.out]; exact IsSps.nil _ _ _, HB1.out⟩
  · have hlt : st < due := by omega
    have HU : Hid (usedF st due m l = l.filter (usedP st (endF (extF st due m)))) := by show _ = _; unfold usedF; rw [if_neg hle]
    obtain ⟨x, y, hxy⟩ : ∃ x y, extF st due m = (x, y) := ⟨_, _, rfl⟩
    rw [hxy] at HU HE
    simp only at HE
    clear hxy hle
    by_cases hy : y = 0
    · subst hy
      have HG : Hid (usedF st due m l = l.filter (usedP st x)) := by have h := HU.out; rw [show endF (x, 0) = x from rfl] at h; exact h
      clear HU
      go_enter Try.func25, Try.ntmps25
      go_wp2_with fail
      refine HE.out.mono ?_
      rintro e w1 ⟨rfl, hb1⟩
      have HB1 := Lib.hid hb1
      have HX1 := Lib.hid (HX.out.below hb1)
      clear hb1 HE HX
      go_wp2_with fail
      go_loopw [9, 10] (fun a i wr => ∃ (k : Nat) (v9 : Value) (out : List (Int × Int)), v9 = a ∧ i = .int .i64 k ∧ k ≤ l.length ∧ out.length ≤ k ∧ Hid (out = (l.take k).filter (usedP st x)) ∧ Hid (wr.ownsRow w1.heap.size 40 2 v9 out.length (spCells out)) ∧ w1.heap.size ≤ wr.heap.size ∧ Hid (Below w1.heap.size w1 wr)) (fun _ i _ => l.length - (intOf i).toNat)
      case atStart => exact ⟨0, _, [], rfl, rfl, Nat.zero_le _, Nat.le_refl _, Lib.hid rfl, Lib.hid (World.ownsRow_nil _ _ _ _), Nat.le_refl _, Lib.hid (Below.refl _ _)⟩
      case round =>
        obtain ⟨k, v9, out, rfl, rfl, hk, hok, HOUT, HOW, hsz, HBR⟩ := hrel
        by_cases hkl : k < l.length
        · obtain ⟨b5, o5, q5, e5, hlt5, d0, d1⟩ := (HX1.out.below HBR.out).at hkl
          simp only [Value.slice.injEq, true_and] at e5
          obtain ⟨rfl, -⟩ := e5
          have HT := filter_take (p := usedP st x) hkl
          rw [← HOUT.out] at HT
          have HTT := Lib.hid HT
          generalize l[k] = s at *
          obtain ⟨s1, s2⟩ := s
          simp only at d0 d1
          obtain ⟨av, cv, rfl, -, -⟩ := owns_slice HOW.out
          clear HT HOUT
          by_cases hin : st < s2 ∧ s1 ≤ x
          · obtain ⟨hi1, hi2⟩ := hin
            have HO9k : Hid (out ++ [(s1, s2)] = (l.take (k + 1)).filter (usedP st x)) := by
              show _ = _
              rw [HTT.out, if_pos (by simp [usedP, hi1, hi2])]
            clear HTT
            have HLIT : Hid (∀ W : World, Rd (W.alloc (.cells (litSp (s1, s2)) 40)) (.slice (some ⟨W.heap.size, 0, none⟩) 1 1) 2 1 (spRow (s1, s2))) := fun W => Rd.lit W (litSp (s1, s2)) 40 2 1 rfl (by unfold maxLen; omega)
            go_wp2_with (at_builtin; go_must (refine wpList_append_rd rfl _ _ 24 rfl w1.heap.size 40 _ 2 16 Try.underlying24 infoSp rfl (by decide) (.slice av out.length cv) out.length (spCells out) rfl (owns_below HOW.out ?hb) _ 1 (spRow (s1, s2)) rfl (HLIT.out _) (spCells_one [(s1, s2)]) ?b1 ?b2 ?b3 ?_))
            case hb => exact (Below.refl _ _).alloc (Nat.le_refl _) _
            case b1 => unfold maxLen; omega
            case b2 => omega
            case b3 => simp; omega
            intro v8 w8 hv8 hg8
            have HB8 : Hid (Below w1.heap.size w1 w8) := below_append (Below.to HBR.out ((Below.refl _ _).alloc (Nat.le_refl _) _) hsz) (owns_below HOW.out ((Below.refl _ _).alloc (Nat.le_refl _) _)) hg8 (by simp; omega)
            have HO8 : Hid (w8.ownsRow w1.heap.size 40 2 v8 (out ++ [(s1, s2)]).length (spCells (out ++ [(s1, s2)]))) := by
              show World.ownsRow _ _ _ _ _ _ _
              rw [spCells_append, spCells_single]
              simpa using hv8
            have hs8 := HB8.out.size
            clear hv8 hg8
            go_wp2_with fail
            go_roundw
            case rel => exact ⟨k + 1, _, out ++ [(s1, s2)], rfl, by go_num, by omega, by rw [List.length_append, List.length_singleton]; omega, HO9k, HO8, hs8, HB8⟩
            case measure => simp [intOf]; omega
          · have HO9k : Hid (out = (l.take (k + 1)).filter (usedP st x)) := by
              show _ = _
              rw [HTT.out, if_neg (by simp [usedP]; omega), List.append_nil]
            clear HTT
            by_cases hi1 : st < s2
            · have hi2 : x < s1 := by omega
              clear hin
              go_wp2_with fail
              go_roundw
              case rel => exact ⟨k + 1, _, out, rfl, by go_num, by omega, by omega, HO9k, HOW, hsz, HBR⟩
              case measure => simp [intOf]; omega
            · have hi2 : s2 ≤ st := by omega
              clear hin
              go_wp2_with fail
              go_roundw
              case rel => exact ⟨k + 1, _, out, rfl, by go_num, by omega, by omega, HO9k, HOW, hsz, HBR⟩
              case measure => simp [intOf]; omega
        · obtain rfl : k = l.length := by omega
          have HR : Hid (IsSps wr v9 (usedF st due m l)) := by
            show IsSps _ _ _
            have h1 := HOUT.out
            rw [List.take_length] at h1
            rw [HG.out, ← h1]
            exact IsSps.of_owns HOW.out
          have HB9 := Lib.hid (Below.to HB1.out HBR.out HB1.out.size)
          clear HOUT HOW HBR
          go_wp2_with fail
          go_ret
          exact ⟨_, rfl, HR.out, HB9.out⟩
    · have hyn : (y != 0) = true := by simpa using hy
      have HG : Hid (usedF st due m l = l.filter (usedP st 3652058)) := by have h := HU.out; rw [show endF (x, y) = 3652058 from if_neg hy] at h; exact h
      clear HU hy
      go_enter Try.func25, Try.ntmps25
      go_wp2_with fail
      refine HE.out.mono ?_
      rintro e w1 ⟨rfl, hb1⟩
      have HB1 := Lib.hid hb1
      have HX1 := Lib.hid (HX.out.below hb1)
      clear hb1 HE HX
      go_wp2_with fail
      go_loopw [9, 10] (fun a i wr => ∃ (k : Nat) (v9 : Value) (out : List (Int × Int)), v9 = a ∧ i = .int .i64 k ∧ k ≤ l.length ∧ out.length ≤ k ∧ Hid (out = (l.take k).filter (usedP st 3652058)) ∧ Hid (wr.ownsRow w1.heap.size 40 2 v9 out.length (spCells out)) ∧ w1.heap.size ≤ wr.heap.size ∧ Hid (Below w1.heap.size w1 wr)) (fun _ i _ => l.length - (intOf i).toNat)
      case atStart => exact ⟨0, _, [], rfl, rfl, Nat.zero_le _, Nat.le_refl _, Lib.hid rfl, Lib.hid (World.ownsRow_nil _ _ _ _), Nat.le_refl _, Lib.hid (Below.refl _ _)⟩
      case round =>
        obtain ⟨k, v9, out, rfl, rfl, hk, hok, HOUT, HOW, hsz, HBR⟩ := hrel
        by_cases hkl : k < l.length
        · obtain ⟨b5, o5, q5, e5, hlt5, d0, d1⟩ := (HX1.out.below HBR.out).at hkl
          simp only [Value.slice.injEq, true_and] at e5
          obtain ⟨rfl, -⟩ := e5
          have HT := filter_take (p := usedP st 3652058) hkl
          rw [← HOUT.out] at HT
          have HTT := Lib.hid HT
          generalize l[k] = s at *
          obtain ⟨s1, s2⟩ := s
          simp only at d0 d1
          obtain ⟨av, cv, rfl, -, -⟩ := owns_slice HOW.out
          clear HT HOUT
          by_cases hin : st < s2 ∧ s1 ≤ 3652058
          · obtain ⟨hi1, hi2⟩ := hin
            have HO9k : Hid (out ++ [(s1, s2)] = (l.take (k + 1)).filter (usedP st 3652058)) := by
              show _ = _
              rw [HTT.out, if_pos (by simp [usedP, hi1, hi2])]
            clear HTT
            have HLIT : Hid (∀ W : World, Rd (W.alloc (.cells (litSp (s1, s2)) 40)) (.slice (some ⟨W.heap.size, 0, none⟩) 1 1) 2 1 (spRow (s1, s2))) := fun W => Rd.lit W (litSp (s1, s2)) 40 2 1 rfl (by unfold maxLen; omega)
            go_wp2_with (at_builtin; go_must (refine wpList_append_rd rfl _ _ 24 rfl w1.heap.size 40 _ 2 16 Try.underlying24 infoSp rfl (by decide) (.slice av out.length cv) out.length (spCells out) rfl (owns_below HOW.out ?hb) _ 1 (spRow (s1, s2)) rfl (HLIT.out _) (spCells_one [(s1, s2)]) ?b1 ?b2 ?b3 ?_))
            case hb => exact (Below.refl _ _).alloc (Nat.le_refl _) _
            case b1 => unfold maxLen; omega
            case b2 => omega
            case b3 => simp; omega
            intro v8 w8 hv8 hg8
            have HB8 : Hid (Below w1.heap.size w1 w8) := below_append (Below.to HBR.out ((Below.refl _ _).alloc (Nat.le_refl _) _) hsz) (owns_below HOW.out ((Below.refl _ _).alloc (Nat.le_refl _) _)) hg8 (by simp; omega)
            have HO8 : Hid (w8.ownsRow w1.heap.size 40 2 v8 (out ++ [(s1, s2)]).length (spCells (out ++ [(s1, s2)]))) := by
              show World.ownsRow _ _ _ _ _ _ _
              rw [spCells_append, spCells_single]
              simpa using hv8
            have hs8 := HB8.out.size
            clear hv8 hg8
            go_wp2_with fail
            go_roundw
            case rel => exact ⟨k + 1, _, out ++ [(s1, s2)], rfl, by go_num, by omega, by rw [List.length_append, List.length_singleton]; omega, HO9k, HO8, hs8, HB8⟩
            case measure => simp [intOf]; omega
          · have HO9k : Hid (out = (l.take (k + 1)).filter (usedP st 3652058)) := by
              show _ = _
              rw [HTT.out, if_neg (by simp [usedP]; omega), List.append_nil]
            clear HTT
            by_cases hi1 : st < s2
            · have hi2 : 3652058 < s1 := by omega
              clear hin
              go_wp2_with fail
              go_roundw
              case rel => exact ⟨k + 1, _, out, rfl, by go_num, by omega, by omega, HO9k, HOW, hsz, HBR⟩
              case measure => simp [intOf]; omega
            · have hi2 : s2 ≤ st := by omega
              clear hin
              go_wp2_with fail
              go_roundw
              case rel => exact ⟨k + 1, _, out, rfl, by go_num, by omega, by omega, HO9k, HOW, hsz, HBR⟩
              case measure => simp [intOf]; omega
        · obtain rfl : k = l.length := by omega
          have HR : Hid (IsSps wr v9 (usedF st due m l)) := by
            show IsSps _ _ _
            have h1 := HOUT.out
            rw [List.take_length] at h1
            rw [HG.out, ← h1]
            exact IsSps.of_owns HOW.out
          have HB9 := Lib.hid (Below.to HB1.out HBR.out HB1.out.size)
          clear HOUT HOW HBR
          go_wp2_with fail
          go_ret
          exact ⟨_, rfl, HR.out, HB9.out⟩

end Go.Proofs.Ytkcmkpljpmfiaaa
