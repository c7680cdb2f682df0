/-
  Contracts of Events at any branch; of Common.
-/
import Derived.Test.YtgfnelpfoegdaaaFW6
namespace Go.Proofs.Ytgfnelpfoegdaaa
open Go.RowKit

theorem forkEventsZ (l : List Br) (v : Value) (b : Int) (w : World) (hl : IsBrs w v l) (hg : Good l) :
    Calls Try.prog 26 #[v, .int .i64 b] w fun e w' => ∃ v', e = .returned v' ∧ IsInts w' v' (eventsZ l b) ∧ Below w.heap.size w w' := by
  by_cases h : 0 ≤ b ∧ b < l.length
  · obtain ⟨k, rfl⟩ := Int.eq_ofNat_of_zero_le h.1
    have hk : k < l.length := by omega
    have hx := List.getElem?_eq_getElem hk
    rw [eventsZ_nat]
    exact forkEvents l v k l[k] w hl hx (hg.str _) (by have := (hg.ok hx).s; omega)
  · refine (forkEvents_none l v b w hl h).mono ?_
    rintro e w' ⟨rfl, hb⟩
    have : eventsZ l b = [] := by
      rcases Int.lt_or_le b 0 with hn | hn
      · exact eventsZ_neg hn
      · unfold eventsZ; rw [if_neg (by omega), events_none (by omega)]
    rw [this]
    exact ⟨_, rfl, IsInts.nil _ _ _, hb⟩

theorem refEventsZ (l : List Br) (v : Value) (b : Int) (w : World) (hl : IsBrs w v l) (hg : Good l) :
    Calls Try.prog 29 #[v, .int .i64 b] w fun e w' => ∃ v', e = .returned v' ∧ IsInts w' v' (eventsZ l b) ∧ Below w.heap.size w w' := by
  by_cases h : 0 ≤ b ∧ b < l.length
  · obtain ⟨k, rfl⟩ := Int.eq_ofNat_of_zero_le h.1
    have hk : k < l.length := by omega
    have hx := List.getElem?_eq_getElem hk
    rw [eventsZ_nat]
    exact refEvents l v k l[k] w hl hx (hg.str _) (by have := (hg.ok hx).s; omega) (fun i y _ hy => by have := (hg.ok hy).s; omega)
  · refine (refEvents_none l v b w hl h).mono ?_
    rintro e w' ⟨rfl, rfl⟩
    have : eventsZ l b = [] := by
      rcases Int.lt_or_le b 0 with hn | hn
      · exact eventsZ_neg hn
      · unfold eventsZ; rw [if_neg (by omega), events_none (by omega)]
    rw [this]
    exact ⟨_, rfl, IsInts.nil _ _ _, Below.refl _ _⟩

set_option maxHeartbeats 2000000 in
set_option maxRecDepth 100000 in
theorem forkCommon (l : List Br) (v : Value) (a b : Int) (w : World) (hl : IsBrs w v l) (hg : Good l) :
    Calls Try.prog 34 #[v, .int .i64 a, .int .i64 b] w fun e w' => e = .returned (.int .i64 (commonF (eventsZ l a) (eventsZ l b))) ∧ Below w.heap.size w w' := by
  have HL := Lib.hid hl; clear hl
  have HG := Lib.hid hg; clear hg
  obtain ⟨xs, HXS⟩ : ∃ xs, Hid (eventsZ l a = xs) := ⟨_, rfl⟩
  obtain ⟨ys, HYS⟩ : ∃ ys, Hid (eventsZ l b = ys) := ⟨_, rfl⟩
  go_enter Try.func34, Try.ntmps34
  go_wp2_with fail
  refine (forkEventsZ l v a w HL.out HG.out).mono ?_
  rintro e w1 ⟨v1, rfl, hv1, hb1⟩
  rw [HXS.out] at hv1
  have HV1 := Lib.hid hv1; clear hv1
  have HB1 := Lib.hid hb1; clear hb1
  go_wp2_with fail
  refine (forkEventsZ l v b w1 (HL.out.below HB1.out) HG.out).mono ?_
  rintro e w2 ⟨v2, rfl, hv2, hb2⟩
  rw [HYS.out] at hv2
  obtain ⟨a1, c1, e1, hm1, -, hc1⟩ := (HV1.out.below hb2).open
  obtain ⟨a2, c2, rfl, hm2, -, hc2⟩ := hv2.open
  subst e1
  have HC1 := Lib.hid hc1; clear hc1
  have HC2 := Lib.hid hc2; clear hc2
  have HB2 := Lib.hid (Below.to HB1.out hb2 HB1.out.size)
  clear hv2 hb2 HB1 HV1
  unfold maxLen at hm1 hm2
  by_cases hle : (xs.length : Int) ≤ (ys.length : Int)
  all_goals
    go_wp2_with fail
    go_loopw [9, 21] (fun _ c wr => ∃ k n : Nat, c = .int .i64 k ∧ k ≤ xs.length ∧ k ≤ ys.length ∧ wr = w2.drewN n ∧ Hid (xs.take k = ys.take k)) (fun _ c _ => xs.length - (intOf c).toNat)
    case atStart => exact ⟨0, 0, rfl, Nat.zero_le _, Nat.zero_le _, rfl, rfl⟩
    case round =>
      obtain ⟨k, n, rfl, hk1, hk2, rfl, HT⟩ := hrel
      by_cases hlt : k < xs.length ∧ k < ys.length
      · obtain ⟨hl1, hl2⟩ := hlt
        obtain ⟨b1, o1, rfl, d1⟩ := HC1.out k hl1
        obtain ⟨b2, o2, rfl, d2⟩ := HC2.out k hl2
        by_cases he : xs[k] = ys[k]
        · have hne : (xs[k] != ys[k]) = false := by simp [he]
          have HE := Lib.hid he; clear he
          go_wp2
          go_quiet (fail)
          go_wp2
          go_roundw
          case rel =>
            refine ⟨k + 1, _, by go_num, by omega, by omega, rfl, ?_⟩
            show _ = _
            rw [List.take_succ_eq_append_getElem hl1, List.take_succ_eq_append_getElem hl2, HT.out, HE.out]
          case measure => simp [intOf]; omega
        · have hne : (xs[k] != ys[k]) = true := by simp [he]
          have HE := Lib.hid (commonF_at xs ys k hl1 hl2 HT.out he)
          clear he
          go_wp2
          go_quiet (fail)
          go_wp2
          go_ret
          exact ⟨ret_int (by rw [HXS.out, HYS.out, HE.out]), below_drewN (below_drewN HB2.out _) _⟩
      · have HE := Lib.hid (commonF_end xs ys k (by omega) HT.out)
        have hlt2 : ¬ ((k : Int) < (xs.length : Int)) ∨ ¬ ((k : Int) < (ys.length : Int)) := by omega
        clear hlt
        go_wp2
        go_ret
        exact ⟨ret_int (by rw [HXS.out, HYS.out, HE.out]; omega), below_drewN HB2.out _⟩

set_option maxHeartbeats 2000000 in
set_option maxRecDepth 100000 in
theorem refCommon (l : List Br) (v : Value) (a b : Int) (w : World) (hl : IsBrs w v l) (hg : Good l) :
    Calls Try.prog 35 #[v, .int .i64 a, .int .i64 b] w fun e w' => e = .returned (.int .i64 (commonF (eventsZ l a) (eventsZ l b))) ∧ Below w.heap.size w w' := by
  have HL := Lib.hid hl; clear hl
  have HG := Lib.hid hg; clear hg
  obtain ⟨xs, HXS⟩ : ∃ xs, Hid (eventsZ l a = xs) := ⟨_, rfl⟩
  obtain ⟨ys, HYS⟩ : ∃ ys, Hid (eventsZ l b = ys) := ⟨_, rfl⟩
  go_enter Try.func35, Try.ntmps35
  go_wp2_with fail
  refine (refEventsZ l v a w HL.out HG.out).mono ?_
  rintro e w1 ⟨v1, rfl, hv1, hb1⟩
  rw [HXS.out] at hv1
  have HV1 := Lib.hid hv1; clear hv1
  have HB1 := Lib.hid hb1; clear hb1
  go_wp2_with fail
  refine (refEventsZ l v b w1 (HL.out.below HB1.out) HG.out).mono ?_
  rintro e w2 ⟨v2, rfl, hv2, hb2⟩
  rw [HYS.out] at hv2
  obtain ⟨a1, c1, e1, hm1, -, hc1⟩ := (HV1.out.below hb2).open
  obtain ⟨a2, c2, rfl, hm2, -, hc2⟩ := hv2.open
  subst e1
  have HC1 := Lib.hid hc1; clear hc1
  have HC2 := Lib.hid hc2; clear hc2
  have HB2 := Lib.hid (Below.to HB1.out hb2 HB1.out.size)
  clear hv2 hb2 HB1 HV1
  unfold maxLen at hm1 hm2
  go_wp2_with fail
  go_loopw [9] (fun c wr => ∃ k n : Nat, c = .int .i64 k ∧ k ≤ xs.length ∧ k ≤ ys.length ∧ wr = w2.drewN n ∧ Hid (xs.take k = ys.take k)) (fun c _ => xs.length - (intOf c).toNat)
  case atStart => exact ⟨0, 0, rfl, Nat.zero_le _, Nat.zero_le _, rfl, rfl⟩
  case round =>
    obtain ⟨k, n, rfl, hk1, hk2, rfl, HT⟩ := hrel
    by_cases hl1 : k < xs.length
    · have t1 : (k : Int) < (xs.length : Int) := by omega
      by_cases hl2 : k < ys.length
      · have t2 : (k : Int) < (ys.length : Int) := by omega
        obtain ⟨b1, o1, rfl, d1⟩ := HC1.out k hl1
        obtain ⟨b2, o2, rfl, d2⟩ := HC2.out k hl2
        by_cases he : xs[k] = ys[k]
        · have hne : (xs[k] == ys[k]) = true := by simp [he]
          have HE := Lib.hid he; clear he
          go_wp2_with fail
          go_quiet (fail)
          go_wp2
          go_roundw
          case rel =>
            refine ⟨k + 1, _, by go_num, by omega, by omega, rfl, ?_⟩
            show _ = _
            rw [List.take_succ_eq_append_getElem hl1, List.take_succ_eq_append_getElem hl2, HT.out, HE.out]
          case measure => simp [intOf]; omega
        · have hne : (xs[k] == ys[k]) = false := by simp [he]
          have HE := Lib.hid (commonF_at xs ys k hl1 hl2 HT.out he)
          clear he
          go_wp2_with fail
          go_quiet (fail)
          go_wp2
          go_ret
          exact ⟨ret_int (by rw [HXS.out, HYS.out, HE.out]), below_drewN (below_drewN HB2.out _) _⟩
      · have t2 : decide (k < ys.length) = false := by simp; omega
        have HE := Lib.hid (commonF_end xs ys k (by omega) HT.out)
        clear hl2
        go_wp2_with fail
        go_quiet (fail)
        go_wp2
        go_ret
        exact ⟨ret_int (by rw [HXS.out, HYS.out, HE.out]), below_drewN (below_drewN HB2.out _) _⟩
    · have t1 : decide (k < xs.length) = false := by simp; omega
      have HE := Lib.hid (commonF_end xs ys k (by omega) HT.out)
      clear hl1
      go_wp2_with fail
      go_quiet (fail)
      go_wp2
      go_ret
      exact ⟨ret_int (by rw [HXS.out, HYS.out, HE.out]), below_drewN (below_drewN HB2.out _) _⟩

end Go.Proofs.Ytgfnelpfoegdaaa
