/-
  The reference's stayed and Slow: counting day by day finds the end of the extension.
-/
import Derived.Test.YtkcmkpljpmfiaaaRfE
import Derived.Test.YtkcmkpljpmfiaaaCtP
namespace Go.Proofs.Ytkcmkpljpmfiaaa
open Go.RowKit

theorem stayed_yes (l : List (Int × Int)) (v : Value) (day : Int) (w : World) (hx : IsSps w v l) (hl : l.length ≤ 100000) (hc : Cov l day) :
    Calls Try.prog 38 #[v, .int .i64 day] w fun e w' => e = .returned (.bool true) ∧ w = w' := by
  have HX := Lib.hid hx
  have HC := Lib.hid hc
  obtain ⟨a0, c0, rfl, -, -, -⟩ := hx.open
  clear hx hc
  go_enter Try.func38, Try.ntmps38
  go_wp2_with fail
  go_loop [5] (fun i => ∃ k : Nat, i = .int .i64 k ∧ k ≤ l.length ∧ Hid (∀ j (h : j < l.length), j < k → ¬ (l[j].1 ≤ day ∧ day ≤ l[j].2))) (fun i => l.length - (intOf i).toNat)
  case atStart => exact ⟨0, rfl, Nat.zero_le _, Lib.hid (fun j _ h => absurd h (Nat.not_lt_zero _))⟩
  case round =>
    obtain ⟨k, rfl, hk, HN⟩ := hrel
    by_cases hkl : k < l.length
    · obtain ⟨b5, o5, q5, e5, -, d0, d1⟩ := HX.out.at hkl
      simp only [Value.slice.injEq, true_and] at e5
      obtain ⟨rfl, -⟩ := e5
      have HNX : Hid (¬ (l[k].1 ≤ day ∧ day ≤ l[k].2) → ∀ j (h : j < l.length), j < k + 1 → ¬ (l[j].1 ≤ day ∧ day ≤ l[j].2)) := fun h0 j hj hjk => by
        rcases Nat.lt_succ_iff_lt_or_eq.1 hjk with h' | rfl
        · exact HN.out j hj h'
        · exact h0
      clear HN
      generalize l[k] = s at *
      obtain ⟨s1, s2⟩ := s
      simp only at d0 d1 HNX
      by_cases h1 : s1 ≤ day
      · by_cases h2 : day ≤ s2
        · clear HNX
          go_wp2_with fail
          go_ret
          exact ⟨rfl, rfl⟩
        · have HN2 := Lib.hid (HNX.out (by omega))
          have h3 : s2 < day := by omega
          clear HNX h2
          go_wp2_with fail
          go_round
          case rel => exact ⟨k + 1, by go_num, by omega, HN2⟩
          case measure => simp [intOf]; omega
      · have HN2 := Lib.hid (HNX.out (by omega))
        have h3 : day < s1 := by omega
        clear HNX h1
        go_wp2_with fail
        go_round
        case rel => exact ⟨k + 1, by go_num, by omega, HN2⟩
        case measure => simp [intOf]; omega
    · exfalso
      obtain rfl : k = l.length := by omega
      obtain ⟨s, hs, h1, h2⟩ := HC.out
      obtain ⟨j, hj, rfl⟩ := List.mem_iff_getElem.1 hs
      exact HN.out j hj hj ⟨h1, h2⟩

theorem stayed_no (l : List (Int × Int)) (v : Value) (day : Int) (w : World) (hx : IsSps w v l) (hl : l.length ≤ 100000) (hc : ¬ Cov l day) :
    Calls Try.prog 38 #[v, .int .i64 day] w fun e w' => e = .returned (.bool false) ∧ w = w' := by
  have HX := Lib.hid hx
  have HC : Hid (∀ j (h : j < l.length), ¬ (l[j].1 ≤ day ∧ day ≤ l[j].2)) := fun j h hh => hc ⟨l[j], List.getElem_mem h, hh⟩
  obtain ⟨a0, c0, rfl, -, -, -⟩ := hx.open
  clear hx hc
  go_enter Try.func38, Try.ntmps38
  go_wp2_with fail
  go_loop [5] (fun i => ∃ k : Nat, i = .int .i64 k ∧ k ≤ l.length) (fun i => l.length - (intOf i).toNat)
  case atStart => exact ⟨0, rfl, Nat.zero_le _⟩
  case round =>
    obtain ⟨k, rfl, hk⟩ := hrel
    by_cases hkl : k < l.length
    · obtain ⟨b5, o5, q5, e5, -, d0, d1⟩ := HX.out.at hkl
      simp only [Value.slice.injEq, true_and] at e5
      obtain ⟨rfl, -⟩ := e5
      have hno := HC.out k hkl
      generalize l[k] = s at *
      obtain ⟨s1, s2⟩ := s
      simp only at d0 d1 hno
      by_cases h1 : s1 ≤ day
      · have h3 : s2 < day := by omega
        clear hno
        go_wp2_with fail
        go_round
        case rel => exact ⟨k + 1, by go_num, by omega⟩
        case measure => simp [intOf]; omega
      · have h3 : day < s1 := by omega
        clear hno h1
        go_wp2_with fail
        go_round
        case rel => exact ⟨k + 1, by go_num, by omega⟩
        case measure => simp [intOf]; omega
    · go_wp2_with fail
      go_ret
      exact ⟨rfl, rfl⟩

set_option maxHeartbeats 1000000 in
theorem slow_any (l : List (Int × Int)) (v : Value) (st due : Int) (w : World) (hx : IsSps w v l) (hl : l.length ≤ 100000) (hr : InR l) (hst : 0 ≤ st) (hlt : st < due) (G : Int) (hG : extGo st due (mrg l) = G) (hg1 : G ≤ st + 400) (hg2 : G ≤ 3652058) :
    Calls Try.prog 26 #[.int .i64 st, .int .i64 due, v, .int .i64 400] w fun e w' => e = .returned (.tuple #[.int .i64 G, .bool true]) ∧ w = w' := by
  have HX := Lib.hid hx
  obtain ⟨a0, c0, rfl, -, -, -⟩ := hx.open
  obtain ⟨m1, m2, m3⟩ := mrg_law hr.val
  have hge := ext_from (st := st) (mrg l) due
  have HFE := Lib.hid (freeF_ext (due := due) m2 m1 hlt)
  have HFL : Hid (∀ d, st ≤ d → d < G → freeF st d (mrg l) < due - st) := fun d h1 h2 => freeF_lt m2 m1 hlt h1 (by rw [hG]; exact h2)
  have HND := Lib.hid (ext_days (mrg l) due m2 m1 hlt).2
  have HIN : Hid (∀ d, st ≤ d → Cov l (d + 1) → freeF st (d + 1) (mrg l) = freeF st d (mrg l)) := fun d h1 h2 => freeF_in m2 m1 h1 ((m3 _).2 h2)
  have HOUT : Hid (∀ d, st ≤ d → ¬ Cov l (d + 1) → freeF st (d + 1) (mrg l) = freeF st d (mrg l) + 1) := fun d h1 h2 => freeF_out h1 (fun h => h2 ((m3 _).1 h))
  have HST := Lib.hid (freeF_start st (mrg l))
  have HM3 := Lib.hid (m3 G)
  rw [hG] at hge HFE HND
  have HYES : Hid (∀ d, Cov l d → Calls Try.prog 38 #[.slice a0 l.length c0, .int .i64 d] w fun e w' => e = .returned (.bool true) ∧ w = w') := fun d h => stayed_yes l _ d w hx hl h
  have HNO : Hid (∀ d, ¬ Cov l d → Calls Try.prog 38 #[.slice a0 l.length c0, .int .i64 d] w fun e w' => e = .returned (.bool false) ∧ w = w') := fun d h => stayed_no l _ d w hx hl h
  have q1 : IntKind.i64.wrap (st + 1) = st + 1 := by rw [IntKind.wrap_i64]; omega
  have q2 : IntKind.i64.wrap (st + 400) = st + 400 := by rw [IntKind.wrap_i64]; omega
  have q3 : IntKind.i64.wrap (due - st) = due - st := by rw [IntKind.wrap_i64]; omega
  clear hx hr m1 m2 m3 hG
  generalize mrg l = M at *
  go_enter Try.func26, Try.ntmps26
  go_wp2_with fail
  go_loop [10, 11] (fun a b => ∃ (n d : Int), a = .int .i64 n ∧ b = .int .i64 d ∧ st + 1 ≤ d ∧ d ≤ G ∧ 0 ≤ n ∧ n ≤ d ∧ Hid (n = freeF st (d - 1) M)) (fun _ b => (G + 1 - intOf b).toNat)
  case atStart => exact ⟨0, st + 1, rfl, rfl, by omega, by omega, by omega, by omega, Lib.hid (by rw [show st + 1 - 1 = st from by omega, HST.out])⟩
  case round =>
    obtain ⟨n, d, rfl, rfl, hd1, hd2, hn0, hn1, HN⟩ := hrel
    have hle1 : d ≤ st + 400 := by omega
    have hle2 : d ≤ 3652058 := by omega
    have qn : IntKind.i64.wrap (n + 1) = n + 1 := by rw [IntKind.wrap_i64]; omega
    have qd : IntKind.i64.wrap (d + 1) = d + 1 := by rw [IntKind.wrap_i64]; omega
    by_cases hc : Cov l d
    · have HNN : Hid (n = freeF st d M) := by
        have h := HIN.out (d - 1) (by omega) (by rw [show d - 1 + 1 = d from by omega]; exact hc)
        rw [show d - 1 + 1 = d from by omega] at h
        show _ = _
        rw [h, ← HN.out]
      have hdG : d < G := by
        have h : d ≠ G := by
          rintro rfl
          exact HND.out (HM3.out.2 hc)
        omega
      have hneq : n < due - st := by rw [HNN.out]; exact HFL.out d (by omega) hdG
      have hnq : (n == due - st) = false := by simp; omega
      have HCA := Lib.hid (HYES.out d hc)
      clear HN hc
      go_wp2_with fail
      refine HCA.out.mono ?_
      rintro e w' ⟨rfl, rfl⟩
      go_wp2_with fail
      go_round
      case rel => exact ⟨n, d + 1, rfl, rfl, by omega, by omega, by omega, by omega, Lib.hid (by rw [show d + 1 - 1 = d from by omega]; exact HNN.out)⟩
      case measure => simp [intOf]; omega
    · have HNN : Hid (n + 1 = freeF st d M) := by
        have h := HOUT.out (d - 1) (by omega) (by rw [show d - 1 + 1 = d from by omega]; exact hc)
        rw [show d - 1 + 1 = d from by omega] at h
        show _ = _
        rw [h, ← HN.out]
      have HCA := Lib.hid (HNO.out d hc)
      clear HN hc
      by_cases hdG : d < G
      · have hneq : n + 1 < due - st := by rw [HNN.out]; exact HFL.out d (by omega) hdG
        have hnq : (n + 1 == due - st) = false := by simp; omega
        go_wp2_with fail
        refine HCA.out.mono ?_
        rintro e w' ⟨rfl, rfl⟩
        go_wp2_with fail
        go_round
        case rel => exact ⟨n + 1, d + 1, rfl, rfl, by omega, by omega, by omega, by omega, Lib.hid (by rw [show d + 1 - 1 = d from by omega]; exact HNN.out)⟩
        case measure => simp [intOf]; omega
      · obtain rfl : d = G := by omega
        have hneq : n + 1 = due - st := by rw [HNN.out]; exact HFE.out
        have hnq : (n + 1 == due - st) = true := by simp; omega
        have HEQ := Lib.hid hneq
        clear hneq HNN
        go_wp2_with fail
        refine HCA.out.mono ?_
        rintro e w' ⟨rfl, rfl⟩
        go_wp2_with fail
        go_ret2
        exact ⟨rfl, rfl⟩

end Go.Proofs.Ytkcmkpljpmfiaaa
