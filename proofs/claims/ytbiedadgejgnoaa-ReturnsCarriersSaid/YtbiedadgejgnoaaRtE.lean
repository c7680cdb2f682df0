/-
  The reference's Wrong and Excess; Has.
-/
import Derived.Test.YtbiedadgejgnoaaRtX
namespace Go.Proofs.Ytbiedadgejgnoaa
open Go.RowKit

theorem refWrong_any (r : Ret) (d : Int) (w : World) : Calls Try.prog 16 #[.agg (litRt r), .int .i64 d] w fun e w' => e = .returned (.bool (wrongB r d)) ∧ Below w.heap.size w w' := by
  obtain ⟨c, k, f, u⟩ := r
  have HB : Hid (Below w.heap.size w (w.alloc (.cells #[.int .i64 c, .int .i64 k, .int .i64 f, .int .i64 u] 30))) := (Below.refl _ _).alloc (Nat.le_refl _) _
  show Calls Try.prog 16 #[.agg #[.int .i64 c, .int .i64 k, .int .i64 f, .int .i64 u], .int .i64 d] w _
  by_cases k1 : k = 1
  · subst k1
    by_cases h1 : d < f
    · have HR : Hid (wrongB ⟨c, 1, f, u⟩ d = true) := by show _ = _; rw [wrongB_1 rfl]; simp [h1]
      go_enter Try.func16, Try.ntmps16
      go_wp2
      go_ret
      exact ⟨by rw [HR.out]; rfl, HB.out⟩
    · have HR : Hid (wrongB ⟨c, 1, f, u⟩ d = (decide (d < f) || decide (u < d))) := by show _ = _; rw [wrongB_1 rfl]
      have h2 : f ≤ d := by omega
      clear h1
      go_enter Try.func16, Try.ntmps16
      go_wp2
      go_ret
      exact ⟨ret_bool HR.out.symm, HB.out⟩
  · have e1 : (k == 1) = false := by simpa using k1
    by_cases k2 : k = 2
    · subst k2
      by_cases h1 : 0 ≤ d
      · have HR : Hid (wrongB ⟨c, 2, f, u⟩ d = decide (d ≤ u)) := by show _ = _; rw [wrongB_2 rfl]; simp [h1]
        clear k1 e1
        go_enter Try.func16, Try.ntmps16
        go_wp2
        go_ret
        exact ⟨ret_bool HR.out.symm, HB.out⟩
      · have HR : Hid (wrongB ⟨c, 2, f, u⟩ d = false) := by show _ = _; rw [wrongB_2 rfl]; simp [h1]
        have h2 : d < 0 := by omega
        clear k1 e1 h1
        go_enter Try.func16, Try.ntmps16
        go_wp2
        go_ret
        exact ⟨by rw [HR.out]; rfl, HB.out⟩
    · have e2 : (k == 2) = false := by simpa using k2
      have HR : Hid (wrongB ⟨c, k, f, u⟩ d = decide (0 ≤ d)) := by show _ = _; rw [wrongB_3 k1 k2]
      clear k1 k2
      go_enter Try.func16, Try.ntmps16
      go_wp2
      go_ret
      exact ⟨ret_bool HR.out.symm, HB.out⟩
theorem refWrong_is (r : Ret) (d : Int) (b : Bool) (h : wrongB r d = b) (w : World) : Calls Try.prog 16 #[.agg (litRt r), .int .i64 d] w fun e w' => e = .returned (.bool b) ∧ Below w.heap.size w w' := by
  rw [← h]; exact refWrong_any r d w

theorem has_yes (xs : List Int) (v : Value) (x : Int) (w : World) (hx : IsInts w v xs) (hm : x ∈ xs) :
    Calls Try.prog 62 #[v, .int .i64 x] w fun e w' => e = .returned (.bool true) ∧ w = w' := by
  obtain ⟨a, cap, rfl, hlm, -, hc⟩ := hx.open
  unfold maxLen at hlm
  have HC := Lib.hid hc
  have HM := Lib.hid hm
  clear hx hc hm
  go_enter Try.func62, Try.ntmps62
  go_wp2_with fail
  go_loop [5] (fun i => ∃ k : Nat, i = .int .i64 k ∧ k ≤ xs.length ∧ Hid (∀ j (h : j < xs.length), j < k → xs[j] ≠ x)) (fun i => xs.length - (intOf i).toNat)
  case atStart => exact ⟨0, rfl, Nat.zero_le _, Lib.hid (fun j _ h => absurd h (Nat.not_lt_zero _))⟩
  case round =>
    obtain ⟨k, rfl, hk, HN⟩ := hrel
    by_cases hkl : k < xs.length
    · obtain ⟨b, off, rfl, c0⟩ := HC.out k hkl
      by_cases he : xs[k] = x
      · rw [he] at c0
        clear HN
        go_wp2_with fail
        go_ret
        exact ⟨rfl, rfl⟩
      · have HN2 : Hid (∀ j (h : j < xs.length), j < k + 1 → xs[j] ≠ x) := fun j hj hjk => by
          rcases Nat.lt_succ_iff_lt_or_eq.1 hjk with h' | rfl
          · exact HN.out j hj h'
          · exact he
        have hb : (xs[k] == x) = false := by simpa using he
        clear HN he
        generalize xs[k] = y at *
        go_wp2_with fail
        go_round
        case rel => exact ⟨k + 1, by go_num, by omega, HN2⟩
        case measure => simp [intOf]; omega
    · exfalso
      obtain rfl : k = xs.length := by omega
      obtain ⟨j, hj, hjx⟩ := List.mem_iff_getElem.1 HM.out
      exact HN.out j hj hj hjx
theorem has_no (xs : List Int) (v : Value) (x : Int) (w : World) (hx : IsInts w v xs) (hm : x ∉ xs) :
    Calls Try.prog 62 #[v, .int .i64 x] w fun e w' => e = .returned (.bool false) ∧ w = w' := by
  obtain ⟨a, cap, rfl, hlm, -, hc⟩ := hx.open
  unfold maxLen at hlm
  have HC := Lib.hid hc
  have HM : Hid (∀ j (h : j < xs.length), xs[j] ≠ x) := fun j h e => hm (by rw [← e]; exact List.getElem_mem h)
  clear hx hc hm
  go_enter Try.func62, Try.ntmps62
  go_wp2_with fail
  go_loop [5] (fun i => ∃ k : Nat, i = .int .i64 k ∧ k ≤ xs.length) (fun i => xs.length - (intOf i).toNat)
  case atStart => exact ⟨0, rfl, Nat.zero_le _⟩
  case round =>
    obtain ⟨k, rfl, hk⟩ := hrel
    by_cases hkl : k < xs.length
    · obtain ⟨b, off, rfl, c0⟩ := HC.out k hkl
      have hb : (xs[k] == x) = false := by simpa using HM.out k hkl
      generalize xs[k] = y at *
      go_wp2_with fail
      go_round
      case rel => exact ⟨k + 1, by go_num, by omega⟩
      case measure => simp [intOf]; omega
    · go_wp2_with fail
      go_ret
      exact ⟨rfl, rfl⟩

set_option maxHeartbeats 2000000 in
set_option maxRecDepth 100000 in
theorem refExcess_any (l : List Ret) (cs : List (Int × Int)) (v u : Value) (d : Int) (w : World) (hx : IsRts w v l) (hy : IsSps w u cs) (hl : l.length ≤ 1000) (hcl : cs.length ≤ 1000) (hc : CarOk cs) :
    Calls Try.prog 36 #[v, u, .int .i64 d] w fun e w' => e = .returned (.int .i64 (excF l cs d)) ∧ Below w.heap.size w w' := by
  have HX := Lib.hid hx
  have HY := Lib.hid hy
  have HCO := Lib.hid hc
  obtain ⟨a0, c0, rfl, -, -⟩ := hx.open
  obtain ⟨a1, c1, rfl, -, -, -⟩ := hy.open
  clear hx hy hc
  go_enter Try.func36, Try.ntmps36
  go_wp2_with fail
  go_loopw [7, 8] (fun a i wr => ∃ (c : Nat) (t : Int), a = .int .i64 t ∧ i = .int .i64 c ∧ c ≤ cs.length ∧ 0 ≤ t ∧ t ≤ 1000 * (c : Int) ∧ Hid (t = excTo l cs d c) ∧ Hid (Below w.heap.size w wr)) (fun _ i _ => cs.length - (intOf i).toNat)
  case atStart => exact ⟨0, 0, rfl, rfl, Nat.zero_le _, Int.le_refl _, by omega, Lib.hid rfl, Lib.hid (Below.refl _ _)⟩
  case round =>
    obtain ⟨c, t, rfl, rfl, hc, ht0, ht1, HT, HBR⟩ := hrel
    by_cases hcc : c < cs.length
    · obtain ⟨wo, rfl⟩ : ∃ wo : World, wo = wr := ⟨_, rfl⟩
      have hso := HBR.out.size
      go_wp2_with fail
      go_loopw [9, 10] (fun a i wr => ∃ (k m : Nat), a = .int .i64 m ∧ i = .int .i64 k ∧ k ≤ l.length ∧ m ≤ k ∧ Hid (m = nW (l.take k) (c : Int) d) ∧ Hid (Below w.heap.size w wr)) (fun _ i _ => l.length - (intOf i).toNat)
      case atStart => exact ⟨0, 0, rfl, rfl, Nat.zero_le _, Nat.le_refl _, Lib.hid rfl, HBR⟩
      case round =>
        obtain ⟨k, m, rfl, rfl, hk, hm, HM, HBQ⟩ := hrel
        by_cases hkl : k < l.length
        · obtain ⟨b5, o5, q5, e5, hlt5, d0, d1, d2, d3⟩ := (HX.out.below HBQ.out).at hkl
          simp only [Value.slice.injEq, true_and] at e5
          obtain ⟨rfl, -⟩ := e5
          have HST := Lib.hid (nW_take hkl (c : Int) d)
          have HWC := Lib.hid (refWrong_any l[k] d)
          by_cases he : l[k].car = (c : Int)
          · by_cases hw : wrongB l[k] d = true
            · have HM2 : Hid (m + 1 = nW (l.take (k + 1)) (c : Int) d) := by show _ = _; rw [HST.out, if_pos ⟨he, hw⟩, ← HM.out]
              have HWC := Lib.hid (refWrong_is l[k] d true hw)
              clear HST HM hw
              generalize l[k] = s at *
              obtain ⟨sc, sk, sf, su⟩ := s
              simp only at d0 d1 d2 d3 he
              subst he
              go_wp2_with fail
              refine (HWC.out _).mono ?_
              rintro e w2 ⟨rfl, hb2⟩
              have HB2 := Lib.hid (Below.to HBQ.out hb2 HBQ.out.size)
              clear hb2
              go_wp2_with fail
              go_roundw
              case rel => exact ⟨k + 1, m + 1, by go_num, by go_num, by omega, by omega, HM2, HB2⟩
              case measure => simp [intOf]; omega
            · have HM2 : Hid (m = nW (l.take (k + 1)) (c : Int) d) := by show _ = _; rw [HST.out, if_neg (fun h => hw h.2), ← HM.out]; rfl
              have HWC := Lib.hid (refWrong_is l[k] d false (by simpa using hw))
              clear HST HM hw
              generalize l[k] = s at *
              obtain ⟨sc, sk, sf, su⟩ := s
              simp only at d0 d1 d2 d3 he
              subst he
              go_wp2_with fail
              refine (HWC.out _).mono ?_
              rintro e w2 ⟨rfl, hb2⟩
              have HB2 := Lib.hid (Below.to HBQ.out hb2 HBQ.out.size)
              clear hb2
              go_wp2_with fail
              go_roundw
              case rel => exact ⟨k + 1, m, rfl, by go_num, by omega, by omega, HM2, HB2⟩
              case measure => simp [intOf]; omega
          · have HM2 : Hid (m = nW (l.take (k + 1)) (c : Int) d) := by show _ = _; rw [HST.out, if_neg (fun h => he h.1), ← HM.out]; rfl
            have hb : (l[k].car == (c : Int)) = false := by simpa using he
            clear HST HM HWC he
            generalize l[k] = s at *
            obtain ⟨sc, sk, sf, su⟩ := s
            simp only at d0 d1 d2 d3 hb
            go_wp2_with fail
            go_roundw
            case rel => exact ⟨k + 1, m, rfl, by go_num, by omega, by omega, HM2, HBQ⟩
            case measure => simp [intOf]; omega
        · obtain rfl : k = l.length := by omega
          obtain ⟨b6, o6, q6, e6, -, -, x1⟩ := (HY.out.below HBQ.out).at hcc
          simp only [Value.slice.injEq, true_and] at e6
          obtain ⟨rfl, -⟩ := e6
          have htol := HCO.out cs[c] (List.getElem_mem hcc)
          have HT2 : Hid (t + max 0 ((m : Int) - cs[c].2) = excTo l cs d (c + 1)) := by
            show _ = excTo l cs d c + exTerm l cs d c
            have h := HM.out
            rw [List.take_length] at h
            unfold exTerm
            rw [← HT.out, ← h, List.getD_eq_getElem?_getD, List.getElem?_eq_getElem hcc]
            rfl
          generalize cs[c] = cc at *
          obtain ⟨c1', tol⟩ := cc
          simp only at x1 htol HT2
          obtain ⟨ht2, ht3⟩ := htol
          have e1 : IntKind.i64.wrap ((m : Int) - tol) = (m : Int) - tol := by rw [IntKind.wrap_i64]; omega
          have e2 : IntKind.i64.wrap (t + max 0 ((m : Int) - tol)) = t + max 0 ((m : Int) - tol) := by rw [IntKind.wrap_i64]; omega
          clear HM HT HBR
          go_wp2_with fail
          go_roundw
          case rel => exact ⟨c + 1, t + max 0 ((m : Int) - tol), by first | rfl | rw [show t + max 0 ((m : Int) - tol) = t + (if tol < (m : Int) then (m : Int) - tol else 0) from by split <;> omega], by go_num, by omega, by omega, by omega, HT2, HBQ⟩
          case measure => simp [intOf]; omega
    · obtain rfl : c = cs.length := by omega
      have HF : Hid (t = excF l cs d) := HT.out
      clear HT
      go_wp2_with fail
      go_ret
      exact ⟨ret_int HF.out, HBR.out⟩

end Go.Proofs.Ytbiedadgejgnoaa
