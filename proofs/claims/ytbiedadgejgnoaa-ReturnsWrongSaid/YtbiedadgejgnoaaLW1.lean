/-
  The law ReturnsWrong: its walk.
-/
import Derived.Test.YtbiedadgejgnoaaRtK
import Derived.Test.YtbiedadgejgnoaaRtU
namespace Go.Proofs.Ytbiedadgejgnoaa
open Go.RowKit

set_option maxHeartbeats 4000000 in
set_option maxRecDepth 100000 in
theorem returnsWrong_any (c l : List Int) (v u : Value) (n day : Int) (w : World) (hx : IsInts w v c) (hc : ∀ x ∈ c, I64 x) (hy : IsInts w u l) (hl : ∀ x ∈ l, I64 x) (hn : I64 n) (hd : I64 day) :
    Calls Try.prog 3 #[v, u, .int .i64 n, .int .i64 day] w fun e w' => e = .returned (.bool true) ∧ Below w.heap.size w w' := by
  have HM := Lib.hid (made_any c l v u n w hx hc hy hl hn)
  have HA : Hid (∀ W, Calls Try.prog 14 #[.int .i64 day, .int .i64 60] W fun e w' => e = .returned (.int .i64 (around day 60)) ∧ W = w') := fun W => around_any day 60 hd (by omega) W
  have h1 := around_lo day 60 (by omega)
  have h2 := around_hi day 60 (by omega)
  obtain ⟨hb0, hb1⟩ := baseF_in n
  obtain ⟨a1, c1, rfl, -, -, -⟩ := hx.open
  obtain ⟨a2, c2, rfl, -, -, -⟩ := hy.open
  generalize around day 60 = y at *
  generalize baseF n = D at *
  have q1 : IntKind.i64.wrap (D - 5) = D - 5 := by rw [IntKind.wrap_i64]; omega
  have q2 : IntKind.i64.wrap (D - 5 + y) = D - 5 + y := by rw [IntKind.wrap_i64]; omega
  obtain ⟨dd, hdd⟩ : ∃ dd, max (-1) (min 3652058 (D - 5 + y)) = dd := ⟨_, rfl⟩
  clear hx hy hc hl hn hd
  go_enter Try.func3, Try.ntmps3
  go_wp2_with fail
  refine HM.out.mono ?_
  rintro e w1 ⟨v1, v2, rfl, cs, rs, HG, HR, hv1, hv2, hb1'⟩
  have HV2 := Lib.hid hv2
  have HB1 := Lib.hid hb1'
  have hrl := HR.out.2.1
  obtain ⟨a3, c3, rfl, -, -⟩ := hv2.open
  obtain ⟨a4, c4, rfl, -, -, -⟩ := hv1.open
  clear hv1 hv2 hb1' HM
  go_wp2_with fail
  refine (HA.out _).mono ?_
  rintro e w' ⟨rfl, rfl⟩
  go_wp2_with fail
  go_loopw [13] (fun i wr => ∃ k : Nat, i = .int .i64 k ∧ k ≤ rs.length ∧ Hid (Below w1.heap.size w1 wr)) (fun i _ => rs.length - (intOf i).toNat)
  case atStart => exact ⟨0, rfl, Nat.zero_le _, Lib.hid (Below.refl _ _)⟩
  case round =>
    obtain ⟨k, rfl, hk, HBR⟩ := hrel
    have ek : IntKind.i64.wrap ((k : Int) + 1) = ((k + 1 : Nat) : Int) := by rw [IntKind.wrap_i64]; omega
    by_cases hkl : k < rs.length
    · obtain ⟨b5, o5, q5, e5, hlt5, d0, d1, d2, d3⟩ := (HV2.out.below HBR.out).at hkl
      simp only [Value.slice.injEq, true_and] at e5
      obtain ⟨rfl, -⟩ := e5
      generalize rs[k] = s at *
      obtain ⟨sc, sk, sf, su⟩ := s
      simp only at d0 d1 d2 d3
      obtain ⟨wb, hwb⟩ : ∃ wb : Int → Bool, ∀ d, wrongB ⟨sc, sk, sf, su⟩ d = wb d := ⟨_, fun _ => rfl⟩
      have W1 : Hid (∀ d W, Calls Try.prog 15 #[.agg #[.int .i64 sc, .int .i64 sk, .int .i64 sf, .int .i64 su], .int .i64 d] W fun e w' => e = .returned (.bool (wb d)) ∧ Below W.heap.size W w') := fun d W => wrong_is ⟨sc, sk, sf, su⟩ d _ (hwb d) W
      have W2 : Hid (∀ d W, Calls Try.prog 16 #[.agg #[.int .i64 sc, .int .i64 sk, .int .i64 sf, .int .i64 su], .int .i64 d] W fun e w' => e = .returned (.bool (wb d)) ∧ Below W.heap.size W w') := fun d W => refWrong_is ⟨sc, sk, sf, su⟩ d _ (hwb d) W
      clear hwb
      have HJ : ∀ (X Y : World), b5 < X.heap.size → Below X.heap.size X Y → (X.cell? ⟨b5, o5 + k * 4, none⟩ = some (.int .i64 sc) ∧ X.cell? ⟨b5, o5 + k * 4 + 1, none⟩ = some (.int .i64 sk) ∧ X.cell? ⟨b5, o5 + k * 4 + 2, none⟩ = some (.int .i64 sf) ∧ X.cell? ⟨b5, o5 + k * 4 + 3, none⟩ = some (.int .i64 su)) →
          Y.cell? ⟨b5, o5 + k * 4, none⟩ = some (.int .i64 sc) ∧ Y.cell? ⟨b5, o5 + k * 4 + 1, none⟩ = some (.int .i64 sk) ∧ Y.cell? ⟨b5, o5 + k * 4 + 2, none⟩ = some (.int .i64 sf) ∧ Y.cell? ⟨b5, o5 + k * 4 + 3, none⟩ = some (.int .i64 su) := fun X Y hlt hb ⟨x0, x1, x2, x3⟩ =>
        ⟨(hb.cell (p := ⟨b5, o5 + k * 4, none⟩) hlt).trans x0, (hb.cell (p := ⟨b5, o5 + k * 4 + 1, none⟩) hlt).trans x1, (hb.cell (p := ⟨b5, o5 + k * 4 + 2, none⟩) hlt).trans x2, (hb.cell (p := ⟨b5, o5 + k * 4 + 3, none⟩) hlt).trans x3⟩
      have HJ' := Lib.hid HJ
      clear HJ
      have K0 : Hid (wr.drew.cell? ⟨b5, o5 + k * 4, none⟩ = some (.int .i64 sc) ∧ wr.drew.cell? ⟨b5, o5 + k * 4 + 1, none⟩ = some (.int .i64 sk) ∧ wr.drew.cell? ⟨b5, o5 + k * 4 + 2, none⟩ = some (.int .i64 sf) ∧ wr.drew.cell? ⟨b5, o5 + k * 4 + 3, none⟩ = some (.int .i64 su)) := ⟨d0, d1, d2, d3⟩
      have HS0 : Hid (b5 < wr.drew.heap.size) := hlt5
      have HQ0 : Hid (Below w1.heap.size w1 wr.drew) := HBR.out.drew
      go_wp2_with fail
      go_region_held3 (fun w' => w'.cell? ⟨b5, o5 + k * 4, none⟩ = some (.int .i64 sc) ∧ w'.cell? ⟨b5, o5 + k * 4 + 1, none⟩ = some (.int .i64 sk) ∧ w'.cell? ⟨b5, o5 + k * 4 + 2, none⟩ = some (.int .i64 sf) ∧ w'.cell? ⟨b5, o5 + k * 4 + 3, none⟩ = some (.int .i64 su))
        (first
          | exact K6.out
          | exact K5.out
          | exact K4.out
          | exact K3.out
          | exact K0.out
          | go_keep)
        (first
          | (go_at_call 15
             refine (W1.out _ _).mono ?_
             rintro e w3 ⟨rfl, hb3⟩
             have K3 := Lib.hid (HJ'.out _ w3 HS0.out hb3 K0.out)
             have HS3 : Hid (b5 < w3.heap.size) := Nat.lt_of_lt_of_le HS0.out hb3.size
             have HB3 := Lib.hid (Below.to HQ0.out hb3 HQ0.out.size)
             have HQ3 := HB3
             have z3 := K3.out
             clear hb3)
          | (go_at_call 16
             refine (W2.out _ _).mono ?_
             rintro e w4 ⟨rfl, hb4⟩
             have K4 := Lib.hid (HJ'.out _ w4 HS3.out hb4 K3.out)
             have HS4 : Hid (b5 < w4.heap.size) := Nat.lt_of_lt_of_le HS3.out hb4.size
             have HB4 := Lib.hid (Below.to HQ3.out hb4 HQ3.out.size)
             have HQ4 := HB4
             have z4 := K4.out
             clear hb4)
          | (go_at_call 15
             refine (W1.out _ _).mono ?_
             rintro e w5 ⟨rfl, hb5⟩
             have K5 := Lib.hid (HJ'.out _ w5 HS4.out hb5 K4.out)
             have HS5 : Hid (b5 < w5.heap.size) := Nat.lt_of_lt_of_le HS4.out hb5.size
             have HB5 := Lib.hid (Below.to HQ4.out hb5 HQ4.out.size)
             have HQ5 := HB5
             have z5 := K5.out
             clear hb5)
          | (go_at_call 16
             refine (W2.out _ _).mono ?_
             rintro e w6 ⟨rfl, hb6⟩
             have K6 := Lib.hid (HJ'.out _ w6 HS5.out hb6 K5.out)
             have HS6 : Hid (b5 < w6.heap.size) := Nat.lt_of_lt_of_le HS5.out hb6.size
             have HB6 := Lib.hid (Below.to HQ5.out hb6 HQ5.out.size)
             have HQ6 := HB6
             have z6 := K6.out
             clear hb6))
      all_goals
        clear K0 K3 K4 K5 K6 HJ'
        go_wp2_with fail
        go_roundw
        case rel => exact ⟨k + 1, by go_num, by omega, HB6⟩
        case measure => simp [intOf]; omega
    · go_wp2_with fail
      refine (lives_any _).mono ?_
      rintro e w9 ⟨rfl, hb9⟩
      have HB9 := Lib.hid (Below.to HB1.out (Below.to HBR.out hb9 HBR.out.size) HB1.out.size)
      clear hb9
      go_wp2_with fail
      go_ret
      exact ⟨rfl, HB9.out⟩

end Go.Proofs.Ytbiedadgejgnoaa
