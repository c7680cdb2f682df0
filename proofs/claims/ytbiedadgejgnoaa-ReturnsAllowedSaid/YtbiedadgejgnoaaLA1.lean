/-
  The law ReturnsAllowed: its walk.
-/
import Derived.Test.YtbiedadgejgnoaaRtU
import Derived.Test.YtbiedadgejgnoaaRtK
import Derived.Test.YtbiedadgejgnoaaRtZ
namespace Go.Proofs.Ytbiedadgejgnoaa
open Go.RowKit

set_option maxHeartbeats 4000000 in
set_option maxRecDepth 100000 in
theorem returnsAllowed_any (c l : List Int) (v u : Value) (n later : Int) (w : World) (hx : IsInts w v c) (hc : ∀ x ∈ c, I64 x) (hy : IsInts w u l) (hl : ∀ x ∈ l, I64 x) (hn : I64 n) (hd : I64 later) :
    Calls Try.prog 4 #[v, u, .int .i64 n, .int .i64 later] w fun e w' => e = .returned (.bool true) ∧ Below w.heap.size w w' := by
  have HM := Lib.hid (made_any c l v u n w hx hc hy hl hn)
  have HA : Hid (∀ W, Calls Try.prog 14 #[.int .i64 later, .int .i64 50] W fun e w' => e = .returned (.int .i64 (around later 50)) ∧ W = w') := fun W => around_any later 50 hd (by omega) W
  have HZ : Hid (∀ W, Calls Try.prog 14 #[.int .i64 later, .int .i64 3652059] W fun e w' => e = .returned (.int .i64 (around later 3652059)) ∧ W = w') := fun W => around_any later 3652059 hd (by omega) W
  have h1 := around_lo later 50 (by omega)
  have h2 := around_hi later 50 (by omega)
  have h3 := around_lo later 3652059 (by omega)
  have h4 := around_hi later 3652059 (by omega)
  obtain ⟨hb0, hb1⟩ := baseF_in n
  obtain ⟨a1, c1, rfl, -, -, -⟩ := hx.open
  obtain ⟨a2, c2, rfl, -, -, -⟩ := hy.open
  generalize around later 50 = y at *
  generalize around later 3652059 = z at *
  generalize baseF n = D at *
  have q1 : IntKind.i64.wrap (D + y) = D + y := by rw [IntKind.wrap_i64]; omega
  obtain ⟨dd, hdd⟩ : ∃ dd, min 3652058 (D + y) = dd := ⟨_, rfl⟩
  have hd0 : 0 ≤ dd ∧ dd ≤ 3652058 := by omega
  clear hx hy hc hl hn hd
  go_enter Try.func4, Try.ntmps4
  go_wp2_with fail
  refine HM.out.mono ?_
  rintro e w1 ⟨v1, v2, rfl, cs, rs, HG, HR, hv1, hv2, hb1'⟩
  have hrl := HR.out.2.1
  have hcl := HG.out.2.2
  obtain ⟨a3, c3, rfl, -, -⟩ := hv2.open
  obtain ⟨a4, c4, rfl, -, -, -⟩ := hv1.open
  go_wp2_with fail
  refine (HA.out _).mono ?_
  rintro e w' ⟨rfl, rfl⟩
  go_wp2_with fail
  refine (HZ.out _).mono ?_
  rintro e w' ⟨rfl, rfl⟩
  obtain ⟨W2, hW2⟩ : ∃ W2, W2 = w1.alloc (.cells #[.int .i64 D, .int .i64 dd, .int .i64 z] 3) := ⟨_, rfl⟩
  have HTB : Hid (∀ k, k < 3 → ∃ s, W2.cell? ⟨w1.heap.size, k, none⟩ = some (.int .i64 s) ∧ 0 ≤ s ∧ s ≤ 3652058) := by
    intro k hk
    rw [hW2]
    rcases (by omega : k = 0 ∨ k = 1 ∨ k = 2) with rfl | rfl | rfl
    · exact ⟨_, (cells_alloc _ _ _ _).trans rfl, by omega, by omega⟩
    · exact ⟨_, (cells_alloc _ _ _ _).trans rfl, by omega, by omega⟩
    · exact ⟨_, (cells_alloc _ _ _ _).trans rfl, by omega, by omega⟩
  have HB12 : Hid (Below w1.heap.size w1 W2) := by show Below _ _ _; rw [hW2]; exact (Below.refl _ _).alloc (Nat.le_refl _) _
  have HSZ : Hid (w1.heap.size < W2.heap.size) := by show _ < _; rw [hW2]; simp
  have HV1 := Lib.hid (hv1.below HB12.out)
  have HV2 := Lib.hid (hv2.below HB12.out)
  have HB2 := Lib.hid (Below.to hb1' HB12.out hb1'.size)
  have HW2 := Lib.hid hW2
  clear hv1 hv2 hb1' HM hW2 h1 h2 h3 h4
  go_wp2_with fail
  rw [← HW2.out]
  clear hdd
  go_loopw [13] (fun i wr => ∃ k : Nat, i = .int .i64 k ∧ k ≤ 3 ∧ Hid (Below W2.heap.size W2 wr)) (fun i _ => 3 - (intOf i).toNat)
  case atStart => exact ⟨0, rfl, Nat.zero_le _, Lib.hid (Below.refl _ _)⟩
  case round =>
    obtain ⟨k, rfl, hk, HBR⟩ := hrel
    have ek : IntKind.i64.wrap ((k : Int) + 1) = ((k + 1 : Nat) : Int) := by rw [IntKind.wrap_i64]; omega
    by_cases hk3 : k < 3
    · obtain ⟨s, hs, hs0, hs1⟩ := HTB.out k hk3
      have hlt := HSZ.out
      have C0 := (HBR.out.cell (p := ⟨w1.heap.size, k, none⟩) hlt).trans hs
      have hk3' : (k : Int) < 3 := by omega
      go_wp2_with fail
      refine (allowed_any rs cs _ _ s _ (HV2.out.below HBR.out) (HV1.out.below HBR.out) (by omega) (by omega) HR.out.1 HG.out.1.ok hs0 hs1).mono ?_
      rintro e w3 ⟨v5, nv, rfl, out, HAL, hv5, hb3⟩
      have HB3 := Lib.hid (Below.to HBR.out hb3 HBR.out.size)
      have C1 := (HB3.out.cell (p := ⟨w1.heap.size, k, none⟩) hlt).trans hs
      have HV5 := Lib.hid hv5
      obtain ⟨a5, c5, rfl, -, -, -⟩ := hv5.open
      clear hb3 C0 hv5
      go_wp2_with fail
      refine (refAllowed_any rs cs _ _ s _ (HV2.out.below HB3.out) (HV1.out.below HB3.out) (by omega) (by omega) HR.out.1 HG.out.1.ok hs0 hs1).mono ?_
      rintro e w4 ⟨v6, nv', rfl, out', HAL', hv6, hb4⟩
      obtain ⟨rfl, rfl⟩ := Alw.eq HAL.out HAL'.out (fun _ _ => rfl)
      have HB4 := Lib.hid (Below.to HB3.out hb4 HB3.out.size)
      have C2 := (HB4.out.cell (p := ⟨w1.heap.size, k, none⟩) hlt).trans hs
      have HV6 := Lib.hid hv6
      have HV5' := Lib.hid (HV5.out.below hb4)
      obtain ⟨a6, c6, rfl, -, -, -⟩ := hv6.open
      clear hb4 C1 hv6 HV5 HAL'
      go_wp2_with fail
      refine (served_any rs cs _ _ s _ (HV2.out.below HB4.out) (HV1.out.below HB4.out) (by omega) (by omega) HR.out.1 HG.out.1.ok hs0 hs1).mono ?_
      rintro e w5 ⟨x, b, rfl, out5, nv5, HS5, HX5, hb5⟩
      obtain ⟨rfl, rfl⟩ := Alw.eq HAL.out HS5.out (fun _ _ => rfl)
      have HB5 := Lib.hid (Below.to HB4.out hb5 HB4.out.size)
      have C3 := (HB5.out.cell (p := ⟨w1.heap.size, k, none⟩) hlt).trans hs
      have HV6' := Lib.hid (HV6.out.below hb5)
      have HV5 := Lib.hid (HV5'.out.below hb5)
      clear hb5 C2 HV6 HV5' HS5
      go_wp2_with fail
      refine (refServed_any rs cs _ _ s _ (HV2.out.below HB5.out) (HV1.out.below HB5.out) (by omega) (by omega) HR.out.1 HG.out.1.ok hs0 hs1).mono ?_
      rintro e w6 ⟨x', b', rfl, out6, nv6, HS6, HX6, hb6⟩
      obtain ⟨rfl, rfl⟩ := Alw.eq HAL.out HS6.out (fun _ _ => rfl)
      obtain ⟨rfl, rfl⟩ : x' = x ∧ b' = b := by
        have := HX6.out.trans HX5.out.symm
        injection this with e1 e2
        exact ⟨e1, e2⟩
      have HB6 := Lib.hid (Below.to HB5.out hb6 HB5.out.size)
      have HV6 := Lib.hid (HV6'.out.below hb6)
      have HV5' := Lib.hid (HV5.out.below hb6)
      clear hb6 C3 HV6' HV5 HS6 HX6 HX5 HAL
      go_wp2_with fail
      refine (sameSpans_eq _ _ _ _ HV5'.out HV6.out).mono ?_
      rintro e w7 ⟨rfl, hb7⟩
      have HB7 := Lib.hid (Below.to HB6.out hb7 HB6.out.size)
      clear hb7
      cases nv <;> cases b'
      all_goals
        go_wp2_with fail
        go_roundw
        case rel => exact ⟨k + 1, by go_num, by omega, HB7⟩
        case measure => simp [intOf]; omega
    · have HB9 := Lib.hid (Below.to HB2.out HBR.out HB2.out.size)
      have hk3' : ¬ (k : Int) < 3 := by omega
      go_wp2_with fail
      refine (lives_any _).mono ?_
      rintro e w99 ⟨rfl, hb99⟩
      have HB99 := Lib.hid (Below.to HB9.out hb99 HB9.out.size)
      clear hb99
      go_wp2_with fail
      go_ret
      exact ⟨rfl, HB99.out⟩

end Go.Proofs.Ytbiedadgejgnoaa
