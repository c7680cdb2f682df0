/-
  The law TollingExtends: Extend and Used agree with the reference; its walk.
-/
import Derived.Test.YtkcmkpljpmfiaaaTRM
import Derived.Deep.RegionHeld3
namespace Go.Proofs.Ytkcmkpljpmfiaaa
open Go.RowKit

set_option maxHeartbeats 4000000 in
set_option maxRecDepth 100000 in
theorem tollingExtends_any (l : List Int) (v : Value) (n how a b : Int) (w : World) (hx : IsInts w v l) (hw : ∀ x ∈ l, I64 x) (hn : I64 n) (hh : I64 how) (ha : I64 a) (hb : I64 b) :
    Calls Try.prog 4 #[v, .int .i64 n, .int .i64 how, .int .i64 a, .int .i64 b] w fun e w' => e = .returned (.bool true) ∧ Below w.heap.size w w' := by
  have hbs := base_any n how hn hh w
  have hdr := baseF_in n how
  obtain ⟨d, hd⟩ : ∃ d, baseF n how = d := ⟨_, rfl⟩
  rw [hd] at hbs hdr
  obtain ⟨hd1, hd2⟩ := hdr
  have HBS := Lib.hid hbs
  have HSP := Lib.hid (spans_any l v d w hx hw (by omega))
  obtain ⟨p, hp⟩ : ∃ p, around a 60 = p := ⟨_, rfl⟩
  obtain ⟨q, hq⟩ : ∃ q, around b 70 = q := ⟨_, rfl⟩
  obtain ⟨D1, hD1⟩ : ∃ D1, around b 3652059 = D1 := ⟨_, rfl⟩
  have hp0 := around_lo a 60 (by omega)
  have hp9 := around_hi a 60 (by omega)
  have hq0 := around_lo b 70 (by omega)
  have hq9 := around_hi b 70 (by omega)
  have hD10 := around_lo b 3652059 (by omega)
  have hD19 := around_hi b 3652059 (by omega)
  have HP : Hid (∀ w, Calls Try.prog 15 #[.int .i64 a, .int .i64 60] w fun e w' => e = .returned (.int .i64 p) ∧ w = w') := fun w => by rw [← hp]; exact around_any a 60 ha (by omega) w
  have HQ : Hid (∀ w, Calls Try.prog 15 #[.int .i64 b, .int .i64 70] w fun e w' => e = .returned (.int .i64 q) ∧ w = w') := fun w => by rw [← hq]; exact around_any b 70 hb (by omega) w
  have HD1 : Hid (∀ w, Calls Try.prog 15 #[.int .i64 b, .int .i64 3652059] w fun e w' => e = .returned (.int .i64 D1) ∧ w = w') := fun w => by rw [← hD1]; exact around_any b 3652059 hb (by omega) w
  rw [hp] at hp0 hp9
  rw [hq] at hq0 hq9
  rw [hD1] at hD10 hD19
  obtain ⟨ST, hST⟩ : ∃ ST, clipF (d - 20 + p) = ST := ⟨_, rfl⟩
  obtain ⟨D0, hD0⟩ : ∃ D0, clipF (ST - 10 + q) = D0 := ⟨_, rfl⟩
  have hSTB : 0 ≤ ST ∧ ST ≤ 3652058 := by have := clipF_in (d - 20 + p); omega
  have hD0B : 0 ≤ D0 ∧ D0 ≤ 3652058 := by have := clipF_in (ST - 10 + q); omega
  have HCF : Hid (∀ w, Calls Try.prog 14 #[.int .i64 (d - 20 + p)] w fun e w' => e = .returned (.int .i64 ST) ∧ w = w') := fun w => by rw [← hST]; exact clip_any _ w
  have HCU : Hid (∀ w, Calls Try.prog 14 #[.int .i64 (ST - 10 + q)] w fun e w' => e = .returned (.int .i64 D0) ∧ w = w') := fun w => by rw [← hD0]; exact clip_any _ w
  have hr := spansF_InR l d
  have hsl : (spansF l d).length ≤ 100000 := by have := spansF_len l d; omega
  have HE : Hid (∀ D v w, (0 ≤ D ∧ D ≤ 3652058) → IsSps w v (spansF l d) → Calls Try.prog 22 #[.int .i64 ST, .int .i64 D, v] w fun e w' => e = .returned (.tuple #[.int .i64 (extF ST D (mrg (spansF l d))).1, .int .i64 (extF ST D (mrg (spansF l d))).2]) ∧ Below w.heap.size w w') :=
    fun D v w hD h => extend_fun _ v ST D w h hsl hr.B hr.val (by unfold DayB; omega) (by unfold DayB; omega)
  have HRE : Hid (∀ D v w, (0 ≤ D ∧ D ≤ 3652058) → IsSps w v (spansF l d) → Calls Try.prog 23 #[.int .i64 ST, .int .i64 D, v] w fun e w' => e = .returned (.tuple #[.int .i64 (extF ST D (mrg (spansF l d))).1, .int .i64 (extF ST D (mrg (spansF l d))).2]) ∧ Below w.heap.size w w') :=
    fun D v w hD h => refExtend_any _ v ST D w h hsl hr hSTB hD
  have HU : Hid (∀ D v w, (0 ≤ D ∧ D ≤ 3652058) → IsSps w v (spansF l d) → Calls Try.prog 24 #[.int .i64 ST, .int .i64 D, v] w fun e w' => ∃ v', e = .returned v' ∧ IsSps w' v' (usedF ST D (mrg (spansF l d)) (spansF l d)) ∧ Below w.heap.size w w') :=
    fun D v w hD h => used_fun _ v ST D w h hsl hr.B hr.val (by unfold DayB; omega) (by unfold DayB; omega)
  have HRU : Hid (∀ D v w, (0 ≤ D ∧ D ≤ 3652058) → IsSps w v (spansF l d) → Calls Try.prog 25 #[.int .i64 ST, .int .i64 D, v] w fun e w' => ∃ v', e = .returned v' ∧ IsSps w' v' (usedF ST D (mrg (spansF l d)) (spansF l d)) ∧ Below w.heap.size w w') :=
    fun D v w hD h => refUsed_any _ v ST D w h hsl hr hSTB hD
  have q1 : IntKind.i64.wrap (d - 20) = d - 20 := by rw [IntKind.wrap_i64]; omega
  have q2 : IntKind.i64.wrap (d - 20 + p) = d - 20 + p := by rw [IntKind.wrap_i64]; omega
  have q3 : IntKind.i64.wrap (ST - 10) = ST - 10 := by rw [IntKind.wrap_i64]; omega
  have q4 : IntKind.i64.wrap (ST - 10 + q) = ST - 10 + q := by rw [IntKind.wrap_i64]; omega
  have HD01 : Hid ((0 ≤ D0 ∧ D0 ≤ 3652058) ∧ 0 ≤ D1 ∧ D1 ≤ 3652058) := ⟨hD0B, hD10, by omega⟩
  clear hbs hd hd1 hd2 hx hw hn hh ha hb hp hq hp0 hp9 hq0 hq9 hST hD0 hD1 hD10 hD19 hSTB hD0B hr hsl
  generalize mrg (spansF l d) = M at *
  generalize spansF l d = S at *
  go_enter Try.func4, Try.ntmps4
  go_wp2_with fail
  refine HBS.out.mono ?_
  rintro e w' ⟨rfl, rfl⟩
  go_wp2_with fail
  refine HSP.out.mono ?_
  rintro e w1 ⟨v1, rfl, hv1, hb1⟩
  obtain ⟨W1, hW1⟩ : ∃ W1, W1 = w1.alloc (.cells #[.int .i64 D0, .int .i64 D1] 3) := ⟨_, rfl⟩
  have hbW : Below w1.heap.size w1 W1 := by rw [hW1]; exact (Below.refl _ _).alloc (Nat.le_refl _) _
  have hcw : ∀ o, W1.cell? ⟨w1.heap.size, o, none⟩ = (#[.int .i64 D0, .int .i64 D1] : Array Value)[o]? := by rw [hW1]; exact cells_alloc w1 _ _
  have HC : Hid (∀ k : Nat, k < 2 → ∃ D, (0 ≤ D ∧ D ≤ 3652058) ∧ W1.cell? ⟨w1.heap.size, k, none⟩ = some (.int .i64 D)) := fun k hk => by
    rcases (by omega : k = 0 ∨ k = 1) with rfl | rfl
    · exact ⟨D0, HD01.out.1, hcw 0⟩
    · exact ⟨D1, HD01.out.2, hcw 1⟩
  have HSZ : Hid (w1.heap.size < W1.heap.size) := by show _ < _; rw [hW1]; simp
  have HV1 := Lib.hid (hv1.below hbW)
  have HB1 := Lib.hid (Below.to hb1 hbW hb1.size)
  have HW1 := Lib.hid hW1
  obtain ⟨av, cv, rfl, -, -, -⟩ := hv1.open
  clear hv1 hb1 hbW hcw hW1
  go_wp2_with fail
  refine (HP.out _).mono ?_
  rintro e w' ⟨rfl, rfl⟩
  go_wp2_with fail
  refine (HCF.out _).mono ?_
  rintro e w' ⟨rfl, rfl⟩
  go_wp2_with fail
  refine (HQ.out _).mono ?_
  rintro e w' ⟨rfl, rfl⟩
  go_wp2_with fail
  refine (HCU.out _).mono ?_
  rintro e w' ⟨rfl, rfl⟩
  go_wp2_with fail
  refine (HD1.out _).mono ?_
  rintro e w' ⟨rfl, rfl⟩
  go_wp2_with fail
  rw [← HW1.out]
  go_loopw [15] (fun i wr => ∃ k : Nat, i = .int .i64 k ∧ k ≤ 2 ∧ Hid (Below W1.heap.size W1 wr)) (fun i _ => 2 - (intOf i).toNat)
  case atStart => exact ⟨0, rfl, by omega, Lib.hid (Below.refl _ _)⟩
  case round =>
    obtain ⟨k, rfl, hk, HBR⟩ := hrel
    by_cases hk2 : k < 2
    · obtain ⟨D, hD, hcell⟩ := HC.out k hk2
      have cr := (HBR.out.cell (p := ⟨w1.heap.size, k, none⟩) HSZ.out).trans hcell
      have hbk : w1.heap.size < wr.heap.size := Nat.lt_of_lt_of_le HSZ.out HBR.out.size
      have HVR := Lib.hid (HV1.out.below HBR.out)
      have HE1 : Hid (∀ v w, IsSps w v S → Calls Try.prog 22 #[.int .i64 ST, .int .i64 D, v] w fun e w' => e = .returned (.tuple #[.int .i64 (extF ST D M).1, .int .i64 (extF ST D M).2]) ∧ Below w.heap.size w w') := fun v w h => HE.out D v w hD h
      have HRE1 : Hid (∀ v w, IsSps w v S → Calls Try.prog 23 #[.int .i64 ST, .int .i64 D, v] w fun e w' => e = .returned (.tuple #[.int .i64 (extF ST D M).1, .int .i64 (extF ST D M).2]) ∧ Below w.heap.size w w') := fun v w h => HRE.out D v w hD h
      have HU1 := Lib.hid (fun v w h => HU.out D v w hD h)
      have HRU1 := Lib.hid (fun v w h => HRU.out D v w hD h)
      generalize (extF ST D M).1 = X at *
      generalize (extF ST D M).2 = Y at *
      generalize usedF ST D M S = UL at *
      clear hcell hD
      go_wp2_with fail
      refine (HE1.out _ _ HVR.out).mono ?_
      rintro e w2 ⟨rfl, hb2⟩
      have HV2 := Lib.hid (HVR.out.below hb2)
      have cr2 := (hb2.cell (p := ⟨w1.heap.size, k, none⟩) hbk).trans cr
      have hbk2 : w1.heap.size < w2.heap.size := Nat.lt_of_lt_of_le hbk hb2.size
      have HB2 := Lib.hid (Below.to HBR.out hb2 HBR.out.size)
      clear hb2 HVR cr
      go_wp2_with fail
      refine (HRE1.out _ _ HV2.out).mono ?_
      rintro e w3 ⟨rfl, hb3⟩
      have HV3 := Lib.hid (HV2.out.below hb3)
      have cr3 := (hb3.cell (p := ⟨w1.heap.size, k, none⟩) hbk2).trans cr2
      have hbk3 : w1.heap.size < w3.heap.size := Nat.lt_of_lt_of_le hbk2 hb3.size
      have HB3 := Lib.hid (Below.to HB2.out hb3 HB2.out.size)
      clear hb3 HV2 HB2 cr2 HBR
      go_wp2_with fail
      go_region_held3 (fun w' => w'.cell? ⟨w1.heap.size, k, none⟩ = some (.int .i64 D))
        (first
          | exact cr6
          | exact cr5
          | exact cr4
          | go_keep)
        (first
          | (go_at_call 24
             refine (HU1.out _ _ (HV3.out.below (below_drewN (Below.refl _ _) _))).mono ?_
             rintro e w4 ⟨v4, rfl, hv4, hb4⟩
             have cr4 : w4.cell? ⟨w1.heap.size, k, none⟩ = some (.int .i64 D) := (hb4.cell (p := ⟨w1.heap.size, k, none⟩) hbk3).trans cr3
             have HB4 := Lib.hid (Below.to HB3.out (Below.to (below_drewN (Below.refl _ _) _) hb4 (Nat.le_refl _)) HB3.out.size)
             have HV4 := Lib.hid ((HV3.out.below (below_drewN (Below.refl _ _) _)).below hb4)
             have HU4 := Lib.hid hv4
             have hbk4 : w1.heap.size < w4.heap.size := Nat.lt_of_lt_of_le hbk3 hb4.size
             clear hv4 hb4)
          | (go_at_call 25
             refine (HRU1.out _ _ HV4.out).mono ?_
             rintro e w5 ⟨v5, rfl, hv5, hb5⟩
             have cr5 : w5.cell? ⟨w1.heap.size, k, none⟩ = some (.int .i64 D) := (hb5.cell (p := ⟨w1.heap.size, k, none⟩) hbk4).trans cr4
             have HB5 := Lib.hid (Below.to HB4.out hb5 HB4.out.size)
             have HS5 := Lib.hid (sameSpans_eq _ _ _ _ (HU4.out.below hb5) hv5)
             have hbk5 : w1.heap.size < w5.heap.size := Nat.lt_of_lt_of_le hbk4 hb5.size
             clear hv5 hb5)
          | (go_at_call 16
             refine HS5.out.mono ?_
             rintro e w6 ⟨rfl, hb6⟩
             have HB6 := Lib.hid (Below.to HB5.out hb6 HB5.out.size)
             have cr6 : w6.cell? ⟨w1.heap.size, k, none⟩ = some (.int .i64 D) := (hb6.cell (p := ⟨w1.heap.size, k, none⟩) hbk5).trans cr5
             clear hb6))
      go_wp2_with fail
      go_roundw
      case rel => exact ⟨k + 1, by go_num, by omega, HB6⟩
      case measure => simp [intOf]; omega
    · go_wp2_with fail
      refine (lives_any _).mono ?_
      rintro e w99 ⟨rfl, hb99⟩
      go_wp2_with fail
      go_ret
      exact ⟨rfl, Below.to (Below.to HB1.out HBR.out HB1.out.size) hb99 (Nat.le_trans HB1.out.size HBR.out.size)⟩

end Go.Proofs.Ytkcmkpljpmfiaaa
