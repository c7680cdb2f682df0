/-
  The law TollingCounts: the result of Extend is the day found by counting; its walk.
-/
import Derived.Test.YtkcmkpljpmfiaaaTRM
import Derived.Test.YtkcmkpljpmfiaaaSlw
namespace Go.Proofs.Ytkcmkpljpmfiaaa
open Go.RowKit

set_option maxHeartbeats 2000000 in
set_option maxRecDepth 100000 in
theorem tollingCounts_any (l : List Int) (v : Value) (n a b : Int) (w : World) (hx : IsInts w v l) (hw : ∀ x ∈ l, I64 x) (hn : I64 n) (ha : I64 a) (hb : I64 b) :
    Calls Try.prog 5 #[v, .int .i64 n, .int .i64 a, .int .i64 b] w fun e w' => e = .returned (.bool true) ∧ Below w.heap.size w w' := by
  have hbs := base_any n 2 hn (by unfold I64; omega) w
  have hd1 := around_lo n 60 (by omega)
  have hd2 := around_hi n 60 (by omega)
  obtain ⟨d, hd⟩ : ∃ d, baseF n 2 = d := ⟨_, rfl⟩
  have hdv : d = 739616 + around n 60 := by rw [← hd, base2]
  rw [hd] at hbs
  have hdr : 739616 ≤ d ∧ d < 739676 := by omega
  have HBS := Lib.hid hbs
  have HSP := Lib.hid (spans_any l v d w hx hw (by omega))
  obtain ⟨p, hp⟩ : ∃ p, around a 60 = p := ⟨_, rfl⟩
  obtain ⟨q, hq⟩ : ∃ q, around b 60 = q := ⟨_, rfl⟩
  have hp0 := around_lo a 60 (by omega)
  have hp9 := around_hi a 60 (by omega)
  have hq0 := around_lo b 60 (by omega)
  have hq9 := around_hi b 60 (by omega)
  have HP : Hid (∀ w, Calls Try.prog 15 #[.int .i64 a, .int .i64 60] w fun e w' => e = .returned (.int .i64 p) ∧ w = w') := fun w => by rw [← hp]; exact around_any a 60 ha (by omega) w
  have HQ : Hid (∀ w, Calls Try.prog 15 #[.int .i64 b, .int .i64 60] w fun e w' => e = .returned (.int .i64 q) ∧ w = w') := fun w => by rw [← hq]; exact around_any b 60 hb (by omega) w
  rw [hp] at hp0 hp9
  rw [hq] at hq0 hq9
  obtain ⟨ST, hST⟩ : ∃ ST, clipF (d - 20 + p) = ST := ⟨_, rfl⟩
  have hSTv : ST = d - 20 + p := by rw [← hST]; unfold clipF; omega
  have HCF : Hid (∀ w, Calls Try.prog 14 #[.int .i64 (d - 20 + p)] w fun e w' => e = .returned (.int .i64 ST) ∧ w = w') := fun w => by rw [← hST]; exact clip_any _ w
  have hSTB : 739596 ≤ ST ∧ ST ≤ 739800 := by omega
  have hr := spansF_InR l d
  have hsl : (spansF l d).length ≤ 100000 := by have := spansF_len l d; omega
  obtain ⟨m1, m2, m3⟩ := mrg_law hr.val
  obtain ⟨DU, hDU⟩ : ∃ DU, ST + 1 + q = DU := ⟨_, rfl⟩
  have hlt : ST < DU := by omega
  obtain ⟨G, hG⟩ : ∃ G, extGo ST DU (mrg (spansF l d)) = G := ⟨_, rfl⟩
  have hGe := ext_from (st := ST) (mrg (spansF l d)) DU
  obtain ⟨k1, k2⟩ := ext_days (st := ST) (mrg (spansF l d)) DU m2 m1 hlt
  have hle := daysF_le (f := ST + 1) (u := G) (hi := d + 73) (M := mrg (spansF l d)) (lo := d - 20) m2 m1 (mrg_in hr.val (spans_near hdr)) (by omega)
  rw [hG] at hGe k1 k2
  rw [k1] at hle
  have hG2 : G ≤ ST + 400 := by omega
  have hG3 : G ≤ 3652058 := by omega
  have hz : daysF G G (mrg (spansF l d)) = 0 := by
    have h := daysF_out (f := G) (u := G - 1) (M := mrg (spansF l d)) (by omega) (by rw [show G - 1 + 1 = G from by omega]; exact k2)
    rw [show G - 1 + 1 = G from by omega] at h
    rw [h, daysF_none (by omega)]
  have HE : Hid (∀ v w, IsSps w v (spansF l d) → Calls Try.prog 22 #[.int .i64 ST, .int .i64 DU, v] w fun e w' => e = .returned (.tuple #[.int .i64 G, .int .i64 0]) ∧ Below w.heap.size w w') := fun v w h => by
    have := extend_fun _ v ST DU w h hsl hr.B hr.val (by unfold DayB; omega) (by unfold DayB; omega)
    rw [extF_ok hlt (by rw [hG]; exact hG3), hG] at this
    exact this
  have HSL : Hid (∀ v w, IsSps w v (spansF l d) → Calls Try.prog 26 #[.int .i64 ST, .int .i64 DU, v, .int .i64 400] w fun e w' => e = .returned (.tuple #[.int .i64 G, .bool true]) ∧ w = w') := fun v w h => slow_any _ v ST DU w h hsl hr (by omega) hlt G hG hG2 hG3
  have HDZ : Hid (∀ v w, IsSps w v (spansF l d) → Calls Try.prog 19 #[v, .int .i64 G, .int .i64 G] w fun e w' => e = .returned (.int .i64 0) ∧ Below w.heap.size w w') := fun v w h => by
    have := days_fun _ v G G w h hsl hr.B hr.val (by unfold DayB; omega) (by unfold DayB; omega)
    rw [hz] at this
    exact this
  have HDD : Hid (∀ v w, IsSps w v (spansF l d) → Calls Try.prog 19 #[v, .int .i64 (ST + 1), .int .i64 G] w fun e w' => e = .returned (.int .i64 (G - DU)) ∧ Below w.heap.size w w') := fun v w h => by
    have := days_fun _ v (ST + 1) G w h hsl hr.B hr.val (by unfold DayB; omega) (by unfold DayB; omega)
    rw [k1] at this
    exact this
  have q1 : IntKind.i64.wrap (d - 20) = d - 20 := by rw [IntKind.wrap_i64]; omega
  have q2 : IntKind.i64.wrap (d - 20 + p) = d - 20 + p := by rw [IntKind.wrap_i64]; omega
  have q3 : IntKind.i64.wrap (ST + 1) = ST + 1 := by rw [IntKind.wrap_i64]; omega
  have q4 : IntKind.i64.wrap (ST + 1 + q) = ST + 1 + q := by rw [IntKind.wrap_i64]; omega
  have q6 : IntKind.i64.wrap DU = DU := by rw [IntKind.wrap_i64]; omega
  have q5 : IntKind.i64.wrap (G - DU) = G - DU := by rw [IntKind.wrap_i64]; omega
  clear hbs hd hdv hd1 hd2 hdr hx hw hn ha hb hp hq hp0 hp9 hq0 hq9 hST hSTv hSTB hr hsl hlt hG hGe k1 k2 m1 m2 m3 hle hG2 hG3 hz
  generalize spansF l d = S at *
  go_enter Try.func5, Try.ntmps5
  go_wp2_with fail
  refine HBS.out.mono ?_
  rintro e w' ⟨rfl, rfl⟩
  go_wp2_with fail
  refine HSP.out.mono ?_
  rintro e w1 ⟨v1, rfl, hv1, hb1⟩
  have HV1 := Lib.hid hv1
  have HB1 := Lib.hid hb1
  clear hv1 hb1
  go_wp2_with fail
  refine (HP.out _).mono ?_
  rintro e w' ⟨rfl, rfl⟩
  go_wp2_with fail
  refine (HCF.out _).mono ?_
  rintro e w' ⟨rfl, rfl⟩
  go_wp2_with fail
  refine (HQ.out _).mono ?_
  rintro e w' ⟨rfl, rfl⟩
  go_wp2_with fail
  refine (HE.out _ _ HV1.out).mono ?_
  rintro e w2 ⟨rfl, hb2⟩
  have HV2 := Lib.hid (HV1.out.below hb2)
  have HB2 := Lib.hid (Below.to HB1.out hb2 HB1.out.size)
  clear hb2
  go_wp2_with fail
  refine (HSL.out _ _ HV2.out).mono ?_
  rintro e w' ⟨rfl, rfl⟩
  go_wp2_with fail
  refine (HDZ.out _ _ HV2.out).mono ?_
  rintro e w3 ⟨rfl, hb3⟩
  have HV3 := Lib.hid (HV2.out.below hb3)
  have HB3 := Lib.hid (Below.to HB2.out hb3 HB2.out.size)
  clear hb3
  go_wp2_with fail
  refine (HDD.out _ _ HV3.out).mono ?_
  rintro e w4 ⟨rfl, hb4⟩
  have HB4 := Lib.hid (Below.to HB3.out hb4 HB3.out.size)
  clear hb4
  go_wp2_with fail
  refine (lives_any _).mono ?_
  rintro e w99 ⟨rfl, hb99⟩
  go_wp2_with fail
  go_ret
  exact ⟨rfl, Below.to HB4.out hb99 HB4.out.size⟩

end Go.Proofs.Ytkcmkpljpmfiaaa
