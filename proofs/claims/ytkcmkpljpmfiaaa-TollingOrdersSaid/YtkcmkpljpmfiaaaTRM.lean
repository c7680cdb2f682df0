/-
  The law TollingMerges: Merge and Days agree with the reference; its walk.
-/
import Derived.Test.YtkcmkpljpmfiaaaRfE
import Derived.Test.YtkcmkpljpmfiaaaTR8
namespace Go.Proofs.Ytkcmkpljpmfiaaa
open Go.RowKit

theorem spansF_InR (l : List Int) (d : Int) : InR (spansF l d) := fun s hs => spansF_in l d s hs

set_option maxHeartbeats 2000000 in
set_option maxRecDepth 100000 in
theorem tollingMerges_any (l : List Int) (v : Value) (n how a b : Int) (w : World) (hx : IsInts w v l) (hw : ∀ x ∈ l, I64 x) (hn : I64 n) (hh : I64 how) (ha : I64 a) (hb : I64 b) :
    Calls Try.prog 3 #[v, .int .i64 n, .int .i64 how, .int .i64 a, .int .i64 b] w fun e w' => e = .returned (.bool true) ∧ Below w.heap.size w w' := by
  have hbs := base_any n how hn hh w
  have hdr := baseF_in n how
  obtain ⟨d, hd⟩ : ∃ d, baseF n how = d := ⟨_, rfl⟩
  rw [hd] at hbs hdr
  obtain ⟨hd1, hd2⟩ := hdr
  have HBS := Lib.hid hbs
  have HSP := Lib.hid (spans_any l v d w hx hw (by omega))
  obtain ⟨p, hp⟩ : ∃ p, around a 100 = p := ⟨_, rfl⟩
  obtain ⟨q, hq⟩ : ∃ q, around b 100 = q := ⟨_, rfl⟩
  have hp0 := around_lo a 100 (by omega)
  have hp9 := around_hi a 100 (by omega)
  have hq0 := around_lo b 100 (by omega)
  have hq9 := around_hi b 100 (by omega)
  have HP : Hid (∀ w, Calls Try.prog 15 #[.int .i64 a, .int .i64 100] w fun e w' => e = .returned (.int .i64 p) ∧ w = w') := fun w => by rw [← hp]; exact around_any a 100 ha (by omega) w
  have HQ : Hid (∀ w, Calls Try.prog 15 #[.int .i64 b, .int .i64 100] w fun e w' => e = .returned (.int .i64 q) ∧ w = w') := fun w => by rw [← hq]; exact around_any b 100 hb (by omega) w
  rw [hp] at hp0 hp9
  rw [hq] at hq0 hq9
  obtain ⟨F, hF⟩ : ∃ F, clipF (d - 30 + p) = F := ⟨_, rfl⟩
  obtain ⟨U, hU⟩ : ∃ U, clipF (d - 30 + q) = U := ⟨_, rfl⟩
  have hFB : DayB F := by have := clipF_in (d - 30 + p); unfold DayB; omega
  have hUB : DayB U := by have := clipF_in (d - 30 + q); unfold DayB; omega
  have HCF : Hid (∀ w, Calls Try.prog 14 #[.int .i64 (d - 30 + p)] w fun e w' => e = .returned (.int .i64 F) ∧ w = w') := fun w => by rw [← hF]; exact clip_any _ w
  have HCU : Hid (∀ w, Calls Try.prog 14 #[.int .i64 (d - 30 + q)] w fun e w' => e = .returned (.int .i64 U) ∧ w = w') := fun w => by rw [← hU]; exact clip_any _ w
  have hr := spansF_InR l d
  have hsl : (spansF l d).length ≤ 100000 := by have := spansF_len l d; omega
  have HM : Hid (∀ v w, IsSps w v (spansF l d) → Calls Try.prog 17 #[v] w fun e w' => ∃ v', e = .returned v' ∧ IsSps w' v' (mrg (spansF l d)) ∧ Below w.heap.size w w') := fun v w h => merge_fun _ v w h hsl hr.B hr.val
  have HRM : Hid (∀ v w, IsSps w v (spansF l d) → Calls Try.prog 18 #[v] w fun e w' => ∃ v', e = .returned v' ∧ IsSps w' v' (mrg (spansF l d)) ∧ Below w.heap.size w w') := fun v w h => refMerge_any _ v w h hsl hr.B hr.val hr.lo
  obtain ⟨D, hD⟩ : ∃ D, daysF F U (mrg (spansF l d)) = D := ⟨_, rfl⟩
  have HDA : Hid (∀ v w, IsSps w v (spansF l d) → Calls Try.prog 19 #[v, .int .i64 F, .int .i64 U] w fun e w' => e = .returned (.int .i64 D) ∧ Below w.heap.size w w') := fun v w h => by rw [← hD]; exact days_fun _ v F U w h hsl hr.B hr.val hFB hUB
  have HRD : Hid (∀ v w, IsSps w v (spansF l d) → Calls Try.prog 20 #[v, .int .i64 F, .int .i64 U] w fun e w' => e = .returned (.int .i64 D) ∧ Below w.heap.size w w') := fun v w h => by rw [← hD]; exact refDays_any _ v F U w h hsl hr hFB hUB
  have q1 : IntKind.i64.wrap (d - 30) = d - 30 := by rw [IntKind.wrap_i64]; omega
  have q2 : IntKind.i64.wrap (d - 30 + p) = d - 30 + p := by rw [IntKind.wrap_i64]; omega
  have q3 : IntKind.i64.wrap (d - 30 + q) = d - 30 + q := by rw [IntKind.wrap_i64]; omega
  clear hbs hd hd1 hd2 hx hw hn hh ha hb hp hq hp0 hp9 hq0 hq9 hF hU hFB hUB hr hsl hD
  generalize spansF l d = S at *
  go_enter Try.func3, Try.ntmps3
  go_wp2_with fail
  refine HBS.out.mono ?_
  rintro e w' ⟨rfl, rfl⟩
  go_wp2_with fail
  refine HSP.out.mono ?_
  rintro e w1 ⟨v1, rfl, hv1, hb1⟩
  have HV1 := Lib.hid hv1
  have HB1 := Lib.hid hb1
  clear hv1 hb1
  go_wp2_with fail
  refine (HP.out _).mono ?_
  rintro e w' ⟨rfl, rfl⟩
  go_wp2_with fail
  refine (HCF.out _).mono ?_
  rintro e w' ⟨rfl, rfl⟩
  go_wp2_with fail
  refine (HQ.out _).mono ?_
  rintro e w' ⟨rfl, rfl⟩
  go_wp2_with fail
  refine (HCU.out _).mono ?_
  rintro e w' ⟨rfl, rfl⟩
  go_wp2_with fail
  refine (HM.out _ _ HV1.out).mono ?_
  rintro e w2 ⟨v2, rfl, hv2, hb2⟩
  have HV2 := Lib.hid (HV1.out.below hb2)
  have HM2 := Lib.hid hv2
  have HB2 := Lib.hid (Below.to HB1.out hb2 HB1.out.size)
  clear hb2 hv2
  go_wp2_with fail
  refine (HRM.out _ _ HV2.out).mono ?_
  rintro e w3 ⟨v3, rfl, hv3, hb3⟩
  have HV3 := Lib.hid (HV2.out.below hb3)
  have HS3 := Lib.hid (sameSpans_eq _ _ _ _ (HM2.out.below hb3) hv3)
  have HB3 := Lib.hid (Below.to HB2.out hb3 HB2.out.size)
  clear hb3 hv3
  go_wp2_with fail
  refine HS3.out.mono ?_
  rintro e w4 ⟨rfl, hb4⟩
  have HV4 := Lib.hid (HV3.out.below hb4)
  have HB4 := Lib.hid (Below.to HB3.out hb4 HB3.out.size)
  clear hb4
  go_wp2_with fail
  refine (HDA.out _ _ HV4.out).mono ?_
  rintro e w5 ⟨rfl, hb5⟩
  have HV5 := Lib.hid (HV4.out.below hb5)
  have HB5 := Lib.hid (Below.to HB4.out hb5 HB4.out.size)
  clear hb5
  go_wp2_with fail
  refine (HRD.out _ _ HV5.out).mono ?_
  rintro e w6 ⟨rfl, hb6⟩
  have HB6 := Lib.hid (Below.to HB5.out hb6 HB5.out.size)
  clear hb6
  go_wp2_with fail
  refine (lives_any _).mono ?_
  rintro e w99 ⟨rfl, hb99⟩
  go_wp2_with fail
  go_ret
  exact ⟨rfl, Below.to HB6.out hb99 HB6.out.size⟩

end Go.Proofs.Ytkcmkpljpmfiaaa
