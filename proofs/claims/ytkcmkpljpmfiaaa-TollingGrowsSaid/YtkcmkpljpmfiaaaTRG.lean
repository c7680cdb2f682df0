/-
  The law TollingGrows: further spans and later dues; its walk.
-/
import Derived.Test.YtkcmkpljpmfiaaaGrL
import Derived.Test.YtkcmkpljpmfiaaaInA
import Derived.Outline
namespace Go.Proofs.Ytkcmkpljpmfiaaa
open Go.RowKit

set_option maxHeartbeats 4000000 in
set_option maxRecDepth 100000 in
theorem tollingGrows_any (l : List Int) (v : Value) (n a b more : Int) (w : World) (hx : IsInts w v l) (hw : ∀ x ∈ l, I64 x) (hn : I64 n) (ha : I64 a) (hb : I64 b) (hmo : I64 more) :
    Calls Try.prog 7 #[v, .int .i64 n, .int .i64 a, .int .i64 b, .int .i64 more] w fun e w' => e = .returned (.bool true) ∧ Below w.heap.size w w' := by
  have hbs := base_any n 2 hn (by unfold I64; omega) w
  have hd1 := around_lo n 60 (by omega)
  have hd2 := around_hi n 60 (by omega)
  obtain ⟨d, hd⟩ : ∃ d, baseF n 2 = d := ⟨_, rfl⟩
  have hdv : d = 739616 + around n 60 := by rw [← hd, base2]
  rw [hd] at hbs
  have hdr : 739616 ≤ d ∧ d < 739676 := by omega
  have HBS := Lib.hid hbs
  have HSP := Lib.hid (spans_any l v d w hx hw (by omega))
  obtain ⟨p, hp⟩ : ∃ p, around a 60 = p := ⟨_, rfl⟩
  obtain ⟨q, hq⟩ : ∃ q, around b 60 = q := ⟨_, rfl⟩
  obtain ⟨r, hrr⟩ : ∃ r, around more 30 = r := ⟨_, rfl⟩
  have hp0 := around_lo a 60 (by omega)
  have hp9 := around_hi a 60 (by omega)
  have hq0 := around_lo b 60 (by omega)
  have hq9 := around_hi b 60 (by omega)
  have hr0 := around_lo more 30 (by omega)
  have hr9 := around_hi more 30 (by omega)
  have HP : Hid (∀ w, Calls Try.prog 15 #[.int .i64 a, .int .i64 60] w fun e w' => e = .returned (.int .i64 p) ∧ w = w') := fun w => by rw [← hp]; exact around_any a 60 ha (by omega) w
  have HQ : Hid (∀ w, Calls Try.prog 15 #[.int .i64 b, .int .i64 60] w fun e w' => e = .returned (.int .i64 q) ∧ w = w') := fun w => by rw [← hq]; exact around_any b 60 hb (by omega) w
  have HRR : Hid (∀ w, Calls Try.prog 15 #[.int .i64 more, .int .i64 30] w fun e w' => e = .returned (.int .i64 r) ∧ w = w') := fun w => by rw [← hrr]; exact around_any more 30 hmo (by omega) w
  rw [hp] at hp0 hp9
  rw [hq] at hq0 hq9
  rw [hrr] at hr0 hr9
  obtain ⟨ST, hST⟩ : ∃ ST, clipF (d - 20 + p) = ST := ⟨_, rfl⟩
  have hSTv : ST = d - 20 + p := by rw [← hST]; unfold clipF; omega
  have HCF : Hid (∀ w, Calls Try.prog 14 #[.int .i64 (d - 20 + p)] w fun e w' => e = .returned (.int .i64 ST) ∧ w = w') := fun w => by rw [← hST]; exact clip_any _ w
  have hSTB : 739596 ≤ ST ∧ ST ≤ 739800 := by omega
  obtain ⟨S, hS⟩ : ∃ S, spansF l d = S := ⟨_, rfl⟩
  have hr : InR S := by rw [← hS]; exact spansF_InR l d
  have hsl : S.length ≤ 6 := by rw [← hS]; exact spansF_len l d
  have hnear : ∀ s ∈ S, d - 20 ≤ s.1 ∧ s.2 ≤ d + 73 := by rw [← hS]; exact spans_near hdr
  rw [hS] at HSP
  -- the five extensions
  obtain ⟨X, hX⟩ : ∃ X, exF ST (ST + q) (mrg S) = X := ⟨_, rfl⟩
  obtain ⟨Y, hY⟩ : ∃ Y, exF ST (ST + q + 1) (mrg S) = Y := ⟨_, rfl⟩
  obtain ⟨Z, hZ⟩ : ∃ Z, exF ST (ST + q) (mrg (S ++ [(ST, ST + r)])) = Z := ⟨_, rfl⟩
  have hX1 := exF_from ST (ST + q) (mrg S)
  have hX2 := exF_le (st := ST) (due := ST + q) hr.val hnear (by omega)
  have hY2 := exF_le (st := ST) (due := ST + q + 1) hr.val hnear (by omega)
  have hXY := exF_mono (st := ST) (due := ST + q) (due' := ST + q + 1) (mrg S) (by omega)
  have hrZ : InR (S ++ [(ST, ST + r)]) := hr.app (fun s hs => by simp at hs; subst hs; simp only; omega)
  have hXZ := exF_more (st := ST) (due := ST + q) hr.val hrZ.val (fun d h => cov_append.2 (.inl h))
  have hZ2 := exF_le (st := ST) (due := ST + q) hrZ.val (lo := d - 20) (hi := d + 73) (fun s hs => by
    rcases List.mem_append.1 hs with hs | hs
    · exact hnear s hs
    · simp at hs; subst hs; simp only; omega) (by omega)
  rw [hX] at hX1 hX2 hXY hXZ
  rw [hY] at hY2 hXY
  rw [hZ] at hZ2 hXZ
  have hXM : X ≤ 739900 := by omega
  have hYM : Y ≤ 739900 := by omega
  have hZM : Z ≤ 739900 := by omega
  have hU := used_ext (st := ST) (due := ST + q) hr.val (by rw [hX]; omega)
  rw [hX] at hU
  have hA := aside_ext (st := ST) (due := ST + q) hr.val (by omega) hX (by omega)
  have hrA : InR (S ++ [(0, ST), (X + 1, 3652058)]) := hr.app (fun s hs => by
    simp at hs
    rcases hs with rfl | rfl
    · simp only; omega
    · simp only; omega)
  obtain ⟨UL, hUL⟩ : ∃ UL, usedF ST (ST + q) (mrg S) S = UL := ⟨_, rfl⟩
  have hrU : InR UL := by rw [← hUL]; exact fun s hs => hr s (used_sub s hs)
  have hUl : UL.length ≤ 6 := by rw [← hUL]; exact Nat.le_trans used_len hsl
  rw [hUL] at hU
  have HE1 : Hid (∀ v w, IsSps w v S → Calls Try.prog 22 #[.int .i64 ST, .int .i64 (ST + q), v] w fun e w' => e = .returned (.tuple #[.int .i64 X, .int .i64 0]) ∧ Below w.heap.size w w') := fun v w h => by
    have := extend_fun _ v ST (ST + q) w h (by omega) hr.B hr.val (by unfold DayB; omega) (by unfold DayB; omega)
    rw [extF_exF (by rw [hX]; omega), hX] at this
    exact this
  have HE2 : Hid (∀ v w, IsSps w v S → Calls Try.prog 22 #[.int .i64 ST, .int .i64 (ST + q + 1), v] w fun e w' => e = .returned (.tuple #[.int .i64 Y, .int .i64 0]) ∧ Below w.heap.size w w') := fun v w h => by
    have := extend_fun _ v ST (ST + q + 1) w h (by omega) hr.B hr.val (by unfold DayB; omega) (by unfold DayB; omega)
    rw [extF_exF (by rw [hY]; omega), hY] at this
    exact this
  have HE3 : Hid (∀ v w, IsSps w v (S ++ [(ST, ST + r)]) → Calls Try.prog 22 #[.int .i64 ST, .int .i64 (ST + q), v] w fun e w' => e = .returned (.tuple #[.int .i64 Z, .int .i64 0]) ∧ Below w.heap.size w w') := fun v w h => by
    have := extend_fun _ v ST (ST + q) w h (by simp; omega) hrZ.B hrZ.val (by unfold DayB; omega) (by unfold DayB; omega)
    rw [extF_exF (by rw [hZ]; omega), hZ] at this
    exact this
  have HUS : Hid (∀ v w, IsSps w v S → Calls Try.prog 24 #[.int .i64 ST, .int .i64 (ST + q), v] w fun e w' => ∃ v', e = .returned v' ∧ IsSps w' v' UL ∧ Below w.heap.size w w') := fun v w h => by
    rw [← hUL]
    exact used_fun _ v ST (ST + q) w h (by omega) hr.B hr.val (by unfold DayB; omega) (by unfold DayB; omega)
  have HE4 : Hid (∀ v w, IsSps w v UL → Calls Try.prog 22 #[.int .i64 ST, .int .i64 (ST + q), v] w fun e w' => e = .returned (.tuple #[.int .i64 X, .int .i64 0]) ∧ Below w.heap.size w w') := fun v w h => by
    have := extend_fun _ v ST (ST + q) w h (by omega) hrU.B hrU.val (by unfold DayB; omega) (by unfold DayB; omega)
    rw [extF_exF (by rw [hU]; omega), hU] at this
    exact this
  have HE5 : Hid (∀ v w, IsSps w v (S ++ [(0, ST), (X + 1, 3652058)]) → Calls Try.prog 22 #[.int .i64 ST, .int .i64 (ST + q), v] w fun e w' => e = .returned (.tuple #[.int .i64 X, .int .i64 0]) ∧ Below w.heap.size w w') := fun v w h => by
    have := extend_fun _ v ST (ST + q) w h (by simp; omega) hrA.B hrA.val (by unfold DayB; omega) (by unfold DayB; omega)
    rw [extF_exF (by rw [hA]; omega), hA] at this
    exact this
  have q1 : IntKind.i64.wrap (d - 20) = d - 20 := by rw [IntKind.wrap_i64]; omega
  have q2 : IntKind.i64.wrap (d - 20 + p) = d - 20 + p := by rw [IntKind.wrap_i64]; omega
  have q3 : IntKind.i64.wrap (ST + q) = ST + q := by rw [IntKind.wrap_i64]; omega
  have q4 : IntKind.i64.wrap (ST + q + 1) = ST + q + 1 := by rw [IntKind.wrap_i64]; omega
  have q5 : IntKind.i64.wrap (ST + r) = ST + r := by rw [IntKind.wrap_i64]; omega
  have q6 : IntKind.i64.wrap (X + 1) = X + 1 := by rw [IntKind.wrap_i64]; omega
  have h1000 : S.length ≤ 1000 := by omega
  have HL1 : Hid (∀ W : World, Rd (W.alloc (.cells (litSp (ST, ST + r)) 40)) (.slice (some ⟨W.heap.size, 0, none⟩) 1 1) 2 1 (spRow (ST, ST + r))) := fun W => Rd.lit W (litSp (ST, ST + r)) 40 2 1 rfl (by unfold maxLen; omega)
  clear hbs hd hdv hd1 hd2 hdr hx hw hn ha hb hmo hp hq hrr hp0 hp9 hq0 hq9 hr0 hr9 hST hSTv hSTB hS hr hsl hnear hX hY hZ hX1 hX2 hY2 hrZ hZ2 hXM hYM hZM hU hA hrA hUL hrU hUl
  go_enter Try.func7, Try.ntmps7
  go_wp2_with fail
  refine HBS.out.mono ?_
  rintro e w' ⟨rfl, rfl⟩
  go_wp2_with fail
  refine HSP.out.mono ?_
  rintro e w1 ⟨v1, rfl, hv1, hb1⟩
  have HV1 := Lib.hid hv1
  have HB1 := Lib.hid hb1
  clear hv1 hb1
  go_wp2_with fail
  refine (HP.out _).mono ?_
  rintro e w' ⟨rfl, rfl⟩
  go_wp2_with fail
  refine (HCF.out _).mono ?_
  rintro e w' ⟨rfl, rfl⟩
  go_wp2_with fail
  refine (HQ.out _).mono ?_
  rintro e w' ⟨rfl, rfl⟩
  go_wp2_with fail
  refine (HE1.out _ _ HV1.out).mono ?_
  rintro e w2 ⟨rfl, hb2⟩
  have HV2 := Lib.hid (HV1.out.below hb2)
  have HB2 := Lib.hid (Below.to HB1.out hb2 HB1.out.size)
  clear hb2 HV1 HB1
  go_wp2_with fail
  refine (HE2.out _ _ HV2.out).mono ?_
  rintro e w3 ⟨rfl, hb3⟩
  have HV3 := Lib.hid (HV2.out.below hb3)
  have HB3 := Lib.hid (Below.to HB2.out hb3 HB2.out.size)
  have hs3 := HB3.out.size
  clear hb3 HV2 HB2
  -- a further span
  go_wp2_with (at_builtin; go_must (refine wpList_append_rd rfl _ _ 24 rfl w3.heap.size 40 _ 2 16 Try.underlying24 infoSp rfl (by decide) (.slice (some ⟨w3.heap.size, 0, none⟩) 0 0) 0 [] rfl (lit0 w3 _ (Nat.le_refl _)) _ S.length (spCells S) rfl (HV3.out.below ?a0) (spCells_one S) ?a1 ?a2 ?a3 ?_))
  case a0 => exact (Below.refl _ _).alloc (Nat.le_refl _) _
  case a1 => unfold maxLen; omega
  case a2 => omega
  case a3 => simp
  intro v4 w4 hv4 hg4
  have hb4 : Below w3.heap.size w3 w4 := below_append ((Below.refl _ _).alloc (Nat.le_refl _) _) (lit0 w3 _ (Nat.le_refl _)) hg4 (by simp)
  have HO4 := Lib.hid hv4
  have HB4 := Lib.hid hb4
  have hs4 := hb4.size
  obtain ⟨a4, c4, rfl, -, -⟩ := owns_slice hv4
  clear hv4 hg4 hb4
  go_wp2_with fail
  refine (HRR.out _).mono ?_
  rintro e w' ⟨rfl, rfl⟩
  go_wp2_with (at_builtin; go_must (refine wpList_append_rd rfl _ _ 24 rfl w3.heap.size 40 _ 2 16 Try.underlying24 infoSp rfl (by decide) (.slice a4 S.length c4) S.length (spCells S) rfl (owns_below HO4.out ?b0) _ 1 (spRow (ST, ST + r)) rfl (HL1.out _) (spCells_one [(ST, ST + r)]) ?b1 ?b2 ?b3 ?_))
  case b0 => exact (Below.refl _ _).alloc (Nat.le_refl _) _
  case b1 => unfold maxLen; omega
  case b2 => omega
  case b3 => simp; omega
  intro v5 w5 hv5 hg5
  have hb5 : Below w3.heap.size w3 w5 := below_append (Below.to HB4.out ((Below.refl _ _).alloc (Nat.le_refl _) _) hs4) (owns_below HO4.out ((Below.refl _ _).alloc (Nat.le_refl _) _)) hg5 (by simp; omega)
  have HI5 : Hid (IsSps w5 v5 (S ++ [(ST, ST + r)])) := by
    show IsSps _ _ _
    refine IsSps.of_owns (n := S.length + 1) (B := w3.heap.size) (e := 40) ?_
    rw [spCells_append, spCells_single]
    exact hv5
  have HV5 := Lib.hid (HV3.out.below hb5)
  have HB5 := Lib.hid (Below.to HB3.out hb5 hs3)
  clear hv5 hg5 hb5 HO4 HB4 HV3 HB3 hs4
  go_wp2_with fail
  refine (HE3.out _ _ HI5.out).mono ?_
  rintro e w6 ⟨rfl, hb6⟩
  have HV6 := Lib.hid (HV5.out.below hb6)
  have HB6 := Lib.hid (Below.to HB5.out hb6 HB5.out.size)
  clear hb6 HV5 HB5 HI5 hs3
  -- the used ones alone
  go_wp2_with fail
  refine (HUS.out _ _ HV6.out).mono ?_
  rintro e w7 ⟨v7, rfl, hv7, hb7⟩
  have HV7 := Lib.hid (HV6.out.below hb7)
  have HI7 := Lib.hid hv7
  have HB7 := Lib.hid (Below.to HB6.out hb7 HB6.out.size)
  clear hb7 hv7 HV6 HB6
  go_wp2_with fail
  refine (HE4.out _ _ HI7.out).mono ?_
  rintro e w8 ⟨rfl, hb8⟩
  obtain ⟨W8, hW8⟩ : ∃ W8, W8 = w8.alloc (.cells #[.int .i64 0, .int .i64 ST, .int .i64 (X + 1), .int .i64 3652058] 40) := ⟨_, rfl⟩
  have hbW : Below w8.heap.size w8 W8 := by rw [hW8]; exact (Below.refl _ _).alloc (Nat.le_refl _) _
  have HV8 := Lib.hid ((HV7.out.below hb8).below hbW)
  have HA8 : Hid (IsSps W8 (.slice (some ⟨w8.heap.size, 0, none⟩) 2 2) [(0, ST), (X + 1, 3652058)]) := by show IsSps _ _ _; rw [hW8]; exact spans_lit w8 [(0, ST), (X + 1, 3652058)] 40 (by simp)
  have HB8 := Lib.hid (Below.to (Below.to HB7.out hb8 HB7.out.size) hbW (Nat.le_trans HB7.out.size hb8.size))
  have HW8 := Lib.hid hW8
  have HS8 : Hid (W8.heap.size = w8.heap.size + 1) := by show _ = _; rw [hW8]; simp
  have hs8 := HB8.out.size
  clear hb8 hbW hW8 HV7 HI7 HB7
  -- spans aside
  go_wp2_with (at_builtin; go_must (rw [← HW8.out]; refine wpList_append_rd rfl _ _ 24 rfl W8.heap.size 40 _ 2 16 Try.underlying24 infoSp rfl (by decide) (.slice (some ⟨w8.heap.size + 1, 0, none⟩) 0 0) 0 [] rfl (lit1 W8 _ _ HS8.out (Nat.le_refl _)) _ S.length (spCells S) rfl (HV8.out.below ?c0) (spCells_one S) ?c1 ?c2 ?c3 ?_))
  case c0 => exact (Below.refl _ _).alloc (Nat.le_refl _) _
  case c1 => unfold maxLen; omega
  case c2 => omega
  case c3 => simp
  intro v9 w9 hv9 hg9
  have hb9 : Below W8.heap.size W8 w9 := below_append ((Below.refl _ _).alloc (Nat.le_refl _) _) (lit1 W8 _ _ HS8.out (Nat.le_refl _)) hg9 (by simp)
  have HO9 := Lib.hid hv9
  have HB9 := Lib.hid hb9
  have HA9 := Lib.hid (HA8.out.below hb9)
  have hs9 := hb9.size
  obtain ⟨a9, c9, rfl, -, -⟩ := owns_slice hv9
  clear hv9 hg9 hb9 HA8 HV8
  go_wp2_with (at_builtin; go_must (refine wpList_append_rd rfl _ _ 24 rfl W8.heap.size 40 _ 2 16 Try.underlying24 infoSp rfl (by decide) (.slice a9 S.length c9) S.length (spCells S) rfl HO9.out _ 2 (spCells [(0, ST), (X + 1, 3652058)]) rfl HA9.out (spCells_one _) ?e1 ?e2 ?e3 ?_))
  case e1 => unfold maxLen; omega
  case e2 => omega
  case e3 => exact hs9
  intro v10 w10 hv10 hg10
  have hb10 : Below W8.heap.size W8 w10 := below_append HB9.out HO9.out hg10 hs9
  have HI10 : Hid (IsSps w10 v10 (S ++ [(0, ST), (X + 1, 3652058)])) := by
    show IsSps _ _ _
    refine IsSps.of_owns (n := S.length + 2) (B := W8.heap.size) (e := 40) ?_
    rw [spCells_append]
    exact hv10
  have HB10 := Lib.hid (Below.to HB8.out hb10 hs8)
  clear hv10 hg10 hb10 HO9 HB9 HA9 HB8 hs9 hs8
  go_wp2_with fail
  refine (HE5.out _ _ HI10.out).mono ?_
  rintro e w11 ⟨rfl, hb11⟩
  have HB11 := Lib.hid (Below.to HB10.out hb11 HB10.out.size)
  clear hb11
  go_wp2_with fail
  refine (lives_any _).mono ?_
  rintro e w99 ⟨rfl, hb99⟩
  go_wp2_with fail
  go_ret
  exact ⟨rfl, Below.to HB11.out hb99 HB11.out.size⟩

end Go.Proofs.Ytkcmkpljpmfiaaa
