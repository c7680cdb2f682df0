/-
  The law TollingParts: an extension in two parts is one extension; its walk.
-/
import Derived.Test.YtkcmkpljpmfiaaaFun
import Derived.Test.YtkcmkpljpmfiaaaGen
namespace Go.Proofs.Ytkcmkpljpmfiaaa
open Go.RowKit

theorem ext_same {a b : Int} : ∀ (M : List (Int × Int)) (D : Int), (∀ s ∈ M, a < s.1 ∧ b < s.1) → extGo a D M = extGo b D M
  | [], D, _ => rfl
  | s :: r, D, h => by
    have hs := h s (by simp)
    unfold extGo
    by_cases hlt : D < s.1
    · rw [if_pos hlt, if_pos hlt]
    · rw [if_neg hlt, if_neg hlt, Int.max_eq_left (by omega : a + 1 ≤ s.1), Int.max_eq_left (by omega : b + 1 ≤ s.1)]
      exact ext_same r _ (fun x hx => h x (by simp [hx]))

theorem ext_ge {st : Int} : ∀ (M : List (Int × Int)) (due : Int), due ≤ extGo st due M
  | [], due => Int.le_refl _
  | s :: r, due => by
    unfold extGo
    by_cases hlt : due < s.1
    · rw [if_pos hlt]; exact Int.le_refl _
    · rw [if_neg hlt]
      have := ext_ge (st := st) r (due + max 0 (s.2 - max s.1 (st + 1) + 1))
      omega

theorem ext_parts {st y : Int} (hy : 0 ≤ y) : ∀ (M : List (Int × Int)) (due : Int), ValSp M → M.Pairwise (fun a b => a.1 ≤ b.1) → st < due → extGo (extGo st due M) (extGo st due M + y) M = extGo st (due + y) M
  | [], due, _, _, _ => rfl
  | s :: r, due, hv, hp, hd => by
    have hs := hv s (by simp)
    have hp' := List.pairwise_cons.1 hp
    by_cases hlt : due < s.1
    · have e : extGo st due (s :: r) = due := by unfold extGo; rw [if_pos hlt]
      rw [e]
      refine ext_same _ _ (fun x hx => ?_)
      rcases List.mem_cons.1 hx with rfl | hx
      · omega
      · have := hp'.1 x hx; omega
    · have e : extGo st due (s :: r) = extGo st (due + max 0 (s.2 - max s.1 (st + 1) + 1)) r := by conv => lhs; unfold extGo; rw [if_neg hlt]
      have hge := ext_ge (st := st) r (due + max 0 (s.2 - max s.1 (st + 1) + 1))
      have ih := ext_parts (st := st) hy r (due + max 0 (s.2 - max s.1 (st + 1) + 1)) (fun x hx => hv x (by simp [hx])) hp'.2 (by omega)
      rw [e]
      generalize extGo st (due + max 0 (s.2 - max s.1 (st + 1) + 1)) r = m at *
      have e1 : extGo m (m + y) (s :: r) = extGo m (m + y) r := by
        conv => lhs; unfold extGo
        rw [if_neg (by omega), show max 0 (s.2 - max s.1 (m + 1) + 1) = 0 from by omega, Int.add_zero]
      have e2 : extGo st (due + y) (s :: r) = extGo st (due + y + max 0 (s.2 - max s.1 (st + 1) + 1)) r := by
        conv => lhs; unfold extGo
        rw [if_neg (by omega)]
      rw [e1, e2, ih]
      congr 1
      omega

/-- The generated spans near 2026. -/
theorem base2 (n : Int) : baseF n 2 = 739616 + around n 60 := by
  unfold baseF
  rw [show around 2 4 = 2 from by decide, if_neg (by omega), if_neg (by omega)]
theorem spans_near {l : List Int} {d : Int} (hd : 739616 ≤ d ∧ d < 739676) : ∀ s ∈ spansF l d, d - 20 ≤ s.1 ∧ s.2 ≤ d + 73 := by
  intro s hs
  obtain ⟨i, -, rfl⟩ := List.mem_map.1 hs
  have h1 := around_lo (l.getD (2 * i) 0) 80 (by omega)
  have h2 := around_hi (l.getD (2 * i) 0) 80 (by omega)
  have h3 := around_lo (l.getD (2 * i + 1) 0) 15 (by omega)
  have h4 := around_hi (l.getD (2 * i + 1) 0) 15 (by omega)
  unfold spanAt
  simp only
  omega
theorem spansF_val (l : List Int) (d : Int) : ValSp (spansF l d) := fun s hs => (spansF_in l d s hs).2.1
theorem spansF_B (l : List Int) (d : Int) : SpB (spansF l d) := fun s hs => by have := spansF_in l d s hs; omega

/-- An extension over generated spans near 2026 ends soon. -/
theorem ext_soon {l : List Int} {d st due : Int} (hd : 739616 ≤ d ∧ d < 739676) : due ≤ extGo st due (mrg (spansF l d)) ∧ extGo st due (mrg (spansF l d)) ≤ due + 600 := by
  have hin := mrg_in (spansF_val l d) (spans_near (l := l) hd)
  obtain ⟨h1, h2⟩ := extGo_le (st := st) (c := 94) (by omega) (mrg (spansF l d)) due (fun s hs => by have := hin s hs; omega)
  have h3 := mrg_len (spansF l d)
  have h4 := spansF_len l d
  refine ⟨h1, Int.le_trans h2 ?_⟩
  have : ((mrg (spansF l d)).length : Int) ≤ 6 := by omega
  omega
theorem extF_ok {st due : Int} {M : List (Int × Int)} (h1 : st < due) (h2 : extGo st due M ≤ 3652058) : extF st due M = (extGo st due M, 0) := by
  unfold extF
  rw [if_neg (by omega), if_neg (by omega)]
theorem mrg_sorted {l : List (Int × Int)} (hv : ValSp l) : (mrg l).Pairwise (fun a b => a.1 ≤ b.1) := by
  obtain ⟨g1, g2, -⟩ := mrg_law hv
  unfold Apart at g2
  refine g2.imp_of_mem (fun {a b} ha hb h => ?_)
  have := g1 a ha
  omega

set_option maxHeartbeats 2000000 in
set_option maxRecDepth 100000 in
theorem tollingParts_any (l : List Int) (v : Value) (n a b at_ : Int) (w : World) (hx : IsInts w v l) (hw : ∀ x ∈ l, I64 x) (hn : I64 n) (ha : I64 a) (hb : I64 b) (hat : I64 at_) :
    Calls Try.prog 8 #[v, .int .i64 n, .int .i64 a, .int .i64 b, .int .i64 at_] w fun e w' => e = .returned (.bool true) ∧ Below w.heap.size w w' := by
  have hbs := base_any n 2 hn (by unfold I64; omega) w
  have hd1 := around_lo n 60 (by omega)
  have hd2 := around_hi n 60 (by omega)
  obtain ⟨d, hd⟩ : ∃ d, baseF n 2 = d := ⟨_, rfl⟩
  have hdv : d = 739616 + around n 60 := by rw [← hd, base2]
  rw [hd] at hbs
  have hdr : 739616 ≤ d ∧ d < 739676 := by omega
  have HBS := Lib.hid hbs
  have HSP := Lib.hid (spans_any l v d w hx hw (by omega))
  obtain ⟨p, hp⟩ : ∃ p, around at_ 60 = p := ⟨_, rfl⟩
  obtain ⟨x, hx1⟩ : ∃ x, around a 40 = x := ⟨_, rfl⟩
  obtain ⟨y, hy1⟩ : ∃ y, around b 40 = y := ⟨_, rfl⟩
  have hp0 := around_lo at_ 60 (by omega)
  have hp9 := around_hi at_ 60 (by omega)
  have hx0 := around_lo a 40 (by omega)
  have hx9 := around_hi a 40 (by omega)
  have hy0 := around_lo b 40 (by omega)
  have hy9 := around_hi b 40 (by omega)
  have HP : Hid (∀ w, Calls Try.prog 15 #[.int .i64 at_, .int .i64 60] w fun e w' => e = .returned (.int .i64 p) ∧ w = w') := fun w => by rw [← hp]; exact around_any at_ 60 hat (by omega) w
  have HXX : Hid (∀ w, Calls Try.prog 15 #[.int .i64 a, .int .i64 40] w fun e w' => e = .returned (.int .i64 x) ∧ w = w') := fun w => by rw [← hx1]; exact around_any a 40 ha (by omega) w
  have HYY : Hid (∀ w, Calls Try.prog 15 #[.int .i64 b, .int .i64 40] w fun e w' => e = .returned (.int .i64 y) ∧ w = w') := fun w => by rw [← hy1]; exact around_any b 40 hb (by omega) w
  rw [hp] at hp0 hp9
  rw [hx1] at hx0 hx9
  rw [hy1] at hy0 hy9
  have HV := Lib.hid (spansF_val l d)
  have HSB := Lib.hid (spansF_B l d)
  have hsl : (spansF l d).length ≤ 100000 := by have := spansF_len l d; omega
  have hst : d - 20 + p < d - 20 + p + (1 + x) := by omega
  obtain ⟨A, hA⟩ : ∃ A, extGo (d - 20 + p) (d - 20 + p + (1 + x)) (mrg (spansF l d)) = A := ⟨_, rfl⟩
  obtain ⟨B, hB⟩ : ∃ B, extGo A (A + (1 + y)) (mrg (spansF l d)) = B := ⟨_, rfl⟩
  have hsA := ext_soon (l := l) (st := d - 20 + p) (due := d - 20 + p + (1 + x)) hdr
  have hsB := ext_soon (l := l) (st := A) (due := A + (1 + y)) hdr
  have hsC := ext_soon (l := l) (st := d - 20 + p) (due := d - 20 + p + (1 + x) + (1 + y)) hdr
  have hpar := ext_parts (st := d - 20 + p) (y := 1 + y) (by omega) (mrg (spansF l d)) (d - 20 + p + (1 + x)) (mrg_law HV.out).1 (mrg_sorted HV.out) hst
  rw [hA] at hsA hpar
  rw [hB] at hsB hpar
  rw [← hpar] at hsC
  have HE1 : Hid (∀ v w, IsSps w v (spansF l d) → Calls Try.prog 22 #[.int .i64 (d - 20 + p), .int .i64 (d - 20 + p + (1 + x)), v] w fun e w' => e = .returned (.tuple #[.int .i64 A, .int .i64 0]) ∧ Below w.heap.size w w') := fun v w h => by
    have := extend_fun (spansF l d) v (d - 20 + p) (d - 20 + p + (1 + x)) w h hsl HSB.out HV.out (by unfold DayB; omega) (by unfold DayB; omega)
    rw [extF_ok hst (by rw [hA]; omega), hA] at this
    exact this
  have HE2 : Hid (∀ v w, IsSps w v (spansF l d) → Calls Try.prog 22 #[.int .i64 A, .int .i64 (A + (1 + y)), v] w fun e w' => e = .returned (.tuple #[.int .i64 B, .int .i64 0]) ∧ Below w.heap.size w w') := fun v w h => by
    have := extend_fun (spansF l d) v A (A + (1 + y)) w h hsl HSB.out HV.out (by unfold DayB; omega) (by unfold DayB; omega)
    rw [extF_ok (by omega) (by rw [hB]; omega), hB] at this
    exact this
  have HE3 : Hid (∀ v w, IsSps w v (spansF l d) → Calls Try.prog 22 #[.int .i64 (d - 20 + p), .int .i64 (d - 20 + p + (1 + x) + (1 + y)), v] w fun e w' => e = .returned (.tuple #[.int .i64 B, .int .i64 0]) ∧ Below w.heap.size w w') := fun v w h => by
    have := extend_fun (spansF l d) v (d - 20 + p) (d - 20 + p + (1 + x) + (1 + y)) w h hsl HSB.out HV.out (by unfold DayB; omega) (by unfold DayB; omega)
    rw [extF_ok (by omega) (by rw [← hpar]; omega), ← hpar] at this
    exact this
  have q1 : IntKind.i64.wrap (d - 20) = d - 20 := by rw [IntKind.wrap_i64]; omega
  have q2 : IntKind.i64.wrap (d - 20 + p) = d - 20 + p := by rw [IntKind.wrap_i64]; omega
  have q3 : IntKind.i64.wrap (1 + x) = 1 + x := by rw [IntKind.wrap_i64]; omega
  have q4 : IntKind.i64.wrap (1 + y) = 1 + y := by rw [IntKind.wrap_i64]; omega
  have q5 : IntKind.i64.wrap (d - 20 + p + (1 + x)) = d - 20 + p + (1 + x) := by rw [IntKind.wrap_i64]; omega
  have q6 : IntKind.i64.wrap (A + (1 + y)) = A + (1 + y) := by rw [IntKind.wrap_i64]; omega
  have q7 : IntKind.i64.wrap (d - 20 + p + (1 + x) + (1 + y)) = d - 20 + p + (1 + x) + (1 + y) := by rw [IntKind.wrap_i64]; omega
  clear hbs hd hdv hd1 hd2 hx hw hn ha hb hat hp hx1 hy1 hA hB hpar hsA hsB hsC hst hp0 hp9 hx0 hx9 hy0 hy9 hdr HV HSB hsl
  generalize spansF l d = S at *
  go_enter Try.func8, Try.ntmps8
  go_wp2_with fail
  refine HBS.out.mono ?_
  rintro e w' ⟨rfl, rfl⟩
  go_wp2_with fail
  refine HSP.out.mono ?_
  rintro e w1 ⟨v1, rfl, hv1, hb1⟩
  have HV1 := Lib.hid hv1
  have HB1 := Lib.hid hb1
  clear hv1 hb1
  go_wp2_with fail
  refine (HP.out _).mono ?_
  rintro e w' ⟨rfl, rfl⟩
  go_wp2_with fail
  refine (HXX.out _).mono ?_
  rintro e w' ⟨rfl, rfl⟩
  go_wp2_with fail
  refine (HYY.out _).mono ?_
  rintro e w' ⟨rfl, rfl⟩
  go_wp2_with fail
  refine (HE1.out _ _ HV1.out).mono ?_
  rintro e w2 ⟨rfl, hb2⟩
  have HV2 := Lib.hid (HV1.out.below hb2)
  have HB2 := Lib.hid (Below.to HB1.out hb2 HB1.out.size)
  clear hb2
  go_wp2_with fail
  refine (HE2.out _ _ HV2.out).mono ?_
  rintro e w3 ⟨rfl, hb3⟩
  have HV3 := Lib.hid (HV2.out.below hb3)
  have HB3 := Lib.hid (Below.to HB2.out hb3 HB2.out.size)
  clear hb3
  go_wp2_with fail
  refine (HE3.out _ _ HV3.out).mono ?_
  rintro e w4 ⟨rfl, hb4⟩
  have HB4 := Lib.hid (Below.to HB3.out hb4 HB3.out.size)
  clear hb4
  go_wp2_with fail
  refine (lives_any _).mono ?_
  rintro e w99 ⟨rfl, hb99⟩
  go_wp2_with fail
  go_ret
  exact ⟨rfl, Below.to HB4.out hb99 HB4.out.size⟩

end Go.Proofs.Ytkcmkpljpmfiaaa
